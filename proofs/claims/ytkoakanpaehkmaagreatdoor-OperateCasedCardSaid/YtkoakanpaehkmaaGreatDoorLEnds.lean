/-
  Line ends in a list of atoms: what Breaks counts and what Seek finds. (Plain.)
-/
import Derived.Test.YtkoakanpaehkmaaGreatDoorLGrow3
import Derived.Test.YtkoakanpaehkmaaGreatDoorLWalk
import Derived.Maps.AppendAt
set_option linter.unusedSimpArgs false
set_option linter.unusedVariables false
set_option maxRecDepth 100000
set_option maxHeartbeats 32000000
namespace Go.Proofs.YtkoakanpaehkmaaGreatDoor
open Go.RowKit
def fbF (k : Int) : Sums -> List (Int × Int) -> Nat
 | _, [] => 0
 | s, d :: r => if k <= s.breaks then 0 else fbF k (stepS s d) r + 1
theorem stepS_good {s : Sums} {d : Int × Int} (hs : s.good) (hd : 1 <= d.2) : (stepS s d).good /\ (stepS s d).atoms = s.atoms + 1 /\ s.breaks <= (stepS s d).breaks := by
 have h1 := addF_good hs (singleF_good d.1 d.2 hd)
 have h2 := keyF_mono hs (singleF_good d.1 d.2 hd) 1
 exact ⟨h1.1, h1.2.1, h2⟩
theorem foldl_mono {xs : List (Int × Int)} : ∀ {s : Sums}, s.good -> PosD xs -> s.breaks <= (xs.foldl stepS s).breaks := by
 induction xs with
 | nil => intro s _ _; exact Int.le_refl _
 | cons d xs ih =>
  intro s hs hx
  have h1 := stepS_good hs (hx d List.mem_cons_self)
  exact Int.le_trans h1.2.2 (ih h1.1 (fun e he => hx e (List.mem_cons_of_mem _ he)))
theorem fbF_app {k : Int} {ys : List (Int × Int)} (xs : List (Int × Int)) : ∀ (s : Sums), s.good -> PosD xs ->
  (k <= (xs.foldl stepS s).breaks -> fbF k s (xs ++ ys) = fbF k s xs) /\ ((xs.foldl stepS s).breaks < k -> fbF k s (xs ++ ys) = xs.length + fbF k (xs.foldl stepS s) ys) := by
 induction xs with
 | nil =>
  intro s hs _
  refine ⟨fun h => ?_, fun h => by simp⟩
  cases ys with
  | nil => rfl
  | cons d r =>
   rw [List.nil_append]
   show (if k <= s.breaks then 0 else fbF k (stepS s d) r + 1) = 0
   exact if_pos h
 | cons d xs ih =>
  intro s hs hx
  have h1 := stepS_good hs (hx d List.mem_cons_self)
  have hx' : PosD xs := fun e he => hx e (List.mem_cons_of_mem _ he)
  have hm := foldl_mono h1.1 hx'
  obtain ⟨i1, i2⟩ := ih _ h1.1 hx'
  have e1 : fbF k s (d :: xs ++ ys) = if k <= s.breaks then 0 else fbF k (stepS s d) (xs ++ ys) + 1 := rfl
  have e2 : fbF k s (d :: xs) = if k <= s.breaks then 0 else fbF k (stepS s d) xs + 1 := rfl
  rw [e1, e2]
  refine ⟨fun h => ?_, fun h => ?_⟩
  ·split
   ·rfl
   ·rw [i1 h]
  ·have h' : (xs.foldl stepS (stepS s d)).breaks < k := h
   have h2 := h1.2.2
   rw [if_neg (by omega), i2 h']
   show _ = xs.length + 1 + fbF k (xs.foldl stepS (stepS s d)) ys
   omega
theorem fbF_le (k : Int) (xs : List (Int × Int)) : ∀ s, fbF k s xs <= xs.length := by
 induction xs with
 | nil => intro s; simp [fbF]
 | cons d xs ih => intro s; simp only [fbF, List.length_cons]; split; omega; have := ih (stepS s d); omega
theorem findL_key {kk : Int} : ∀ (ps : List Pc) (s : Sums) (n : Int), AllGood ps -> s.good -> keyF s kk < n -> n <= keyF (addF s (sumL ps)) kk ->
  ∃ i : Nat, findL kk n s ps = i + 1 /\ i < ps.length /\ keyF (addF s (sumL (ps.take i))) kk < n /\ n <= keyF (addF s (sumL (ps.take (i + 1)))) kk := by
 intro ps
 induction ps with
 | nil => intro s n _ hs h1 h2; rw [sumL_nil, addF_zero_right hs] at h2; omega
 | cons p ps ih =>
  intro s n hok hs h1 h2
  have hp := hok p List.mem_cons_self
  have hps : AllGood ps := fun q hq => hok q (List.mem_cons_of_mem _ hq)
  have ga := addF_good hs hp
  have hfu : findL kk n s (p :: ps) = if n <= keyF (addF s p.sum) kk then 1 else findL kk n (addF s p.sum) ps + 1 := rfl
  rw [hfu]
  by_cases hle : n <= keyF (addF s p.sum) kk
  ·rw [if_pos hle]
   refine ⟨0, rfl, by simp, ?_, ?_⟩
   ·rw [List.take_zero, sumL_nil, addF_zero_right hs]; exact h1
   ·rw [Nat.zero_add, List.take_succ_cons, List.take_zero, sumL_cons, sumL_nil, addF_zero_right hp]; exact hle
  ·rw [if_neg hle]
   rw [sumL_cons, <- addF_assoc hs hp (sumL_good hps).1] at h2
   obtain ⟨i, e1, e2, e3, e4⟩ := ih (addF s p.sum) n hps ga.1 (by omega) h2
   refine ⟨i + 1, by rw [e1]; omega, by simpa using e2, ?_, ?_⟩
   ·rw [List.take_succ_cons, sumL_cons, <- addF_assoc hs hp (sumL_good (take_good hps i)).1]; exact e3
   ·rw [List.take_succ_cons, sumL_cons, <- addF_assoc hs hp (sumL_good (take_good hps (i + 1))).1]; exact e4
def sF (ds : List (Int × Int)) (k : Int) : Int :=
 if k = 0 then 0 else if k < 0 \/ (sumsOf ds).breaks < k then -1 else
 if (sumsOf (ds.take (fbF k zeroS ds))).cr = true /\ fbF k zeroS ds < ds.length /\ (ds.map Prod.fst).getD (fbF k zeroS ds) 0 = 10 then (fbF k zeroS ds : Int) + 1 else fbF k zeroS ds
theorem ahead_sum {enc : Int} {ps : List Pc} (hok : ∀ p ∈ ps, PcOk enc p) {at_ : Int} {i n : Nat} (hf : Found enc ps at_ i n) {p : Pc} (hp : ps[i]? = some p) (hle : at_ <= ((decL enc ps).length : Int)) :
  addF (sumL (ps.take i)) (sumsOf ((dec enc p.bytes).take n)) = sumsOf ((decL enc ps).take at_.toNat) := by
 obtain ⟨h1, h2, h3⟩ := hf
 have hlt : i < ps.length := by
  rcases Nat.lt_or_ge i ps.length with h | h
  ·exact h
  ·rw [List.getElem?_eq_none h] at hp; cases hp
 have hsp : ps = ps.take i ++ p :: ps.drop (i + 1) := by
  rw [List.getElem?_eq_getElem hlt] at hp
  injection hp with hp
  rw [<- hp, <- List.drop_eq_getElem_cons hlt, List.take_append_drop]
 have hn : n <= (dec enc p.bytes).length := by
  rcases Nat.lt_or_ge 0 n with h0 | h0
  ·obtain ⟨_, _, h5⟩ := h3 (by omega)
   have : ps.take (i + 1) = ps.take i ++ [p] := by rw [List.take_add_one, hp]; rfl
   rw [this, decL_app, List.length_append] at h5
   simp [decL] at h5 ⊢
   simp [decL] at h2
   omega
  ·omega
 have hd : (decL enc ps).take at_.toNat = decL enc (ps.take i) ++ (dec enc p.bytes).take n := by
  conv => lhs; rw [hsp]
  rw [decL_app, decL_cons, List.take_append, List.take_of_length_le (by omega), show at_.toNat - (decL enc (ps.take i)).length = n by omega, List.take_append_of_le_length hn]
 rw [hd, sumsOf_app (decL_pos enc _) ((dec_pos enc _).take n), sumL_dec (fun q hq => hok q (List.mem_of_mem_take hq))]
theorem cells_at {w : World} {b : Nat} {x : Pc} (h : Blk w b 142 x.cells) :
  w.cell? ⟨b, 0, none⟩ = some (.slice x.A x.n x.c) /\ w.cell? ⟨b, 1, none⟩ = some (.int .i64 x.tag) /\ w.cell? ⟨b, 2, none⟩ = some (.int .i64 x.sum.atoms) /\ w.cell? ⟨b, 3, none⟩ = some (.int .i64 x.sum.bytes) /\ w.cell? ⟨b, 4, none⟩ = some (.int .i64 x.sum.breaks) /\ w.cell? ⟨b, 5, none⟩ = some (.bool x.sum.lf) /\ w.cell? ⟨b, 6, none⟩ = some (.bool x.sum.cr) :=
 (part_facts h).1
def AhCut (w : World) (B7 : Nat) (s1 s2 : Sums) (wx : World) : Prop := Below w.heap.size w wx /\ Blk wx w.heap.size 134 s2.cells /\ Blk wx B7 134 s1.cells
section
variable {w w1 : World} {p0 p1 p2 p3 p4 p5 p6 p7 r : Addr} {v0 v1 v2 v3 v4 v5 v6 v7 x : Value} {o : Obj}
theorem hold8 (hb : Below w.heap.size w w1) (h : w.cell? p0 = some v0 /\ w.cell? p1 = some v1 /\ w.cell? p2 = some v2 /\ w.cell? p3 = some v3 /\ w.cell? p4 = some v4 /\ w.cell? p5 = some v5 /\ w.cell? p6 = some v6 /\ w.cell? p7 = some v7) :
  w1.cell? p0 = some v0 /\ w1.cell? p1 = some v1 /\ w1.cell? p2 = some v2 /\ w1.cell? p3 = some v3 /\ w1.cell? p4 = some v4 /\ w1.cell? p5 = some v5 /\ w1.cell? p6 = some v6 /\ w1.cell? p7 = some v7 :=
 ⟨cell_keep hb h.1, cell_keep hb h.2.1, cell_keep hb h.2.2.1, cell_keep hb h.2.2.2.1, cell_keep hb h.2.2.2.2.1, cell_keep hb h.2.2.2.2.2.1, cell_keep hb h.2.2.2.2.2.2.1, cell_keep hb h.2.2.2.2.2.2.2⟩
theorem hold8dr (h : w.cell? p0 = some v0 /\ w.cell? p1 = some v1 /\ w.cell? p2 = some v2 /\ w.cell? p3 = some v3 /\ w.cell? p4 = some v4 /\ w.cell? p5 = some v5 /\ w.cell? p6 = some v6 /\ w.cell? p7 = some v7) :
  w.drew.cell? p0 = some v0 /\ w.drew.cell? p1 = some v1 /\ w.drew.cell? p2 = some v2 /\ w.drew.cell? p3 = some v3 /\ w.drew.cell? p4 = some v4 /\ w.drew.cell? p5 = some v5 /\ w.drew.cell? p6 = some v6 /\ w.drew.cell? p7 = some v7 := h
theorem hold8al (h : w.cell? p0 = some v0 /\ w.cell? p1 = some v1 /\ w.cell? p2 = some v2 /\ w.cell? p3 = some v3 /\ w.cell? p4 = some v4 /\ w.cell? p5 = some v5 /\ w.cell? p6 = some v6 /\ w.cell? p7 = some v7) :
  (w.alloc o).cell? p0 = some v0 /\ (w.alloc o).cell? p1 = some v1 /\ (w.alloc o).cell? p2 = some v2 /\ (w.alloc o).cell? p3 = some v3 /\ (w.alloc o).cell? p4 = some v4 /\ (w.alloc o).cell? p5 = some v5 /\ (w.alloc o).cell? p6 = some v6 /\ (w.alloc o).cell? p7 = some v7 :=
 hold8 (balloc (Below.refl _ _)) h
theorem cell_far {w : World} {p r : Addr} {v x : Value} (hne : p.block ≠ r.block) (h : w.cell? p = some v) : (w.setCell r x).cell? p = some v := (World.cell?_of_block (w := w) (Below.heap_setCell w r x p.block hne)).trans h
theorem hold8set {b : Nat} {g : Nat} {j : Nat} (h1 : b ≠ r.block) (h2 : g ≠ r.block) (h : w.cell? ⟨b, 0, none⟩ = some v0 /\ w.cell? ⟨b, 1, none⟩ = some v1 /\ w.cell? ⟨b, 2, none⟩ = some v2 /\ w.cell? ⟨b, 3, none⟩ = some v3 /\ w.cell? ⟨b, 4, none⟩ = some v4 /\ w.cell? ⟨b, 5, none⟩ = some v5 /\ w.cell? ⟨b, 6, none⟩ = some v6 /\ w.cell? ⟨g, j, none⟩ = some v7) :
  (w.setCell r x).cell? ⟨b, 0, none⟩ = some v0 /\ (w.setCell r x).cell? ⟨b, 1, none⟩ = some v1 /\ (w.setCell r x).cell? ⟨b, 2, none⟩ = some v2 /\ (w.setCell r x).cell? ⟨b, 3, none⟩ = some v3 /\ (w.setCell r x).cell? ⟨b, 4, none⟩ = some v4 /\ (w.setCell r x).cell? ⟨b, 5, none⟩ = some v5 /\ (w.setCell r x).cell? ⟨b, 6, none⟩ = some v6 /\ (w.setCell r x).cell? ⟨g, j, none⟩ = some v7 :=
 ⟨cell_far h1 h.1, cell_far h1 h.2.1, cell_far h1 h.2.2.1, cell_far h1 h.2.2.2.1, cell_far h1 h.2.2.2.2.1, cell_far h1 h.2.2.2.2.2.1, cell_far h1 h.2.2.2.2.2.2.1, cell_far h2 h.2.2.2.2.2.2.2⟩
end
theorem new_lt0 {w w1 : World} (hb : Below w.drew.heap.size w.drew w1) : w.heap.size <= w1.heap.size := hb.size
theorem new_lt1 {w w1 : World} {o : Obj} (hb : Below (w.alloc o).drew.heap.size (w.alloc o).drew w1) : w.heap.size < w1.heap.size := by
 have := hb.size
 rw [show (w.alloc o).drew.heap.size = (w.alloc o).heap.size from rfl, World.size_alloc] at this
 exact this
theorem new_lt2 {w w1 : World} {o o' : Obj} (hb : Below ((w.alloc o).alloc o').drew.heap.size ((w.alloc o).alloc o').drew w1) : w.heap.size + 1 < w1.heap.size := by
 have := hb.size
 rw [show ((w.alloc o).alloc o').drew.heap.size = ((w.alloc o).alloc o').heap.size from rfl, World.size_alloc, World.size_alloc] at this
 exact this
theorem new_one {w w1 : World} (hb : Below (w.alloc (.cells #[.slice none 0 0, .int .i64 0, .int .i64 0, .int .i64 0, .int .i64 0, .bool false, .bool false] 142)).drew.heap.size (w.alloc (.cells #[.slice none 0 0, .int .i64 0, .int .i64 0, .int .i64 0, .int .i64 0, .bool false, .bool false] 142)).drew w1) : (w1.cell? ⟨w.heap.size, 0, none⟩ = some (.slice none 0 0) /\ w1.cell? ⟨w.heap.size, 1, none⟩ = some (.int .i64 0) /\ w1.cell? ⟨w.heap.size, 2, none⟩ = some (.int .i64 0) /\ w1.cell? ⟨w.heap.size, 3, none⟩ = some (.int .i64 0) /\ w1.cell? ⟨w.heap.size, 4, none⟩ = some (.int .i64 0) /\ w1.cell? ⟨w.heap.size, 5, none⟩ = some (.bool false) /\ w1.cell? ⟨w.heap.size, 6, none⟩ = some (.bool false)) /\ w1.frozen? ⟨w.heap.size, 0, none⟩ = false /\ w1.frozen? ⟨w.heap.size, 1, none⟩ = false /\ w1.frozen? ⟨w.heap.size, 2, none⟩ = false /\ w1.frozen? ⟨w.heap.size, 3, none⟩ = false /\ w1.frozen? ⟨w.heap.size, 4, none⟩ = false /\ w1.frozen? ⟨w.heap.size, 5, none⟩ = false /\ w1.frozen? ⟨w.heap.size, 6, none⟩ = false :=
 part_facts (A := none) (n := 0) (c := 0) (tag := 0) (s := zeroS) ((Blk.new w _ _).drew.below hb)
theorem new_two {w w1 : World} (hb : Below ((w.alloc (.cells #[.slice none 0 0, .int .i64 0, .int .i64 0, .int .i64 0, .int .i64 0, .bool false, .bool false] 142)).alloc (.cells #[.slice none 0 0, .int .i64 0, .int .i64 0, .int .i64 0, .int .i64 0, .bool false, .bool false] 142)).drew.heap.size ((w.alloc (.cells #[.slice none 0 0, .int .i64 0, .int .i64 0, .int .i64 0, .int .i64 0, .bool false, .bool false] 142)).alloc (.cells #[.slice none 0 0, .int .i64 0, .int .i64 0, .int .i64 0, .int .i64 0, .bool false, .bool false] 142)).drew w1) : ((w1.cell? ⟨w.heap.size, 0, none⟩ = some (.slice none 0 0) /\ w1.cell? ⟨w.heap.size, 1, none⟩ = some (.int .i64 0) /\ w1.cell? ⟨w.heap.size, 2, none⟩ = some (.int .i64 0) /\ w1.cell? ⟨w.heap.size, 3, none⟩ = some (.int .i64 0) /\ w1.cell? ⟨w.heap.size, 4, none⟩ = some (.int .i64 0) /\ w1.cell? ⟨w.heap.size, 5, none⟩ = some (.bool false) /\ w1.cell? ⟨w.heap.size, 6, none⟩ = some (.bool false)) /\ w1.frozen? ⟨w.heap.size, 0, none⟩ = false /\ w1.frozen? ⟨w.heap.size, 1, none⟩ = false /\ w1.frozen? ⟨w.heap.size, 2, none⟩ = false /\ w1.frozen? ⟨w.heap.size, 3, none⟩ = false /\ w1.frozen? ⟨w.heap.size, 4, none⟩ = false /\ w1.frozen? ⟨w.heap.size, 5, none⟩ = false /\ w1.frozen? ⟨w.heap.size, 6, none⟩ = false) /\ ((w1.cell? ⟨w.heap.size + 1, 0, none⟩ = some (.slice none 0 0) /\ w1.cell? ⟨w.heap.size + 1, 1, none⟩ = some (.int .i64 0) /\ w1.cell? ⟨w.heap.size + 1, 2, none⟩ = some (.int .i64 0) /\ w1.cell? ⟨w.heap.size + 1, 3, none⟩ = some (.int .i64 0) /\ w1.cell? ⟨w.heap.size + 1, 4, none⟩ = some (.int .i64 0) /\ w1.cell? ⟨w.heap.size + 1, 5, none⟩ = some (.bool false) /\ w1.cell? ⟨w.heap.size + 1, 6, none⟩ = some (.bool false)) /\ w1.frozen? ⟨w.heap.size + 1, 0, none⟩ = false /\ w1.frozen? ⟨w.heap.size + 1, 1, none⟩ = false /\ w1.frozen? ⟨w.heap.size + 1, 2, none⟩ = false /\ w1.frozen? ⟨w.heap.size + 1, 3, none⟩ = false /\ w1.frozen? ⟨w.heap.size + 1, 4, none⟩ = false /\ w1.frozen? ⟨w.heap.size + 1, 5, none⟩ = false /\ w1.frozen? ⟨w.heap.size + 1, 6, none⟩ = false) := by
 refine ⟨part_facts (A := none) (n := 0) (c := 0) (tag := 0) (s := zeroS) (((Blk.new w _ _).alloc _).drew.below hb), ?_⟩
 have := Blk.new (w.alloc (.cells #[.slice none 0 0, .int .i64 0, .int .i64 0, .int .i64 0, .int .i64 0, .bool false, .bool false] 142)) 142 #[.slice none 0 0, .int .i64 0, .int .i64 0, .int .i64 0, .int .i64 0, .bool false, .bool false]
 rw [World.size_alloc] at this
 exact part_facts (A := none) (n := 0) (c := 0) (tag := 0) (s := zeroS) (this.drew.below hb)
theorem ahead_any (D : Nat -> Prop) (g : Nat) (enc lim : Int) (t : Tr) (a : Option Addr) (add : Value) (at_ : Int) (w : World) (h : TextIn w D g enc lim t a add) (h0 : 0 <= at_) (h1 : at_ <= ((decL enc t.list).length : Int)) :
  Calls Tryz.prog 154 #[.pointer (some ⟨g, 0, none⟩), .int .i64 at_] w fun e w' => e = .returned (.agg (sumsOf ((decL enc t.list).take at_.toNat)).cells) /\ Below w.heap.size w w' := by
 obtain ⟨V, hV⟩ : ∃ V, sumsOf ((decL enc t.list).take at_.toNat) = V := ⟨_, rfl⟩
 rw [hV]
 have HV := Lib.hid hV
 clear hV
 have hW : Below w.heap.size w (w.alloc (.cells zeroS.cells 134)) := balloc (Below.refl _ w)
 have b4 : Blk (w.alloc (.cells zeroS.cells 134)) w.heap.size 134 zeroS.cells := Blk.new w _ _
 have hf := tfind_any D g enc lim t a add at_ _ (h.below hW) h0 h1
 have HF := Lib.hid hf
 have hdl := h.decLen
 have hlen := h.len
 have htot := h.tot
 have a1 : at_ <= 1073741824 := by omega
 clear hf
 simp only [Sums.cells, zeroS] at HF
 go_enter Tryz.func154, Tryz.ntmps154
 go_wp2_with fail
 refine (HF.out).mono ?_
 rintro e w1 ⟨i, nn, rfl, hfd, hb1⟩
 have hW1 := bseq hW hb1
 obtain ⟨c0, c2⟩ := (h.below hW1).cells
 have b41 := b4.below hb1
 have hfi := hfd.1
 have hnn : nn <= 1073741824 := by have := hfd.2.1; omega
 have HFD := Lib.hid hfd
 have hu := fun (w' : World) (hb : Below w.heap.size w w') => upto_any t a (i : Int) w' (NodeAt.below hb t a h.node) hlen (by omega) h.good (by omega)
 have hat := fun (w' : World) (hb : Below w.heap.size w w') => tat_any t a (i : Int) w' (NodeAt.below hb t a h.node) hlen (by omega)
 obtain ⟨S1, hS1⟩ : ∃ S, sumL (t.list.take i) = S := ⟨_, rfl⟩
 obtain ⟨op, hop⟩ : ∃ p, t.list[i]? = p := ⟨_, rfl⟩
 have hget : t.get (i : Int) = op := by unfold Tr.get; rw [if_neg (by omega), Int.toNat_natCast]; exact hop
 rw [Int.toNat_natCast, hS1] at hu
 rw [hget] at hat
 have HS1 := Lib.hid hS1
 have HOP := Lib.hid hop
 have HU := Lib.hid hu
 have HAT := Lib.hid hat
 have g1 : S1.good := by rw [<- HS1.out]; exact (sumL_good (take_good h.good i)).1
 have o1 : S1.ok := g1.ok (by
  have := (sumL_good (take_good h.good i)).2
  have := totB_take h.good i
  rw [<- HS1.out]
  omega)
 clear hu hat hS1 hop hget hfd b4 hfi
 simp only [Sums.cells] at HU
 go_wp2_with fail
 refine (HU.out _ hW1).mono ?_
 rintro e w2 ⟨rfl, hb2⟩
 have hW2 := bseq hW1 hb2
 obtain ⟨c0, c2⟩ := (h.below hW2).cells
 have b42 := b41.below hb2
 have zg := (h.below hW2).blk.lt
 have z4 := b42.lt
 go_wp2_with fail
 have hW3 := balloc (o := .cells S1.cells 134) hW2
 have b43 := b42.alloc (.cells S1.cells 134)
 have b73 : Blk (w2.alloc (.cells S1.cells 134)) w2.heap.size 134 S1.cells := Blk.new w2 _ _
 simp only [Sums.cells] at hW3 b43 b73
 refine (HAT.out _ hW3).mono ?_
 rintro e w3 ⟨rfl, hb3⟩
 have hW4 := bseq hW3 hb3
 have b44 := b43.below hb3
 have b74 := b73.below hb3
 have hne : w.heap.size < w2.heap.size := z4
 have z44 := b44.lt
 have z74 := b74.lt
 have zg4 := (h.below hW4).blk.lt
 clear hW3 b43 b73 hb1 hb2 hb3 HF HU HAT b41 b42 c0 c2 zg z4 hW hW1 hW2
 cases op with
 | none =>
  have hVS : V = S1 := by
   rw [<- HV.out, <- HS1.out]
   have h2 := HFD.out.2.1
   have h3 := HFD.out.2.2
   have hz : at_ = 0 := by
    rcases Int.lt_or_le 0 at_ with h | h
    ·obtain ⟨h4, _⟩ := h3 h
     have := HOP.out
     rw [List.getElem?_eq_getElem h4] at this
     cases this
    ·omega
   rw [sumL_dec (fun q hq => h.ok q (List.mem_of_mem_take hq)), List.eq_nil_of_length_eq_zero (l := decL enc (t.list.take i)) (by omega), hz]
   rfl
  subst hVS
  simp only [partV]
  go_upto_if 33 with fail
  go_cut [] (fun wx => AhCut w w2.heap.size V zeroS wx)
  case first =>
   go_wp2_with fail
   go_meet
   exact ⟨balloc hW4, b44.alloc _, b74.alloc _⟩
  case rest =>
   obtain ⟨hW5, b45, b75⟩ := hcut
   clear b44 b74 z44 z74 hW4 c0 c2
   obtain ⟨g0, g1, g2, g3, g4, _⟩ := sums_facts b75
   obtain ⟨j0, j1, j2, j3, j4, u0, u1, u2, u3, u4⟩ := sums_facts b45
   go_wp2_with fail
   refine bodyPost_ret (v := .agg V.cells) (by simp [results, Tryz.results154, go_sem, Sums.cells, j0, j1, j2, j3, j4]) rfl ⟨rfl, ?_⟩
   exact setS_below (s' := V) hW5 (Nat.le_refl _)
 | some p =>
  obtain ⟨b, pc⟩ : ∃ b : Bool, b = true := ⟨true, rfl⟩
  have hpo := h.ok p (List.mem_of_getElem? HOP.out)
  have hpb := h.bts p (List.mem_of_getElem? HOP.out)
  have hcut := fun (w' : World) (hb : Below w.heap.size w w') => cut_any enc D p (nn : Int) w' h.enc4 hpo (Reads.below hpb hb) (by omega) (by omega)
  simp only [CutV, Int.toNat_natCast] at hcut
  obtain ⟨S2, hS2⟩ : ∃ S, sumsOf ((dec enc p.bytes).take nn) = S := ⟨_, rfl⟩
  have hVS : addF S1 S2 = V := by rw [<- HV.out, <- HS1.out, <- hS2]; exact ahead_sum h.ok HFD.out HOP.out h1
  have o2 : S2.ok := by
   have h1 := sumsOf_good' ((dec_pos enc p.bytes).take nn)
   have h2 := (decF_size enc p.bytes.length p.bytes (Nat.le_refl _)).2
   have h3 := szs_bd enc nn p.bytes
   unfold szs at h3
   rw [<- hS2]
   refine h1.1.ok ?_
   rw [h1.2.2]
   have h4 := hpo.len
   have h5 := hpo.nle
   omega
  rw [hS2] at hcut
  obtain ⟨m1, hm1⟩ : ∃ m, (szs enc p.bytes nn).toNat = m := ⟨_, rfl⟩
  rw [hm1] at hcut
  obtain ⟨A2, n2, c2', t2, S3, hrest⟩ : ∃ (A2 : Option Addr) (n2 c2 : Nat) (t2 : Int) (S3 : Sums), partC (if p.c = m1 then p.A else p.A.map (·.add m1)) (p.n - m1) (p.c - m1) (if 0 <= p.tag then p.tag + szs enc p.bytes nn else p.tag) (sumsOf ((dec enc p.bytes).drop nn)) = partC A2 n2 c2 t2 S3 := ⟨_, _, _, _, _, rfl⟩
  rw [hrest] at hcut
  simp only [partC, Pc.cells] at hcut
  have HCUT := Lib.hid hcut
  have HVS := Lib.hid hVS
  clear hcut hVS hS2 hm1 hrest hpo hpb pc HV HFD HS1 g1
  simp only [partV]
  go_upto_if 33 with fail
  go_cut [] (fun wx => AhCut w w2.heap.size V zeroS wx)
  case first =>
   obtain ⟨w4, hw4⟩ : ∃ w4, w3.alloc (.cells #[.slice p.A p.n p.c, .int .i64 p.tag, .int .i64 p.sum.atoms, .int .i64 p.sum.bytes, .int .i64 p.sum.breaks, .bool p.sum.lf, .bool p.sum.cr] 142) = w4 := ⟨_, rfl⟩
   rw [hw4]
   have hW5 : Below w.heap.size w w4 := by rw [<- hw4]; exact balloc hW4
   have b45 : Blk w4 w.heap.size 134 zeroS.cells := by rw [<- hw4]; exact b44.alloc _
   have b75 : Blk w4 w2.heap.size 134 S1.cells := by rw [<- hw4]; exact b74.alloc _
   have b85 : Blk w4 w3.heap.size 142 p.cells := by rw [<- hw4]; exact Blk.new w3 _ _
   have ne1 : w.heap.size < w3.heap.size := z44
   have ne2 : w2.heap.size < w3.heap.size := z74
   clear hw4 b44 b74 z44 z74 hW4 c0 c2
   have ct := (h.below hW5).cells.1
   go_upto_region 5 with fail
   have zg5 := (h.below hW5).blk.lt
   have z85 := b85.lt
   have s0 : (w4.cell? ⟨w3.heap.size, 0, none⟩ = some (.slice p.A p.n p.c) /\ w4.cell? ⟨w3.heap.size, 1, none⟩ = some (.int .i64 p.tag) /\ w4.cell? ⟨w3.heap.size, 2, none⟩ = some (.int .i64 p.sum.atoms) /\ w4.cell? ⟨w3.heap.size, 3, none⟩ = some (.int .i64 p.sum.bytes) /\ w4.cell? ⟨w3.heap.size, 4, none⟩ = some (.int .i64 p.sum.breaks) /\ w4.cell? ⟨w3.heap.size, 5, none⟩ = some (.bool p.sum.lf) /\ w4.cell? ⟨w3.heap.size, 6, none⟩ = some (.bool p.sum.cr) /\ w4.cell? ⟨g, 0, none⟩ = some (.int .i64 enc)) := ⟨(cells_at b85).1, (cells_at b85).2.1, (cells_at b85).2.2.1, (cells_at b85).2.2.2.1, (cells_at b85).2.2.2.2.1, (cells_at b85).2.2.2.2.2.1, (cells_at b85).2.2.2.2.2.2, ct⟩
   have s00 := hold8dr s0
   have zz : w4.drew.heap.size = w4.heap.size := rfl
   have ZZ := Lib.hid zz
   clear zz ct
   go_region_held3 (fun w' => (w'.cell? ⟨w3.heap.size, 0, none⟩ = some (.slice p.A p.n p.c) /\ w'.cell? ⟨w3.heap.size, 1, none⟩ = some (.int .i64 p.tag) /\ w'.cell? ⟨w3.heap.size, 2, none⟩ = some (.int .i64 p.sum.atoms) /\ w'.cell? ⟨w3.heap.size, 3, none⟩ = some (.int .i64 p.sum.bytes) /\ w'.cell? ⟨w3.heap.size, 4, none⟩ = some (.int .i64 p.sum.breaks) /\ w'.cell? ⟨w3.heap.size, 5, none⟩ = some (.bool p.sum.lf) /\ w'.cell? ⟨w3.heap.size, 6, none⟩ = some (.bool p.sum.cr) /\ w'.cell? ⟨g, 0, none⟩ = some (.int .i64 enc))) (first | (with_reducible assumption) | ((repeat (first | (with_reducible refine hold8set (by dsimp only; omega) (by dsimp only; omega) ?_) | (with_reducible refine hold8al ?_) | (with_reducible refine hold8dr ?_))); with_reducible assumption)) (first | (go_at_call 175; (with_reducible refine (HCUT.out w4.drew hW5.drew).mono ?_); rintro e w5 ⟨rfl, hb5⟩; have s1 := hold8 hb5 (hold8dr s0); have hzz := new_lt0 hb5; have hq5 := bseq (Below.refl _ w4).drew hb5) | (go_at_call 175; (with_reducible refine (HCUT.out (w4.alloc (.cells #[.slice none 0 0, .int .i64 0, .int .i64 0, .int .i64 0, .int .i64 0, .bool false, .bool false] 142)).drew (balloc hW5).drew).mono ?_); rintro e w5 ⟨rfl, hb5⟩; have s1 := hold8 hb5 (hold8dr (hold8al s0)); have hzz := new_lt1 hb5; obtain ⟨⟨g0, g1, g2, g3, g4, g5, g6⟩, v0, v1, v2, v3, v4, v5, v6⟩ := new_one hb5; have hq5 := bseq (balloc (Below.refl _ w4)).drew hb5) | (go_at_call 175; (with_reducible refine (HCUT.out ((w4.alloc (.cells #[.slice none 0 0, .int .i64 0, .int .i64 0, .int .i64 0, .int .i64 0, .bool false, .bool false] 142)).alloc (.cells #[.slice none 0 0, .int .i64 0, .int .i64 0, .int .i64 0, .int .i64 0, .bool false, .bool false] 142)).drew (balloc (balloc hW5)).drew).mono ?_); rintro e w5 ⟨rfl, hb5⟩; have s1 := hold8 hb5 (hold8dr (hold8al (hold8al s0))); have hzz := new_lt2 hb5; obtain ⟨⟨⟨g0, g1, g2, g3, g4, g5, g6⟩, v0, v1, v2, v3, v4, v5, v6⟩, ⟨j0, j1, j2, j3, j4, j5, j6⟩, u0, u1, u2, u3, u4, u5, u6⟩ := new_two hb5; have hq5 := bseq (balloc (balloc (Below.refl _ w4))).drew hb5))
   all_goals
    have h25 : w2.heap.size < w5.heap.size := by have := hq5.size; omega
    have h24 : w2.heap.size < w4.heap.size := by omega
    obtain ⟨n0, n1, n2, n3, n4, r0, r1, r2, r3, r4⟩ := sums_facts (b75.below hq5)
    clear s00
    go_wp2_with (first | (go_at_call 156; refine (add_any' S1 S2 _ o1 o2).mono ?_; rintro e w6 ⟨rfl, hb6⟩; have hq6 := bseq (a := w4) (by repeat (first | with_reducible exact hq5 | (with_reducible refine balloc ?_) | (with_reducible refine Below.setCell ?_ (by dsimp only; omega) _))) hb6; obtain ⟨k0, k1, k2, k3, k4, l0, l1, l2, l3, l4⟩ := sums_facts (b75.below hq6)))
    go_meet
    have h45 := b45.below hq6
    have h75 := b75.below hq6
    refine ⟨setS_below (s' := addF S1 S2) (bseq hW5 hq6) (by omega), setS_far (s' := addF S1 S2) h45 (by omega), ?_⟩
    rw [<- HVS.out]
    exact setS_own (s' := addF S1 S2) h75
  case rest =>
   obtain ⟨hW5, b45, b75⟩ := hcut
   clear b44 b74 z44 z74 hW4 c0 c2
   obtain ⟨g0, g1, g2, g3, g4, _⟩ := sums_facts b75
   obtain ⟨j0, j1, j2, j3, j4, u0, u1, u2, u3, u4⟩ := sums_facts b45
   go_wp2_with fail
   refine bodyPost_ret (v := .agg V.cells) (by simp [results, Tryz.results154, go_sem, Sums.cells, j0, j1, j2, j3, j4]) rfl ⟨rfl, ?_⟩
   exact setS_below (s' := V) hW5 (Nat.le_refl _)
theorem twalk_none (D : Nat -> Prop) (g : Nat) (enc : Int) (ds : List (Int × Int)) (F : FuncId) (caps : Array Value) (f tt : Int) (w : World) (h : TextAt w D g enc ds) (hft : min tt ds.length <= max f 0) :
  Calls Tryz.prog 69 #[.pointer (some ⟨g, 0, none⟩), .int .i64 f, .int .i64 tt, .func (.func F) #[] caps] w fun e w' => e = .returned (.tuple #[]) /\ Below w.heap.size w w' := by
 obtain ⟨W1, hW1⟩ : ∃ W1, (w.alloc (.cells #[.pointer (some ⟨g, 0, none⟩)] 59)).alloc (.cells #[.func (.func F) #[] caps] 132) = W1 := ⟨_, rfl⟩
 have hb1 : Below w.heap.size w W1 := by rw [<- hW1]; exact balloc (balloc (Below.refl _ w))
 have b4 : Blk W1 w.heap.size 59 #[.pointer (some ⟨g, 0, none⟩)] := by rw [<- hW1]; exact (Blk.new w _ _).alloc _
 have hl := len_any D g enc _ W1 (h.below hb1)
 have hdl := h.len
 obtain ⟨n, hnn⟩ : ∃ n, ds.length = n := ⟨_, rfl⟩
 rw [hnn] at hl hdl hft
 have HW1 := Lib.hid hW1
 have HL := Lib.hid hl
 clear hW1 hl hnn
 go_enter Tryz.func69, Tryz.ntmps69
 go_upto_region 1 with fail
 have e1 := HW1.out
 rw [e1]
 clear e1 HW1
 go_cut [1, 2] (fun q1 q2 wx => q1 = .int .i64 (max f 0) /\ q2 = .int .i64 (min tt n) /\ Below w.heap.size w wx)
 case first =>
  have c4 := b4.cell 0
  simp at c4
  by_cases q0 : f < 0 <;> by_cases q1 : tt <= n
  all_goals
   go_wp2_with fail
   refine (HL.out).mono ?_
   rintro e w1 ⟨rfl, hb2⟩
   go_wp2_with fail
   go_meet
   exact ⟨ret_v (by omega), ret_v (by omega), bseq hb1 hb2⟩
 case rest =>
  obtain ⟨rfl, rfl, hb2⟩ := hcut
  obtain ⟨m1, hm1⟩ : ∃ m1, max f 0 = m1 := ⟨_, rfl⟩
  obtain ⟨m2, hm2⟩ : ∃ m2, min tt (n : Int) = m2 := ⟨_, rfl⟩
  rw [hm1, hm2] at hft ⊢
  clear hm1 hm2
  go_wp2_with fail
  exact bodyPost_ret (results_none rfl _ _ _) rfl ⟨rfl, hb2⟩
theorem seg_none {α : Type} (f tt : Int) (l : List α) (h : min tt (l.length : Int) <= max f 0) : seg f tt l = [] := by
 unfold seg
 by_cases h1 : tt <= max f 0
 ·rw [show tt.toNat - f.toNat = 0 by omega, List.take_zero]
 ·rw [List.drop_eq_nil_of_le (by omega), List.take_nil]
def TextTag (w : World) (D : Nat -> Prop) (g : Nat) (enc : Int) (ats : List (Int × Int)) : Prop := ∃ lim t a add, TextIn w D g enc lim t a add /\ atsL enc t.list = ats
theorem TextAt.tags {w : World} {D : Nat -> Prop} {g : Nat} {enc : Int} {ds : List (Int × Int)} (h : TextAt w D g enc ds) : ∃ ats, TextTag w D g enc ats /\ ats.map Prod.fst = ds.map Prod.fst := by
 obtain ⟨lim, t, a, add, h, rfl⟩ := h
 exact ⟨_, ⟨lim, t, a, add, h, rfl⟩, atsL_fst _ _⟩
theorem twalk_any {σ : Type} (F : FuncId) (caps : Array Value) (J : σ -> (Nat -> Prop) -> World -> Prop) (step : σ -> Int -> Int -> σ) (size : σ -> Nat) (hS : Sees F caps J step size) (D : Nat -> Prop) (g : Nat) (enc : Int) (ats : List (Int × Int)) (f tt : Int)
  (s0 : σ) (X0 : Nat -> Prop) (w : World) (h : TextTag w D g enc ats) (hD : ∀ b, D b -> b < w.heap.size -> ¬ X0 b) (hj : J s0 X0 w) (hs0 : size s0 <= 1000) (f0 : -2147483648 <= f) (t0 : tt <= 2147483648) :
  Calls Tryz.prog 69 #[.pointer (some ⟨g, 0, none⟩), .int .i64 f, .int .i64 tt, .func (.func F) #[] caps] w fun e w' => SeenPost J ((seg f tt ats).foldl (fun s a => step s a.1 a.2) s0) X0 w e w' := by
 obtain ⟨lim, t, a, add, h, rfl⟩ := h
 by_cases hft : max f 0 < min tt (decL enc t.list).length
 ·exact twalk_some F caps J step size hS D g enc lim t a add f tt s0 X0 w h hD hj hs0 f0 t0 hft
 ·refine (twalk_none D g enc _ F caps f tt w ⟨lim, t, a, add, h, rfl⟩ (by omega)).mono ?_
  rintro e w' ⟨rfl, hb⟩
  rw [seg_none f tt _ (by rw [atsL_len]; omega)]
  refine ⟨rfl, ⟨X0, ?_, fun b hb => .inl hb⟩, Fr.of_below hb⟩
  exact hS.keep _ _ _ _ hj (fun b hx => by obtain ⟨cs, T, hbk, _⟩ := hS.kind _ _ _ b hj hx; exact hb.block b hbk.lt)
def SeeJ (base g : Nat) (s : List Int) (X : Nat -> Prop) (w : World) : Prop := ∃ v, Blk w g 34 #[v] /\ w.ownsRow base 3 1 v s.length (s.map (Value.int .i64)) /\ X = fun b => b = g \/ v.ownBlock = some b
theorem atoms1_any (base g : Nat) (a tg : Int) (xs : List Int) (X : Nat -> Prop) (w : World) (h : SeeJ base g xs X w) (hg : base <= g) (hW : base <= w.heap.size) (hn : xs.length <= 2147483648) :
  Calls Tryz.prog 70 #[.int .i64 a, .int .i64 tg, .pointer (some ⟨g, 0, none⟩)] w fun e w' => SeenPost (SeeJ base g) (xs ++ [a]) X w e w' := by
 obtain ⟨v, hb, ho, rfl⟩ := h
 obtain ⟨i0, hi, hz0, hz1, hz2⟩ := info_parts int_info
 have c0 := hb.cell 0
 have f0 := hb.frozen 0
 simp at c0
 have hglt := hb.lt
 go_enter Tryz.func70, Tryz.ntmps70
 go_wp2_with (at_builtin; refine wpList_append_own_at _ rfl (.tmp 5) (.tmp 7) 34 rfl base 3 i0 (.int .i64 0) 1 8 Tryz.underlying34 hi hz0 hz1 hz2 rfl (by decide) v xs.length _ rfl (ho.alloc _) ⟨w.heap.size, 0, none⟩ 1 1 [.int .i64 a] rfl rfl ?c1 ?c2 ?c3 ?c4 ?c5 ?_)
 case c1 => exact cell_one_new _ _ _
 case c2 => simp [Value.oneCell']
 case c3 => unfold maxLen; omega
 case c4 => omega
 case c5 => simp; omega
 intro v1 w1 hown1 hgr _ hat
 have hb1 : Blk w1 g 34 #[v] := (hb.alloc _).grown hgr (fun e => own_blk_ne ho hb (by decide) e.symm)
 have hfr : Fr (fun b => b = g \/ v.ownBlock = some b) w w1 := ((Fr.refl _ w).alloc _).grown hgr (fun r hr _ => .inr hr)
 have hnew : ∀ b, v1.ownBlock = some b -> v.ownBlock = some b \/ w.heap.size <= b := by
  intro b e
  rcases hat with h | h
  ·exact .inl (h.symm.trans e)
  ·rw [h] at e
   injection e with e
   exact .inr (by rw [<- e]; simp)
 have c1 := hb1.cell 0
 have f1 := hb1.frozen 0
 simp at c1
 clear c0 f0
 obtain ⟨r, cap, rfl, _, hrl⟩ := hown1.form (by omega)
 have HNW := Lib.hid hnew
 clear hnew hat
 go_wp2_with fail
 go_end0
 refine ⟨rfl, ⟨_, ⟨_, hb1.set_ 0 _, ?_, rfl⟩, ?_⟩, hfr.setCell (.inl (.inl rfl)) _⟩
 ·rw [List.length_append, List.map_append]
  exact ownsRow_setCell_other hown1 (own_blk_ne hown1 hb1 (by decide)) _
 ·rintro b (hb2 | hb2)
  ·exact .inl (.inl hb2)
  ·rcases HNW.out b hb2 with h3 | h3
   ·exact .inl (.inr h3)
   ·exact .inr h3
theorem seeJ_sees (base g : Nat) (hg : base <= g) : Sees 70 #[.pointer (some ⟨g, 0, none⟩)] (fun (s : List Int) X w => SeeJ base g s X w /\ base <= w.heap.size) (fun s a _ => s ++ [a]) List.length := by
 constructor
 ·intro s a _; simp
 ·rintro s X a tg w ⟨h, hb⟩ hn
  refine (atoms1_any base g a tg s X w h hg hb hn).mono ?_
  rintro e w' ⟨rfl, ⟨X', h1, h2⟩, h3⟩
  exact ⟨rfl, ⟨X', ⟨h1, Nat.le_trans hb h3.size⟩, h2⟩, h3⟩
 ·exact Tryz.call70
 ·rintro s X w b ⟨⟨v, hb, ho, rfl⟩, _⟩ (rfl | hx)
  ·exact ⟨_, _, hb, .inr rfl⟩
  ·rcases ho.2 with ⟨rfl, _⟩ | ⟨r, cap, cur, rfl, h1, h2, _⟩
   ·simp [Value.ownBlock] at hx
   ·have e : r = b := by simpa [Value.ownBlock] using hx
    subst e
    exact ⟨_, _, h2, .inl rfl⟩
 ·rintro s X w w' ⟨⟨v, hb, ho, rfl⟩, hbs⟩ hk
  have hg1 : Blk w' g 34 #[v] := (hk g (.inl rfl)).trans hb
  refine ⟨⟨v, hg1, ⟨ho.1, ?_⟩, rfl⟩, by have := hg1.lt; omega⟩
  rcases ho.2 with h | ⟨r, cap, cur, rfl, h1, h2, h3⟩
  ·exact .inl h
  ·exact .inr ⟨r, cap, cur, rfl, h1, (hk r (.inr rfl)).trans h2, h3⟩
theorem foldl_fst (l : List (Int × Int)) : ∀ s : List Int, l.foldl (fun s a => s ++ [a.1]) s = s ++ l.map Prod.fst := by
 induction l with
 | nil => intro s; simp
 | cons a l ih => intro s; simp [ih]
def NewInts (l : List Int) (w : World) (e : Ending) (w' : World) : Prop := ∃ v, e = .returned v /\ w'.ownsRow w.heap.size 3 1 v l.length (l.map (Value.int .i64)) /\ Below w.heap.size w w'
theorem tatoms_any (D : Nat -> Prop) (g : Nat) (enc : Int) (ds : List (Int × Int)) (f tt : Int) (w : World) (h : TextAt w D g enc ds) (f0 : -2147483648 <= f) (t0 : tt <= 2147483648) :
  Calls Tryz.prog 27 #[.pointer (some ⟨g, 0, none⟩), .int .i64 f, .int .i64 tt] w fun e w' => NewInts (seg f tt (ds.map Prod.fst)) w e w' := by
 have hW : Below w.heap.size w (w.alloc (.cells #[.slice none 0 0] 34)) := balloc (Below.refl _ w)
 obtain ⟨ats, ht, hfst⟩ := ((h.more (D' := fun b => b < w.heap.size) (fun b _ h => h)).below hW).tags
 have hc := twalk_any 70 #[.pointer (some ⟨w.heap.size, 0, none⟩)] (fun (s : List Int) X w' => SeeJ w.heap.size w.heap.size s X w' /\ w.heap.size <= w'.heap.size) (fun s a _ => s ++ [a]) List.length (seeJ_sees _ _ (Nat.le_refl _))
  (fun b => b < w.heap.size) g enc ats f tt [] (fun b => b = w.heap.size \/ (Value.slice none 0 0).ownBlock = some b) _ ht (fun b hb _ hx => by rcases hx with rfl | hx; exact absurd hb (Nat.lt_irrefl _); simp [Value.ownBlock] at hx)
  ⟨⟨_, Blk.new w _ _, ⟨rfl, .inl ⟨rfl, rfl⟩⟩, rfl⟩, by simp⟩ (by simp) f0 t0
 rw [foldl_fst, seg_map, hfst, List.nil_append] at hc
 obtain ⟨L, hL⟩ : ∃ L, seg f tt (ds.map Prod.fst) = L := ⟨_, rfl⟩
 rw [hL] at hc ⊢
 have HC := Lib.hid hc
 clear hc hL hfst
 go_enter Tryz.func27, Tryz.ntmps27
 go_wp2_with fail
 refine (HC.out).mono ?_
 rintro e w1 ⟨rfl, ⟨X', ⟨⟨v, hb, ho, rfl⟩, hs⟩, hx⟩, hf⟩
 have c0 := hb.cell 0
 simp at c0
 have HO := Lib.hid ho
 have hfin : Below w.heap.size w w1 := bfr hW hf (fun b hb => by rcases hb with rfl | hb; exact Nat.le_refl _; simp [Value.ownBlock] at hb)
 clear ho hx
 go_wp2_with fail
 go_ret
 exact ⟨v, rfl, HO.out, hfin⟩
def bF (ds : List (Int × Int)) (at_ : Int) : Int :=
 if at_ <= 0 then 0 else if ds.length <= at_ then (sumsOf ds).breaks else
 if (sumsOf (ds.take at_.toNat)).cr = true /\ (ds.map Prod.fst).getD at_.toNat 0 = 10 then (sumsOf (ds.take at_.toNat)).breaks - 1 else (sumsOf (ds.take at_.toNat)).breaks
theorem seg_one (l : List Int) (k : Nat) (h : k < l.length) : seg (k : Int) ((k : Int) + 1) l = [l.getD k 0] := by
 unfold seg
 rw [show ((k : Int) + 1).toNat - (k : Int).toNat = 1 by omega, Int.toNat_natCast, List.drop_eq_getElem_cons h, List.getD_eq_getElem?_getD, List.getElem?_eq_getElem h]
 rfl
theorem breaksT_any (D : Nat -> Prop) (g : Nat) (enc : Int) (ds : List (Int × Int)) (at_ : Int) (w : World) (h : TextAt w D g enc ds) :
  Calls Tryz.prog 125 #[.pointer (some ⟨g, 0, none⟩), .int .i64 at_] w fun e w' => e = .returned (.int .i64 (bF ds at_)) /\ Below w.heap.size w w' := by
 have hlen := h.len
 by_cases h0 : at_ <= 0
 ·have e : bF ds at_ = 0 := if_pos h0
  rw [e]
  clear e
  go_enter Tryz.func125, Tryz.ntmps125
  go_wp2_with fail
  go_ret
  exact ⟨rfl, Below.refl _ _⟩
 ·have h0' : 0 < at_ := by omega
  have hl := len_any D g enc ds w h
  obtain ⟨n, hn⟩ : ∃ n, ds.length = n := ⟨_, rfl⟩
  rw [hn] at hl hlen
  have HN := Lib.hid hn
  have HL := Lib.hid hl
  clear hl hn
  by_cases h1 : (n : Int) <= at_
  ·obtain ⟨V, hV⟩ : ∃ V, bF ds at_ = V := ⟨_, rfl⟩
   have e : V = (sumsOf ds).breaks := by rw [<- hV]; unfold bF; rw [if_neg h0, if_pos (by rw [HN.out]; exact h1)]
   rw [hV, e]
   clear hV e
   obtain ⟨lim, t, a, add, hT, rfl⟩ := h
   obtain ⟨S, hS⟩ : ∃ S, sumsOf (decL enc t.list) = S := ⟨_, rfl⟩
   rw [hS]
   have HS := Lib.hid hS
   clear hS
   go_enter Tryz.func125, Tryz.ntmps125
   go_wp2_with fail
   refine (HL.out).mono ?_
   rintro e w1 ⟨rfl, hb1⟩
   have hT1 := hT.below hb1
   obtain ⟨c0, c2⟩ := hT1.cells
   have hc := tsum_any t a w1 hT1.node
   rw [hT1.sum, HS.out] at hc
   have HC := Lib.hid hc
   have kf := field2 S.atoms S.bytes S.breaks S.lf S.cr
   clear hc HL
   go_wp2_with fail
   refine (HC.out).mono ?_
   rintro e w2 ⟨rfl, hb2⟩
   go_wp2_with fail
   go_ret
   exact ⟨rfl, bseq hb1 hb2⟩
  ·have h1' : at_ < (n : Int) := by omega
   obtain ⟨k, rfl⟩ : ∃ k : Nat, at_ = (k : Int) := ⟨at_.toNat, by omega⟩
   obtain ⟨⟨sa, sb, sk, sl, sc⟩, hS⟩ : ∃ S, sumsOf (ds.take k) = S := ⟨_, rfl⟩
   obtain ⟨c, hc⟩ : ∃ c, (ds.map Prod.fst).getD k 0 = c := ⟨_, rfl⟩
   have e : bF ds k = if sc = true /\ c = 10 then sk - 1 else sk := by
    unfold bF
    rw [if_neg h0, if_neg (by rw [HN.out]; omega), Int.toNat_natCast, hS, hc]
   have hat := fun (w' : World) (hb : Below w.heap.size w w') => tatoms_any D g enc ds (k : Int) ((k : Int) + 1) w' (h.below hb) (by omega) (by omega)
   rw [seg_one _ k (by rw [List.length_map, HN.out]; omega), hc] at hat
   have hsg := sumsOf_good' (h.pos.take k)
   rw [hS] at hsg
   obtain ⟨⟨s1, s2, s3, _⟩, s4, hsg'⟩ := hsg
   dsimp only at s1 s2 s3 s4
   have hbk : 0 <= sk /\ sk <= 1073741824 := ⟨s1, by rw [List.length_take] at s4; omega⟩
   obtain ⟨hbk1, hbk2⟩ := hbk
   rw [e]
   have HAT := Lib.hid hat
   have hah' : ∀ w', Below w.heap.size w w' -> Calls Tryz.prog 154 #[.pointer (some ⟨g, 0, none⟩), .int .i64 (k : Int)] w' fun e w2 => e = .returned (.agg (Sums.mk sa sb sk sl sc).cells) /\ Below w'.heap.size w' w2 := fun w' hb => by
    obtain ⟨lim, t, a, add, hT, rfl⟩ := h
    have := ahead_any D g enc lim t a add (k : Int) w' (hT.below hb) (by omega) (by rw [HN.out]; omega)
    rw [Int.toNat_natCast, hS] at this
    exact this
   simp only [Sums.cells] at hah'
   have HAH := Lib.hid hah'
   clear hat hah' e hS hc s1 s2 s3 s4 hsg'
   cases sc
   ·rw [if_neg (by simp)]
    go_enter Tryz.func125, Tryz.ntmps125
    go_wp2_with fail
    refine (HL.out).mono ?_
    rintro e w1 ⟨rfl, hb1⟩
    clear HL
    go_wp2_with fail
    refine (HAH.out _ hb1).mono ?_
    rintro e w2 ⟨rfl, hb2⟩
    have hW2 := bseq hb1 hb2
    clear HAH
    go_wp2_with fail
    go_ret
    exact ⟨rfl, balloc hW2⟩
   ·have q : ∀ V : Int, V = (if true = true /\ c = 10 then sk - 1 else sk) -> Ending.returned (.int .i64 V) = .returned (.int .i64 (if true = true /\ c = 10 then sk - 1 else sk)) := fun V h => by rw [h]
    obtain ⟨V, hV⟩ : ∃ V : Int, (if true = true /\ c = 10 then sk - 1 else sk) = V := ⟨_, rfl⟩
    rw [hV]
    have HV := Lib.hid hV
    clear q hV
    go_enter Tryz.func125, Tryz.ntmps125
    go_wp2_with fail
    refine (HL.out).mono ?_
    rintro e w1 ⟨rfl, hb1⟩
    clear HL
    go_wp2_with fail
    refine (HAH.out _ hb1).mono ?_
    rintro e w2 ⟨rfl, hb2⟩
    have hW2 := bseq hb1 hb2
    have hW3 := balloc (o := .cells (Sums.mk sa sb sk sl true).cells 134) hW2
    have b5 : Blk (w2.alloc (.cells (Sums.mk sa sb sk sl true).cells 134)) w2.heap.size 134 (Sums.mk sa sb sk sl true).cells := Blk.new w2 _ _
    have hat' := HAT.out _ hW3
    simp only [Sums.cells] at hat' b5
    have HATT := Lib.hid hat'
    clear hat' HAT HAH hb1 hb2
    go_wp2_with fail
    refine (HATT.out).mono ?_
    rintro e w3 ⟨v, rfl, hown, hb3⟩
    have hW4 := bseq hW3 hb3
    have b6 := b5.below hb3
    have c2 := b6.cell 2
    simp at c2
    obtain ⟨r, cap, rfl, hr1, hr2⟩ := hown.form (by simp)
    have c0 := hown.cells (g := r) rfl 0 (.int .i64 c) (by simp)
    have qc : (c == 10) = decide (c = 10) := by rw [Bool.eq_iff_iff]; simp
    have HO := Lib.hid hown
    simp [Addr.add] at c0
    clear hown HATT
    by_cases hc : c = 10
    ·subst hc
     go_wp2_with fail
     go_ret
     refine ⟨ret_i ?_, hW4⟩
     have := HV.out
     simp at this
     omega
    ·have q : (c == 10) = false := by rw [beq_eq_false_iff_ne]; exact hc
     have hv := HV.out
     rw [if_neg (fun h => hc h.2)] at hv
     have HV2 := Lib.hid hv
     clear hv hc qc
     go_wp2_with fail
     go_ret
     exact ⟨ret_i HV2.out, hW4⟩
def isE (A : List Int) (p : Nat) : Bool := decide (0 < p /\ p <= A.length /\ (A.getD (p - 1) 0 = 10 \/ (A.getD (p - 1) 0 = 13 /\ ¬ (p < A.length /\ A.getD p 0 = 10))))
def cntE (A : List Int) : Nat -> Nat
 | 0 => 0
 | n + 1 => cntE A n + if isE A (n + 1) = true then 1 else 0
theorem cntE_succ (A : List Int) (n : Nat) : cntE A (n + 1) = cntE A n + if isE A (n + 1) = true then 1 else 0 := rfl
theorem cntE_mono (A : List Int) {m n : Nat} (h : m <= n) : cntE A m <= cntE A n := by
 induction n with
 | zero => rw [show m = 0 by omega]; exact Nat.le_refl _
 | succ n ih =>
  rcases Nat.lt_or_ge n m with h1 | h1
  ·rw [show m = n + 1 by omega]; exact Nat.le_refl _
  ·exact Nat.le_trans (ih h1) (Nat.le_add_right _ _)
theorem cntE_lt (A : List Int) {m n : Nat} (h : m < n) (he : isE A n = true) : cntE A m < cntE A n := by
 have h1 := cntE_mono A (show m <= n - 1 by omega)
 have h2 := cntE_succ A (n - 1)
 rw [show n - 1 + 1 = n by omega, he, if_pos rfl] at h2
 omega
theorem cntE_le (A : List Int) (n : Nat) : cntE A n <= n := by
 induction n with
 | zero => exact Nat.le_refl _
 | succ n ih => rw [cntE_succ]; split <;> omega
section
variable {ds : List (Int × Int)} (hp : PosD ds)
include hp
theorem pre_step {n : Nat} (hn : n < ds.length) : (sumsOf (ds.take (n + 1))).breaks = (sumsOf (ds.take n)).breaks + (if (ds.map Prod.fst).getD n 0 = 10 \/ (ds.map Prod.fst).getD n 0 = 13 then 1 else 0) - (if (sumsOf (ds.take n)).cr = true /\ (ds.map Prod.fst).getD n 0 = 10 then 1 else 0) /\
  (sumsOf (ds.take (n + 1))).cr = ((ds.map Prod.fst).getD n 0 == 13) := by
 have hg := sumsOf_good' (hp.take n)
 obtain ⟨s, hs⟩ : ∃ s, sumsOf (ds.take n) = s := ⟨_, rfl⟩
 obtain ⟨d, hd⟩ : ∃ d, ds[n]? = some d := ⟨_, List.getElem?_eq_getElem hn⟩
 have ha : (ds.map Prod.fst).getD n 0 = d.1 := by rw [List.getD_eq_getElem?_getD, List.getElem?_map, hd]; rfl
 have hst : sumsOf (ds.take (n + 1)) = addF s (singleF d.1 d.2) := by
  rw [List.take_add_one, hd]
  unfold sumsOf at hs ⊢
  rw [Option.toList_some, List.foldl_append, hs]
  rfl
 rw [hst, ha, hs]
 rw [hs] at hg
 obtain ⟨⟨_, _, _, g4, _⟩, g5, _⟩ := hg
 by_cases h0 : s.atoms = 0
 ·rw [g4 h0, addF_zero_left]
  simp only [singleF, zeroS]
  exact ⟨by simp, trivial⟩
 ·rw [addF_nz h0 (by simp [singleF])]
  dsimp only [singleF]
  refine ⟨?_, rfl⟩
  by_cases hc : s.cr = true <;> by_cases h10 : d.1 = 10
  ·simp [hc, h10]
  ·simp [hc, h10]
  ·simp [hc, h10]
  ·simp [hc, h10]
def corr (A : List Int) (n : Nat) : Bool := decide (0 < n /\ n < A.length /\ A.getD (n - 1) 0 = 13 /\ A.getD n 0 = 10)
theorem pre_cr {n : Nat} (hn : n <= ds.length) : (sumsOf (ds.take n)).cr = decide (0 < n /\ (ds.map Prod.fst).getD (n - 1) 0 = 13) := by
 cases n with
 | zero => rfl
 | succ n =>
  rw [(pre_step hp (n := n) (by omega)).2, Nat.add_sub_cancel, Bool.eq_iff_iff]
  simp
theorem pre_cnt {n : Nat} (hn : n <= ds.length) : (sumsOf (ds.take n)).breaks = cntE (ds.map Prod.fst) n + (if corr (ds.map Prod.fst) n = true then 1 else 0) := by
 induction n with
 | zero => simp [corr, cntE, sumsOf, zeroS]
 | succ n ih =>
  have h1 := (pre_step hp (n := n) (by omega)).1
  rw [ih (by omega), pre_cr hp (by omega)] at h1
  rw [h1, cntE_succ]
  have hl : (ds.map Prod.fst).length = ds.length := List.length_map ..
  obtain ⟨A, hA⟩ : ∃ A, ds.map Prod.fst = A := ⟨_, rfl⟩
  rw [hA] at hl ⊢
  unfold corr isE
  simp only [Nat.add_sub_cancel, decide_eq_true_eq]
  obtain ⟨x, hx⟩ : ∃ x, A.getD n 0 = x := ⟨_, rfl⟩
  obtain ⟨y, hy⟩ : ∃ y, A.getD (n + 1) 0 = y := ⟨_, rfl⟩
  obtain ⟨z, hz⟩ : ∃ z, A.getD (n - 1) 0 = z := ⟨_, rfl⟩
  rw [hx, hy, hz]
  by_cases h10 : x = 10
  ·subst h10
   by_cases hc : 0 < n /\ z = 13
   ·have e1 : (0 < n /\ n < A.length /\ z = 13 /\ (10 : Int) = 10) = True := by simp; exact ⟨hc.1, by omega, hc.2⟩
    simp [e1, hc, show n < A.length by omega, show n + 1 <= A.length by omega]
   ·have e1 : ¬ (0 < n /\ n < A.length /\ z = 13 /\ (10 : Int) = 10) := fun h => hc ⟨h.1, h.2.2.1⟩
    simp [hc, show n + 1 <= A.length by omega]
    rw [if_neg (fun h => hc ⟨h.1, h.2.2⟩)]
    omega
  ·have e1 : ¬ (0 < n /\ n < A.length /\ z = 13 /\ x = 10) := fun h => h10 h.2.2.2
   by_cases h13 : x = 13
   ·subst h13
    by_cases hy10 : n + 1 < A.length /\ y = 10
    ·simp [e1, hy10, show n + 1 <= A.length by omega]
    ·simp [hy10, show n + 1 <= A.length by omega]
   ·simp [e1, h10, h13]
theorem tot_cnt : (sumsOf ds).breaks = cntE (ds.map Prod.fst) ds.length := by
 have := pre_cnt hp (n := ds.length) (Nat.le_refl _)
 rw [List.take_length] at this
 rw [this, if_neg (by unfold corr; simp)]
 omega
theorem bF_cnt (at_ : Int) : bF ds at_ = cntE (ds.map Prod.fst) (min at_.toNat ds.length) := by
 unfold bF
 by_cases h0 : at_ <= 0
 ·rw [if_pos h0, show at_.toNat = 0 by omega, Nat.zero_min]; rfl
 ·rw [if_neg h0]
  by_cases h1 : (ds.length : Int) <= at_
  ·rw [if_pos h1, tot_cnt hp, Nat.min_eq_right (by omega)]
  ·rw [if_neg h1, Nat.min_eq_left (by omega)]
   have h2 := pre_cnt hp (n := at_.toNat) (by omega)
   rw [h2, pre_cr hp (by omega)]
   unfold corr
   simp only [decide_eq_true_eq, List.length_map]
   by_cases hc : (0 < at_.toNat /\ (ds.map Prod.fst).getD (at_.toNat - 1) 0 = 13) /\ (ds.map Prod.fst).getD at_.toNat 0 = 10
   ·rw [if_pos hc, if_pos ⟨hc.1.1, by omega, hc.1.2, hc.2⟩]; omega
   ·rw [if_neg hc, if_neg (fun h => hc ⟨⟨h.1, h.2.2.1⟩, h.2.2.2⟩)]; omega
omit hp in
theorem fbF_spec {k : Int} : ∀ (r pre : List (Int × Int)), PosD (pre ++ r) ->
  (∀ j, j < fbF k (sumsOf pre) r -> (sumsOf (pre ++ r.take j)).breaks < k) /\ (k <= (sumsOf (pre ++ r)).breaks -> k <= (sumsOf (pre ++ r.take (fbF k (sumsOf pre) r))).breaks) := by
 intro r
 induction r with
 | nil => intro pre _; exact ⟨fun j h => by simp [fbF] at h, fun h => by simpa [fbF] using h⟩
 | cons d r ih =>
  intro pre hpos
  have e1 : fbF k (sumsOf pre) (d :: r) = if k <= (sumsOf pre).breaks then 0 else fbF k (stepS (sumsOf pre) d) r + 1 := rfl
  have e2 : stepS (sumsOf pre) d = sumsOf (pre ++ [d]) := by unfold sumsOf; rw [List.foldl_append]; rfl
  have hpos' : PosD ((pre ++ [d]) ++ r) := by simpa using hpos
  obtain ⟨i1, i2⟩ := ih (pre ++ [d]) hpos'
  rw [e1, e2]
  by_cases hk : k <= (sumsOf pre).breaks
  ·rw [if_pos hk]
   exact ⟨fun j h => absurd h (Nat.not_lt_zero _), fun _ => by simpa using hk⟩
  ·rw [if_neg hk]
   refine ⟨fun j h => ?_, fun h => ?_⟩
   ·cases j with
    | zero => simpa using hk
    | succ j =>
     have := i1 j (by omega)
     simpa using this
   ·have := i2 (by simpa using h)
    simpa using this
theorem sF_spec {k : Int} (h0 : 0 < k) (h1 : k <= cntE (ds.map Prod.fst) ds.length) : ∃ p : Nat, sF ds k = p /\ isE (ds.map Prod.fst) p = true /\ (cntE (ds.map Prod.fst) p : Int) = k := by
 obtain ⟨J, hJ⟩ : ∃ J, fbF k zeroS ds = J := ⟨_, rfl⟩
 have hle : J <= ds.length := by rw [<- hJ]; exact fbF_le _ _ _
 obtain ⟨f1, f2⟩ := fbF_spec (k := k) ds [] (by simpa using hp)
 have e0 : sumsOf [] = zeroS := rfl
 rw [e0, hJ] at f1 f2
 simp only [List.nil_append] at f1 f2
 have htot := tot_cnt hp
 have f3 := f2 (by omega)
 have hJ0 : 0 < J := by
  rcases Nat.eq_zero_or_pos J with h | h
  ·rw [h, List.take_zero, e0] at f3
   simp only [zeroS] at f3
   omega
  ·exact h
 have f4 := f1 (J - 1) (by omega)
 have c1 := pre_cnt hp hle
 have c0 := pre_cnt hp (n := J - 1) (by omega)
 have hs := cntE_succ (ds.map Prod.fst) (J - 1)
 rw [show J - 1 + 1 = J by omega] at hs
 have hst := (pre_step hp (n := J - 1) (by omega)).1
 rw [show J - 1 + 1 = J by omega] at hst
 have hcr := pre_cr hp hle
 have hsf : sF ds k = if (sumsOf (ds.take J)).cr = true /\ J < ds.length /\ (ds.map Prod.fst).getD J 0 = 10 then (J : Int) + 1 else J := by
  unfold sF
  rw [if_neg (by omega), if_neg (by omega), hJ]
 rw [hsf, hcr]
 have hl : (ds.map Prod.fst).length = ds.length := List.length_map ..
 simp only [decide_eq_true_eq]
 by_cases hc : (0 < J /\ (ds.map Prod.fst).getD (J - 1) 0 = 13) /\ J < ds.length /\ (ds.map Prod.fst).getD J 0 = 10
 ·rw [if_pos hc]
  have hco : corr (ds.map Prod.fst) J = true := by unfold corr; simp only [decide_eq_true_eq]; exact ⟨hc.1.1, by omega, hc.1.2, hc.2.2⟩
  have he : isE (ds.map Prod.fst) (J + 1) = true := by unfold isE; simp only [decide_eq_true_eq, Nat.add_sub_cancel]; exact ⟨by omega, by omega, .inl hc.2.2⟩
  refine ⟨J + 1, by omega, he, ?_⟩
  rw [cntE_succ, he, if_pos rfl]
  rw [hco, if_pos rfl] at c1
  have : (sumsOf (ds.take J)).breaks <= (sumsOf (ds.take (J - 1))).breaks + 1 := by
   rw [hst]
   split <;> split <;> omega
  omega
 ·rw [if_neg hc]
  have hco : ¬ corr (ds.map Prod.fst) J = true := by
   unfold corr
   simp only [decide_eq_true_eq]
   exact fun h => hc ⟨⟨h.1, h.2.2.1⟩, by omega, h.2.2.2⟩
  rw [if_neg hco] at c1
  have hpb : (sumsOf (ds.take (J - 1))).breaks < (sumsOf (ds.take J)).breaks := by omega
  have he : isE (ds.map Prod.fst) J = true := by
   unfold isE
   simp only [decide_eq_true_eq]
   refine ⟨hJ0, by omega, ?_⟩
   by_cases h10 : (ds.map Prod.fst).getD (J - 1) 0 = 10
   ·exact .inl h10
   ·by_cases h13 : (ds.map Prod.fst).getD (J - 1) 0 = 13
    ·exact .inr ⟨h13, fun h => hc ⟨⟨hJ0, h13⟩, by omega, h.2⟩⟩
    ·rw [hst, if_neg (by omega), if_neg (fun h => h10 h.2)] at hpb
     omega
  refine ⟨J, rfl, he, ?_⟩
  have : (sumsOf (ds.take J)).breaks <= (sumsOf (ds.take (J - 1))).breaks + 1 := by
   rw [hst]
   split <;> split <;> omega
  omega
end
end Go.Proofs.YtkoakanpaehkmaaGreatDoor
