/-
  The walks of package piece: ahead.
-/
import Derived.Test.YtflhiohjikgedaaGreatDoorLCut
set_option linter.unusedSimpArgs false
set_option linter.unusedVariables false
set_option maxRecDepth 100000
set_option maxHeartbeats 32000000
namespace Go.Proofs.YtflhiohjikgedaaGreatDoor
open Go.RowKit
theorem ahead_sum {enc : Int} {ps : List Pc} (hok : ∀ p ∈ ps, PcOk enc p) {at_ : Int} {i n : Nat} (hf : Found enc ps at_ i n) {p : Pc} (hp : ps[i]? = some p) (hle : at_ <= ((decL enc ps).length : Int)) :
  addF (sumL (ps.take i)) (sumsOf ((dec enc p.bytes).take n)) = sumsOf ((decL enc ps).take at_.toNat) := by
 obtain ⟨h1, h2, h3⟩ := hf
 have hlt : i < ps.length := by
  rcases Nat.lt_or_ge i ps.length with h | h
  ·exact h
  ·rw [List.getElem?_eq_none h] at hp; cases hp
 have hsp : ps = ps.take i ++ p :: ps.drop (i + 1) := by
  rw [List.getElem?_eq_getElem hlt] at hp
  injection hp with hp
  rw [<- hp, <- List.drop_eq_getElem_cons hlt, List.take_append_drop]
 have hn : n <= (dec enc p.bytes).length := by
  rcases Nat.lt_or_ge 0 n with h0 | h0
  ·obtain ⟨_, _, h5⟩ := h3 (by omega)
   have : ps.take (i + 1) = ps.take i ++ [p] := by rw [List.take_add_one, hp]; rfl
   rw [this, decL_app, List.length_append] at h5
   simp [decL] at h5 ⊢
   simp [decL] at h2
   omega
  ·omega
 have hd : (decL enc ps).take at_.toNat = decL enc (ps.take i) ++ (dec enc p.bytes).take n := by
  conv => lhs; rw [hsp]
  rw [decL_app, decL_cons, List.take_append, List.take_of_length_le (by omega), show at_.toNat - (decL enc (ps.take i)).length = n by omega, List.take_append_of_le_length hn]
 rw [hd, sumsOf_app (decL_pos enc _) ((dec_pos enc _).take n), sumL_dec (fun q hq => hok q (List.mem_of_mem_take hq))]
theorem cells_at {w : World} {b : Nat} {x : Pc} (h : Blk w b 94 x.cells) :
  w.cell? ⟨b, 0, none⟩ = some (.slice x.A x.n x.c) /\ w.cell? ⟨b, 1, none⟩ = some (.int .i64 x.tag) /\ w.cell? ⟨b, 2, none⟩ = some (.int .i64 x.sum.atoms) /\ w.cell? ⟨b, 3, none⟩ = some (.int .i64 x.sum.bytes) /\ w.cell? ⟨b, 4, none⟩ = some (.int .i64 x.sum.breaks) /\ w.cell? ⟨b, 5, none⟩ = some (.bool x.sum.lf) /\ w.cell? ⟨b, 6, none⟩ = some (.bool x.sum.cr) :=
 (part_facts h).1
def AhCut (w : World) (B7 : Nat) (s1 s2 : Sums) (wx : World) : Prop := Below w.heap.size w wx /\ Blk wx w.heap.size 92 s2.cells /\ Blk wx B7 92 s1.cells
section
variable {w w1 : World} {p0 p1 p2 p3 p4 p5 p6 p7 r : Addr} {v0 v1 v2 v3 v4 v5 v6 v7 x : Value} {o : Obj}
theorem hold8 (hb : Below w.heap.size w w1) (h : w.cell? p0 = some v0 /\ w.cell? p1 = some v1 /\ w.cell? p2 = some v2 /\ w.cell? p3 = some v3 /\ w.cell? p4 = some v4 /\ w.cell? p5 = some v5 /\ w.cell? p6 = some v6 /\ w.cell? p7 = some v7) :
  w1.cell? p0 = some v0 /\ w1.cell? p1 = some v1 /\ w1.cell? p2 = some v2 /\ w1.cell? p3 = some v3 /\ w1.cell? p4 = some v4 /\ w1.cell? p5 = some v5 /\ w1.cell? p6 = some v6 /\ w1.cell? p7 = some v7 :=
 ⟨cell_keep hb h.1, cell_keep hb h.2.1, cell_keep hb h.2.2.1, cell_keep hb h.2.2.2.1, cell_keep hb h.2.2.2.2.1, cell_keep hb h.2.2.2.2.2.1, cell_keep hb h.2.2.2.2.2.2.1, cell_keep hb h.2.2.2.2.2.2.2⟩
theorem hold8dr (h : w.cell? p0 = some v0 /\ w.cell? p1 = some v1 /\ w.cell? p2 = some v2 /\ w.cell? p3 = some v3 /\ w.cell? p4 = some v4 /\ w.cell? p5 = some v5 /\ w.cell? p6 = some v6 /\ w.cell? p7 = some v7) :
  w.drew.cell? p0 = some v0 /\ w.drew.cell? p1 = some v1 /\ w.drew.cell? p2 = some v2 /\ w.drew.cell? p3 = some v3 /\ w.drew.cell? p4 = some v4 /\ w.drew.cell? p5 = some v5 /\ w.drew.cell? p6 = some v6 /\ w.drew.cell? p7 = some v7 := h
theorem hold8al (h : w.cell? p0 = some v0 /\ w.cell? p1 = some v1 /\ w.cell? p2 = some v2 /\ w.cell? p3 = some v3 /\ w.cell? p4 = some v4 /\ w.cell? p5 = some v5 /\ w.cell? p6 = some v6 /\ w.cell? p7 = some v7) :
  (w.alloc o).cell? p0 = some v0 /\ (w.alloc o).cell? p1 = some v1 /\ (w.alloc o).cell? p2 = some v2 /\ (w.alloc o).cell? p3 = some v3 /\ (w.alloc o).cell? p4 = some v4 /\ (w.alloc o).cell? p5 = some v5 /\ (w.alloc o).cell? p6 = some v6 /\ (w.alloc o).cell? p7 = some v7 :=
 hold8 (balloc (Below.refl _ _)) h
theorem cell_far {w : World} {p r : Addr} {v x : Value} (hne : p.block ≠ r.block) (h : w.cell? p = some v) : (w.setCell r x).cell? p = some v := (World.cell?_of_block (w := w) (Below.heap_setCell w r x p.block hne)).trans h
theorem hold8set {b : Nat} {g : Nat} {j : Nat} (h1 : b ≠ r.block) (h2 : g ≠ r.block) (h : w.cell? ⟨b, 0, none⟩ = some v0 /\ w.cell? ⟨b, 1, none⟩ = some v1 /\ w.cell? ⟨b, 2, none⟩ = some v2 /\ w.cell? ⟨b, 3, none⟩ = some v3 /\ w.cell? ⟨b, 4, none⟩ = some v4 /\ w.cell? ⟨b, 5, none⟩ = some v5 /\ w.cell? ⟨b, 6, none⟩ = some v6 /\ w.cell? ⟨g, j, none⟩ = some v7) :
  (w.setCell r x).cell? ⟨b, 0, none⟩ = some v0 /\ (w.setCell r x).cell? ⟨b, 1, none⟩ = some v1 /\ (w.setCell r x).cell? ⟨b, 2, none⟩ = some v2 /\ (w.setCell r x).cell? ⟨b, 3, none⟩ = some v3 /\ (w.setCell r x).cell? ⟨b, 4, none⟩ = some v4 /\ (w.setCell r x).cell? ⟨b, 5, none⟩ = some v5 /\ (w.setCell r x).cell? ⟨b, 6, none⟩ = some v6 /\ (w.setCell r x).cell? ⟨g, j, none⟩ = some v7 :=
 ⟨cell_far h1 h.1, cell_far h1 h.2.1, cell_far h1 h.2.2.1, cell_far h1 h.2.2.2.1, cell_far h1 h.2.2.2.2.1, cell_far h1 h.2.2.2.2.2.1, cell_far h1 h.2.2.2.2.2.2.1, cell_far h2 h.2.2.2.2.2.2.2⟩
end
theorem new_lt0 {w w1 : World} (hb : Below w.drew.heap.size w.drew w1) : w.heap.size <= w1.heap.size := hb.size
theorem new_lt1 {w w1 : World} {o : Obj} (hb : Below (w.alloc o).drew.heap.size (w.alloc o).drew w1) : w.heap.size < w1.heap.size := by
 have := hb.size
 rw [show (w.alloc o).drew.heap.size = (w.alloc o).heap.size from rfl, World.size_alloc] at this
 exact this
theorem new_lt2 {w w1 : World} {o o' : Obj} (hb : Below ((w.alloc o).alloc o').drew.heap.size ((w.alloc o).alloc o').drew w1) : w.heap.size + 1 < w1.heap.size := by
 have := hb.size
 rw [show ((w.alloc o).alloc o').drew.heap.size = ((w.alloc o).alloc o').heap.size from rfl, World.size_alloc, World.size_alloc] at this
 exact this
theorem new_one {w w1 : World} (hb : Below (w.alloc (.cells #[.slice none 0 0, .int .i64 0, .int .i64 0, .int .i64 0, .int .i64 0, .bool false, .bool false] 94)).drew.heap.size (w.alloc (.cells #[.slice none 0 0, .int .i64 0, .int .i64 0, .int .i64 0, .int .i64 0, .bool false, .bool false] 94)).drew w1) : (w1.cell? ⟨w.heap.size, 0, none⟩ = some (.slice none 0 0) /\ w1.cell? ⟨w.heap.size, 1, none⟩ = some (.int .i64 0) /\ w1.cell? ⟨w.heap.size, 2, none⟩ = some (.int .i64 0) /\ w1.cell? ⟨w.heap.size, 3, none⟩ = some (.int .i64 0) /\ w1.cell? ⟨w.heap.size, 4, none⟩ = some (.int .i64 0) /\ w1.cell? ⟨w.heap.size, 5, none⟩ = some (.bool false) /\ w1.cell? ⟨w.heap.size, 6, none⟩ = some (.bool false)) /\ w1.frozen? ⟨w.heap.size, 0, none⟩ = false /\ w1.frozen? ⟨w.heap.size, 1, none⟩ = false /\ w1.frozen? ⟨w.heap.size, 2, none⟩ = false /\ w1.frozen? ⟨w.heap.size, 3, none⟩ = false /\ w1.frozen? ⟨w.heap.size, 4, none⟩ = false /\ w1.frozen? ⟨w.heap.size, 5, none⟩ = false /\ w1.frozen? ⟨w.heap.size, 6, none⟩ = false :=
 part_facts (A := none) (n := 0) (c := 0) (tag := 0) (s := zeroS) ((Blk.new w _ _).drew.below hb)
theorem new_two {w w1 : World} (hb : Below ((w.alloc (.cells #[.slice none 0 0, .int .i64 0, .int .i64 0, .int .i64 0, .int .i64 0, .bool false, .bool false] 94)).alloc (.cells #[.slice none 0 0, .int .i64 0, .int .i64 0, .int .i64 0, .int .i64 0, .bool false, .bool false] 94)).drew.heap.size ((w.alloc (.cells #[.slice none 0 0, .int .i64 0, .int .i64 0, .int .i64 0, .int .i64 0, .bool false, .bool false] 94)).alloc (.cells #[.slice none 0 0, .int .i64 0, .int .i64 0, .int .i64 0, .int .i64 0, .bool false, .bool false] 94)).drew w1) : ((w1.cell? ⟨w.heap.size, 0, none⟩ = some (.slice none 0 0) /\ w1.cell? ⟨w.heap.size, 1, none⟩ = some (.int .i64 0) /\ w1.cell? ⟨w.heap.size, 2, none⟩ = some (.int .i64 0) /\ w1.cell? ⟨w.heap.size, 3, none⟩ = some (.int .i64 0) /\ w1.cell? ⟨w.heap.size, 4, none⟩ = some (.int .i64 0) /\ w1.cell? ⟨w.heap.size, 5, none⟩ = some (.bool false) /\ w1.cell? ⟨w.heap.size, 6, none⟩ = some (.bool false)) /\ w1.frozen? ⟨w.heap.size, 0, none⟩ = false /\ w1.frozen? ⟨w.heap.size, 1, none⟩ = false /\ w1.frozen? ⟨w.heap.size, 2, none⟩ = false /\ w1.frozen? ⟨w.heap.size, 3, none⟩ = false /\ w1.frozen? ⟨w.heap.size, 4, none⟩ = false /\ w1.frozen? ⟨w.heap.size, 5, none⟩ = false /\ w1.frozen? ⟨w.heap.size, 6, none⟩ = false) /\ ((w1.cell? ⟨w.heap.size + 1, 0, none⟩ = some (.slice none 0 0) /\ w1.cell? ⟨w.heap.size + 1, 1, none⟩ = some (.int .i64 0) /\ w1.cell? ⟨w.heap.size + 1, 2, none⟩ = some (.int .i64 0) /\ w1.cell? ⟨w.heap.size + 1, 3, none⟩ = some (.int .i64 0) /\ w1.cell? ⟨w.heap.size + 1, 4, none⟩ = some (.int .i64 0) /\ w1.cell? ⟨w.heap.size + 1, 5, none⟩ = some (.bool false) /\ w1.cell? ⟨w.heap.size + 1, 6, none⟩ = some (.bool false)) /\ w1.frozen? ⟨w.heap.size + 1, 0, none⟩ = false /\ w1.frozen? ⟨w.heap.size + 1, 1, none⟩ = false /\ w1.frozen? ⟨w.heap.size + 1, 2, none⟩ = false /\ w1.frozen? ⟨w.heap.size + 1, 3, none⟩ = false /\ w1.frozen? ⟨w.heap.size + 1, 4, none⟩ = false /\ w1.frozen? ⟨w.heap.size + 1, 5, none⟩ = false /\ w1.frozen? ⟨w.heap.size + 1, 6, none⟩ = false) := by
 refine ⟨part_facts (A := none) (n := 0) (c := 0) (tag := 0) (s := zeroS) (((Blk.new w _ _).alloc _).drew.below hb), ?_⟩
 have := Blk.new (w.alloc (.cells #[.slice none 0 0, .int .i64 0, .int .i64 0, .int .i64 0, .int .i64 0, .bool false, .bool false] 94)) 94 #[.slice none 0 0, .int .i64 0, .int .i64 0, .int .i64 0, .int .i64 0, .bool false, .bool false]
 rw [World.size_alloc] at this
 exact part_facts (A := none) (n := 0) (c := 0) (tag := 0) (s := zeroS) (this.drew.below hb)
theorem ahead_any (D : Nat -> Prop) (g : Nat) (enc lim : Int) (t : Tr) (a : Option Addr) (add : Value) (at_ : Int) (w : World) (h : TextIn w D g enc lim t a add) (h0 : 0 <= at_) (h1 : at_ <= ((decL enc t.list).length : Int)) :
  Calls Tryz.prog 63 #[.pointer (some ⟨g, 0, none⟩), .int .i64 at_] w fun e w' => e = .returned (.agg (sumsOf ((decL enc t.list).take at_.toNat)).cells) /\ Below w.heap.size w w' := by
 obtain ⟨V, hV⟩ : ∃ V, sumsOf ((decL enc t.list).take at_.toNat) = V := ⟨_, rfl⟩
 rw [hV]
 have HV := Lib.hid hV
 clear hV
 have hW : Below w.heap.size w (w.alloc (.cells zeroS.cells 92)) := balloc (Below.refl _ w)
 have b4 : Blk (w.alloc (.cells zeroS.cells 92)) w.heap.size 92 zeroS.cells := Blk.new w _ _
 have hf := tfind_any D g enc lim t a add at_ _ (h.below hW) h0 h1
 have HF := Lib.hid hf
 have hdl := h.decLen
 have hlen := h.len
 have htot := h.tot
 have a1 : at_ <= 1073741824 := by omega
 clear hf
 simp only [Sums.cells, zeroS] at HF
 go_enter Tryz.func63, Tryz.ntmps63
 go_wp2_with fail
 refine (HF.out).mono ?_
 rintro e w1 ⟨i, nn, rfl, hfd, hb1⟩
 have hW1 := bseq hW hb1
 obtain ⟨c0, c2⟩ := (h.below hW1).cells
 have b41 := b4.below hb1
 have hfi := hfd.1
 have hnn : nn <= 1073741824 := by have := hfd.2.1; omega
 have HFD := Lib.hid hfd
 have hu := fun (w' : World) (hb : Below w.heap.size w w') => upto_any t a (i : Int) w' (NodeAt.below hb t a h.node) hlen (by omega) h.good (by omega)
 have hat := fun (w' : World) (hb : Below w.heap.size w w') => tat_any t a (i : Int) w' (NodeAt.below hb t a h.node) hlen (by omega)
 obtain ⟨S1, hS1⟩ : ∃ S, sumL (t.list.take i) = S := ⟨_, rfl⟩
 obtain ⟨op, hop⟩ : ∃ p, t.list[i]? = p := ⟨_, rfl⟩
 have hget : t.get (i : Int) = op := by unfold Tr.get; rw [if_neg (by omega), Int.toNat_natCast]; exact hop
 rw [Int.toNat_natCast, hS1] at hu
 rw [hget] at hat
 have HS1 := Lib.hid hS1
 have HOP := Lib.hid hop
 have HU := Lib.hid hu
 have HAT := Lib.hid hat
 have g1 : S1.good := by rw [<- HS1.out]; exact (sumL_good (take_good h.good i)).1
 have o1 : S1.ok := g1.ok (by
  have := (sumL_good (take_good h.good i)).2
  have := totB_take h.good i
  rw [<- HS1.out]
  omega)
 clear hu hat hS1 hop hget hfd b4 hfi
 simp only [Sums.cells] at HU
 go_wp2_with fail
 refine (HU.out _ hW1).mono ?_
 rintro e w2 ⟨rfl, hb2⟩
 have hW2 := bseq hW1 hb2
 obtain ⟨c0, c2⟩ := (h.below hW2).cells
 have b42 := b41.below hb2
 have zg := (h.below hW2).blk.lt
 have z4 := b42.lt
 go_wp2_with fail
 have hW3 := balloc (o := .cells S1.cells 92) hW2
 have b43 := b42.alloc (.cells S1.cells 92)
 have b73 : Blk (w2.alloc (.cells S1.cells 92)) w2.heap.size 92 S1.cells := Blk.new w2 _ _
 simp only [Sums.cells] at hW3 b43 b73
 refine (HAT.out _ hW3).mono ?_
 rintro e w3 ⟨rfl, hb3⟩
 have hW4 := bseq hW3 hb3
 have b44 := b43.below hb3
 have b74 := b73.below hb3
 have hne : w.heap.size < w2.heap.size := z4
 have z44 := b44.lt
 have z74 := b74.lt
 have zg4 := (h.below hW4).blk.lt
 clear hW3 b43 b73 hb1 hb2 hb3 HF HU HAT b41 b42 c0 c2 zg z4 hW hW1 hW2
 cases op with
 | none =>
  have hVS : V = S1 := by
   rw [<- HV.out, <- HS1.out]
   have h2 := HFD.out.2.1
   have h3 := HFD.out.2.2
   have hz : at_ = 0 := by
    rcases Int.lt_or_le 0 at_ with h | h
    ·obtain ⟨h4, _⟩ := h3 h
     have := HOP.out
     rw [List.getElem?_eq_getElem h4] at this
     cases this
    ·omega
   rw [sumL_dec (fun q hq => h.ok q (List.mem_of_mem_take hq)), List.eq_nil_of_length_eq_zero (l := decL enc (t.list.take i)) (by omega), hz]
   rfl
  subst hVS
  simp only [partV]
  go_upto_if 33 with fail
  go_cut [] (fun wx => AhCut w w2.heap.size V zeroS wx)
  case first =>
   go_wp2_with fail
   go_meet
   exact ⟨balloc hW4, b44.alloc _, b74.alloc _⟩
  case rest =>
   obtain ⟨hW5, b45, b75⟩ := hcut
   clear b44 b74 z44 z74 hW4 c0 c2
   obtain ⟨g0, g1, g2, g3, g4, _⟩ := sums_facts b75
   obtain ⟨j0, j1, j2, j3, j4, u0, u1, u2, u3, u4⟩ := sums_facts b45
   go_wp2_with fail
   refine bodyPost_ret (v := .agg V.cells) (by simp [results, Tryz.results63, go_sem, Sums.cells, j0, j1, j2, j3, j4]) rfl ⟨rfl, ?_⟩
   exact setS_below (s' := V) hW5 (Nat.le_refl _)
 | some p =>
  obtain ⟨b, pc⟩ : ∃ b : Bool, b = true := ⟨true, rfl⟩
  have hpo := h.ok p (List.mem_of_getElem? HOP.out)
  have hpb := h.bts p (List.mem_of_getElem? HOP.out)
  have hcut := fun (w' : World) (hb : Below w.heap.size w w') => cut_any enc D p (nn : Int) w' h.enc4 hpo (Reads.below hpb hb) (by omega) (by omega)
  simp only [CutV, Int.toNat_natCast] at hcut
  obtain ⟨S2, hS2⟩ : ∃ S, sumsOf ((dec enc p.bytes).take nn) = S := ⟨_, rfl⟩
  have hVS : addF S1 S2 = V := by rw [<- HV.out, <- HS1.out, <- hS2]; exact ahead_sum h.ok HFD.out HOP.out h1
  have o2 : S2.ok := by
   have h1 := sumsOf_good' ((dec_pos enc p.bytes).take nn)
   have h2 := (decF_size enc p.bytes.length p.bytes (Nat.le_refl _)).2
   have h3 := szs_bd enc nn p.bytes
   unfold szs at h3
   rw [<- hS2]
   refine h1.1.ok ?_
   rw [h1.2.2]
   have h4 := hpo.len
   have h5 := hpo.nle
   omega
  rw [hS2] at hcut
  obtain ⟨m1, hm1⟩ : ∃ m, (szs enc p.bytes nn).toNat = m := ⟨_, rfl⟩
  rw [hm1] at hcut
  obtain ⟨A2, n2, c2', t2, S3, hrest⟩ : ∃ (A2 : Option Addr) (n2 c2 : Nat) (t2 : Int) (S3 : Sums), partC (if p.c = m1 then p.A else p.A.map (·.add m1)) (p.n - m1) (p.c - m1) (if 0 <= p.tag then p.tag + szs enc p.bytes nn else p.tag) (sumsOf ((dec enc p.bytes).drop nn)) = partC A2 n2 c2 t2 S3 := ⟨_, _, _, _, _, rfl⟩
  rw [hrest] at hcut
  simp only [partC, Pc.cells] at hcut
  have HCUT := Lib.hid hcut
  have HVS := Lib.hid hVS
  clear hcut hVS hS2 hm1 hrest hpo hpb pc HV HFD HS1 g1
  simp only [partV]
  go_upto_if 33 with fail
  go_cut [] (fun wx => AhCut w w2.heap.size V zeroS wx)
  case first =>
   obtain ⟨w4, hw4⟩ : ∃ w4, w3.alloc (.cells #[.slice p.A p.n p.c, .int .i64 p.tag, .int .i64 p.sum.atoms, .int .i64 p.sum.bytes, .int .i64 p.sum.breaks, .bool p.sum.lf, .bool p.sum.cr] 94) = w4 := ⟨_, rfl⟩
   rw [hw4]
   have hW5 : Below w.heap.size w w4 := by rw [<- hw4]; exact balloc hW4
   have b45 : Blk w4 w.heap.size 92 zeroS.cells := by rw [<- hw4]; exact b44.alloc _
   have b75 : Blk w4 w2.heap.size 92 S1.cells := by rw [<- hw4]; exact b74.alloc _
   have b85 : Blk w4 w3.heap.size 94 p.cells := by rw [<- hw4]; exact Blk.new w3 _ _
   have ne1 : w.heap.size < w3.heap.size := z44
   have ne2 : w2.heap.size < w3.heap.size := z74
   clear hw4 b44 b74 z44 z74 hW4 c0 c2
   have ct := (h.below hW5).cells.1
   go_upto_region 5 with fail
   have zg5 := (h.below hW5).blk.lt
   have z85 := b85.lt
   have s0 : (w4.cell? ⟨w3.heap.size, 0, none⟩ = some (.slice p.A p.n p.c) /\ w4.cell? ⟨w3.heap.size, 1, none⟩ = some (.int .i64 p.tag) /\ w4.cell? ⟨w3.heap.size, 2, none⟩ = some (.int .i64 p.sum.atoms) /\ w4.cell? ⟨w3.heap.size, 3, none⟩ = some (.int .i64 p.sum.bytes) /\ w4.cell? ⟨w3.heap.size, 4, none⟩ = some (.int .i64 p.sum.breaks) /\ w4.cell? ⟨w3.heap.size, 5, none⟩ = some (.bool p.sum.lf) /\ w4.cell? ⟨w3.heap.size, 6, none⟩ = some (.bool p.sum.cr) /\ w4.cell? ⟨g, 0, none⟩ = some (.int .i64 enc)) := ⟨(cells_at b85).1, (cells_at b85).2.1, (cells_at b85).2.2.1, (cells_at b85).2.2.2.1, (cells_at b85).2.2.2.2.1, (cells_at b85).2.2.2.2.2.1, (cells_at b85).2.2.2.2.2.2, ct⟩
   have s00 := hold8dr s0
   have zz : w4.drew.heap.size = w4.heap.size := rfl
   have ZZ := Lib.hid zz
   clear zz ct
   go_region_held3 (fun w' => (w'.cell? ⟨w3.heap.size, 0, none⟩ = some (.slice p.A p.n p.c) /\ w'.cell? ⟨w3.heap.size, 1, none⟩ = some (.int .i64 p.tag) /\ w'.cell? ⟨w3.heap.size, 2, none⟩ = some (.int .i64 p.sum.atoms) /\ w'.cell? ⟨w3.heap.size, 3, none⟩ = some (.int .i64 p.sum.bytes) /\ w'.cell? ⟨w3.heap.size, 4, none⟩ = some (.int .i64 p.sum.breaks) /\ w'.cell? ⟨w3.heap.size, 5, none⟩ = some (.bool p.sum.lf) /\ w'.cell? ⟨w3.heap.size, 6, none⟩ = some (.bool p.sum.cr) /\ w'.cell? ⟨g, 0, none⟩ = some (.int .i64 enc))) (first | (with_reducible assumption) | ((repeat (first | (with_reducible refine hold8set (by dsimp only; omega) (by dsimp only; omega) ?_) | (with_reducible refine hold8al ?_) | (with_reducible refine hold8dr ?_))); with_reducible assumption)) (first | (go_at_call 66; (with_reducible refine (HCUT.out w4.drew hW5.drew).mono ?_); rintro e w5 ⟨rfl, hb5⟩; have s1 := hold8 hb5 (hold8dr s0); have hzz := new_lt0 hb5; have hq5 := bseq (Below.refl _ w4).drew hb5) | (go_at_call 66; (with_reducible refine (HCUT.out (w4.alloc (.cells #[.slice none 0 0, .int .i64 0, .int .i64 0, .int .i64 0, .int .i64 0, .bool false, .bool false] 94)).drew (balloc hW5).drew).mono ?_); rintro e w5 ⟨rfl, hb5⟩; have s1 := hold8 hb5 (hold8dr (hold8al s0)); have hzz := new_lt1 hb5; obtain ⟨⟨g0, g1, g2, g3, g4, g5, g6⟩, v0, v1, v2, v3, v4, v5, v6⟩ := new_one hb5; have hq5 := bseq (balloc (Below.refl _ w4)).drew hb5) | (go_at_call 66; (with_reducible refine (HCUT.out ((w4.alloc (.cells #[.slice none 0 0, .int .i64 0, .int .i64 0, .int .i64 0, .int .i64 0, .bool false, .bool false] 94)).alloc (.cells #[.slice none 0 0, .int .i64 0, .int .i64 0, .int .i64 0, .int .i64 0, .bool false, .bool false] 94)).drew (balloc (balloc hW5)).drew).mono ?_); rintro e w5 ⟨rfl, hb5⟩; have s1 := hold8 hb5 (hold8dr (hold8al (hold8al s0))); have hzz := new_lt2 hb5; obtain ⟨⟨⟨g0, g1, g2, g3, g4, g5, g6⟩, v0, v1, v2, v3, v4, v5, v6⟩, ⟨j0, j1, j2, j3, j4, j5, j6⟩, u0, u1, u2, u3, u4, u5, u6⟩ := new_two hb5; have hq5 := bseq (balloc (balloc (Below.refl _ w4))).drew hb5))
   all_goals
    have h25 : w2.heap.size < w5.heap.size := by have := hq5.size; omega
    have h24 : w2.heap.size < w4.heap.size := by omega
    obtain ⟨n0, n1, n2, n3, n4, r0, r1, r2, r3, r4⟩ := sums_facts (b75.below hq5)
    clear s00
    go_wp2_with (first | (go_at_call 59; refine (add_any' S1 S2 _ o1 o2).mono ?_; rintro e w6 ⟨rfl, hb6⟩; have hq6 := bseq (a := w4) (by repeat (first | with_reducible exact hq5 | (with_reducible refine balloc ?_) | (with_reducible refine Below.setCell ?_ (by dsimp only; omega) _))) hb6; obtain ⟨k0, k1, k2, k3, k4, l0, l1, l2, l3, l4⟩ := sums_facts (b75.below hq6)))
    go_meet
    have h45 := b45.below hq6
    have h75 := b75.below hq6
    refine ⟨setS_below (s' := addF S1 S2) (bseq hW5 hq6) (by omega), setS_far (s' := addF S1 S2) h45 (by omega), ?_⟩
    rw [<- HVS.out]
    exact setS_own (s' := addF S1 S2) h75
  case rest =>
   obtain ⟨hW5, b45, b75⟩ := hcut
   clear b44 b74 z44 z74 hW4 c0 c2
   obtain ⟨g0, g1, g2, g3, g4, _⟩ := sums_facts b75
   obtain ⟨j0, j1, j2, j3, j4, u0, u1, u2, u3, u4⟩ := sums_facts b45
   go_wp2_with fail
   refine bodyPost_ret (v := .agg V.cells) (by simp [results, Tryz.results63, go_sem, Sums.cells, j0, j1, j2, j3, j4]) rfl ⟨rfl, ?_⟩
   exact setS_below (s' := V) hW5 (Nat.le_refl _)
end Go.Proofs.YtflhiohjikgedaaGreatDoor
