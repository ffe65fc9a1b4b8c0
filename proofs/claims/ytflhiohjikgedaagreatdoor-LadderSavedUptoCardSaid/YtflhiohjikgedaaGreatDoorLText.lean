/-
  A text as it lies in memory; what its pieces add up to; Size, Len, find.
-/
import Derived.Test.YtflhiohjikgedaaGreatDoorLTree9
set_option linter.unusedSimpArgs false
set_option linter.unusedVariables false
set_option maxRecDepth 100000
set_option maxHeartbeats 32000000
namespace Go.Proofs.YtflhiohjikgedaaGreatDoor
open Go.RowKit
theorem ret_ii {a b c d : Int} (h1 : a = b) (h2 : c = d) : Ending.returned (.tuple #[.int .i64 a, .int .i64 c]) = .returned (.tuple #[.int .i64 b, .int .i64 d]) := by rw [h1, h2]
def PosD (ds : List (Int × Int)) : Prop := ∀ d ∈ ds, 1 <= d.2
theorem dec_pos (enc : Int) (l : List Int) : PosD (dec enc l) := (decF_size enc l.length l (Nat.le_refl _)).1
theorem PosD.app {a b : List (Int × Int)} (ha : PosD a) (hb : PosD b) : PosD (a ++ b) := fun d h => by
 rcases List.mem_append.1 h with h | h
 ·exact ha d h
 ·exact hb d h
theorem PosD.take {a : List (Int × Int)} (ha : PosD a) (k : Nat) : PosD (a.take k) := fun d h => ha d (List.mem_of_mem_take h)
theorem PosD.drop {a : List (Int × Int)} (ha : PosD a) (k : Nat) : PosD (a.drop k) := fun d h => ha d (List.mem_of_mem_drop h)
theorem sumsOf_good' {ds : List (Int × Int)} (h : PosD ds) : (sumsOf ds).good /\ (sumsOf ds).atoms = ds.length /\ (sumsOf ds).bytes = (ds.map Prod.snd).sum := by
 obtain ⟨g, ga, gb⟩ := foldl_good ds h zeroS zeroS_good
 exact ⟨g, by unfold sumsOf; rw [ga]; simp [zeroS], by unfold sumsOf; rw [gb]; simp [zeroS]⟩
theorem foldl_step {b : List (Int × Int)} : ∀ {s : Sums}, s.good -> PosD b -> b.foldl stepS s = addF s (sumsOf b) := by
 induction b with
 | nil => intro s hs _; exact (addF_zero_right hs).symm
 | cons d b ih =>
  intro s hs hb
  have hb' : PosD b := fun x hx => hb x (List.mem_cons_of_mem _ hx)
  have gd := singleF_good d.1 d.2 (hb d List.mem_cons_self)
  have g1 := addF_good hs gd
  have e1 : sumsOf (d :: b) = addF (singleF d.1 d.2) (sumsOf b) := by
   unfold sumsOf
   rw [List.foldl_cons, show stepS zeroS d = singleF d.1 d.2 from addF_zero_left _]
   exact ih gd hb'
  rw [List.foldl_cons, e1, ih (s := stepS s d) g1.1 hb', show stepS s d = addF s (singleF d.1 d.2) from rfl, addF_assoc hs gd (sumsOf_good' hb').1]
theorem sumsOf_app {a b : List (Int × Int)} (ha : PosD a) (hb : PosD b) : sumsOf (a ++ b) = addF (sumsOf a) (sumsOf b) := by
 have := foldl_step (s := sumsOf a) (sumsOf_good' ha).1 hb
 rw [<- this]
 unfold sumsOf
 rw [List.foldl_append]
structure PcOk (enc : Int) (p : Pc) : Prop where
 byt : Byt p.bytes
 len : p.bytes.length = p.n
 pos : 0 < p.n
 nle : p.n <= 1073741824
 cap : p.n <= p.c
 tag0 : -1 <= p.tag
 tag1 : p.tag <= 1073741824
 sum : p.sum = sumsOf (dec enc p.bytes)
theorem PcOk.good {enc : Int} {p : Pc} (h : PcOk enc p) : p.sum.good := by rw [h.sum]; exact (sumsOf_good' (dec_pos enc _)).1
theorem allGood_of {enc : Int} {ps : List Pc} (h : ∀ p ∈ ps, PcOk enc p) : AllGood ps := fun p hp => (h p hp).good
def decL (enc : Int) (ps : List Pc) : List (Int × Int) := ps.flatMap fun p => dec enc p.bytes
theorem decL_app (enc : Int) (a b : List Pc) : decL enc (a ++ b) = decL enc a ++ decL enc b := by unfold decL; rw [List.flatMap_append]
theorem decL_cons (enc : Int) (a : Pc) (b : List Pc) : decL enc (a :: b) = dec enc a.bytes ++ decL enc b := by unfold decL; rw [List.flatMap_cons]
theorem decL_pos (enc : Int) (ps : List Pc) : PosD (decL enc ps) := by
 induction ps with
 | nil => intro d h; cases h
 | cons p ps ih => rw [decL_cons]; exact (dec_pos enc _).app ih
theorem sumL_dec {enc : Int} {ps : List Pc} (h : ∀ p ∈ ps, PcOk enc p) : sumL ps = sumsOf (decL enc ps) := by
 induction ps with
 | nil => rfl
 | cons p ps ih =>
  rw [sumL_cons, decL_cons, sumsOf_app (dec_pos enc _) (decL_pos enc _), ih (fun q hq => h q (List.mem_cons_of_mem _ hq)), (h p List.mem_cons_self).sum]
theorem dec_nonempty (enc : Int) (l : List Int) (h : 0 < l.length) : 0 < (dec enc l).length := by rw [dec_cons enc l h]; simp
structure TextIn (w : World) (D : Nat -> Prop) (g : Nat) (enc lim : Int) (t : Tr) (a : Option Addr) (add : Value) : Prop where
 blk : Blk w g 88 #[.int .i64 enc, .int .i64 lim, .pointer a, add]
 enc4 : enc = 1 \/ enc = 2 \/ enc = 3 \/ enc = 4
 node : NodeAt w t a
 len : t.list.length <= 1073741824
 tot : totB t.list <= 1073741824
 ok : ∀ p ∈ t.list, PcOk enc p
 bts : ∀ p ∈ t.list, Bts w D p.A p.n p.bytes
theorem TextIn.below {w w' : World} {D : Nat -> Prop} {g : Nat} {enc lim : Int} {t : Tr} {a : Option Addr} {add : Value} (h : TextIn w D g enc lim t a add) (hb : Below w.heap.size w w') : TextIn w' D g enc lim t a add :=
 ⟨h.blk.below hb, h.enc4, NodeAt.below hb t a h.node, h.len, h.tot, h.ok, fun p hp => Reads.below (h.bts p hp) hb⟩
def TextAt (w : World) (D : Nat -> Prop) (g : Nat) (enc : Int) (ds : List (Int × Int)) : Prop := ∃ lim t a add, TextIn w D g enc lim t a add /\ decL enc t.list = ds
theorem TextAt.below {w w' : World} {D : Nat -> Prop} {g : Nat} {enc : Int} {ds : List (Int × Int)} (h : TextAt w D g enc ds) (hb : Below w.heap.size w w') : TextAt w' D g enc ds := by
 obtain ⟨lim, t, a, add, h, e⟩ := h
 exact ⟨lim, t, a, add, h.below hb, e⟩
section
variable {w : World} {D : Nat -> Prop} {g : Nat} {enc lim : Int} {t : Tr} {a : Option Addr} {add : Value}
theorem TextIn.good (h : TextIn w D g enc lim t a add) : AllGood t.list := allGood_of h.ok
theorem TextIn.sum (h : TextIn w D g enc lim t a add) : t.sum = sumsOf (decL enc t.list) := by rw [Tr.sum_list t h.good, sumL_dec h.ok]
theorem TextIn.cells (h : TextIn w D g enc lim t a add) : w.cell? ⟨g, 0, none⟩ = some (.int .i64 enc) /\ w.cell? ⟨g, 2, none⟩ = some (.pointer a) := ⟨h.blk.cell 0, h.blk.cell 2⟩
theorem TextIn.decLen (h : TextIn w D g enc lim t a add) : (decL enc t.list).length <= 1073741824 := by
 have h1 := sumsOf_good' (decL_pos enc t.list)
 have h2 := (sumL_good h.good).2
 rw [sumL_dec h.ok] at h2
 have h3 := h.tot
 obtain ⟨⟨_, _, h4, _⟩, h5, _⟩ := h1
 omega
end
theorem TextAt.len {w : World} {D : Nat -> Prop} {g : Nat} {enc : Int} {ds : List (Int × Int)} (h : TextAt w D g enc ds) : ds.length <= 1073741824 := by
 obtain ⟨lim, t, a, add, h, rfl⟩ := h
 exact h.decLen
theorem TextAt.more {w : World} {D D' : Nat -> Prop} {g : Nat} {enc : Int} {ds : List (Int × Int)} (h : TextAt w D g enc ds) (hD : ∀ b, D b -> b < w.heap.size -> D' b) : TextAt w D' g enc ds := by
 obtain ⟨lim, t, a, add, h, rfl⟩ := h
 exact ⟨lim, t, a, add, ⟨h.blk, h.enc4, h.node, h.len, h.tot, h.ok, fun p hp => Reads.more (h.bts p hp) hD (by decide)⟩, rfl⟩
theorem field0 (a b c : Int) (x y : Bool) (w : World) : (Instr.field 92 (.agg #[.int .i64 a, .int .i64 b, .int .i64 c, .bool x, .bool y]) 0).run Tryz.prog w = .ok (.int .i64 a) w := by kernel_rfl
theorem field1 (a b c : Int) (x y : Bool) (w : World) : (Instr.field 92 (.agg #[.int .i64 a, .int .i64 b, .int .i64 c, .bool x, .bool y]) 1).run Tryz.prog w = .ok (.int .i64 b) w := by kernel_rfl
theorem size_any (D : Nat -> Prop) (g : Nat) (enc : Int) (ds : List (Int × Int)) (w : World) (h : TextAt w D g enc ds) :
  Calls Tryz.prog 43 #[.pointer (some ⟨g, 0, none⟩)] w fun e w' => e = .returned (.int .i64 (sumsOf ds).bytes) /\ Below w.heap.size w w' := by
 obtain ⟨lim, t, a, add, h, rfl⟩ := h
 obtain ⟨_, c2⟩ := h.cells
 have hc := tsum_any t a w h.node
 rw [h.sum] at hc
 obtain ⟨S, hS⟩ : ∃ S, sumsOf (decL enc t.list) = S := ⟨_, rfl⟩
 rw [hS] at hc ⊢
 have HC := Lib.hid hc
 clear hc hS
 go_enter Tryz.func43, Tryz.ntmps43
 go_wp2_with fail
 refine (HC.out).mono ?_
 rintro e w1 ⟨rfl, hb1⟩
 have kf := field1 S.atoms S.bytes S.breaks S.lf S.cr
 go_wp2_with fail
 go_ret
 exact ⟨rfl, hb1⟩
theorem len_any (D : Nat -> Prop) (g : Nat) (enc : Int) (ds : List (Int × Int)) (w : World) (h : TextAt w D g enc ds) :
  Calls Tryz.prog 12 #[.pointer (some ⟨g, 0, none⟩)] w fun e w' => e = .returned (.int .i64 (ds.length : Nat)) /\ Below w.heap.size w w' := by
 obtain ⟨lim, t, a, add, h, rfl⟩ := h
 obtain ⟨_, c2⟩ := h.cells
 have hc := tsum_any t a w h.node
 have hl := (sumsOf_good' (decL_pos enc t.list)).2.1
 rw [h.sum] at hc
 rw [hl] at hc
 obtain ⟨S, hS⟩ : ∃ S, sumsOf (decL enc t.list) = S := ⟨_, rfl⟩
 rw [hS] at hc
 have HC := Lib.hid hc
 clear hc hS hl
 go_enter Tryz.func12, Tryz.ntmps12
 go_wp2_with fail
 refine (HC.out).mono ?_
 rintro e w1 ⟨rfl, hb1⟩
 have kf := field0 (decL enc t.list).length S.bytes S.breaks S.lf S.cr
 go_wp2_with fail
 go_ret
 exact ⟨rfl, hb1⟩
theorem findL_atoms {enc : Int} : ∀ (ps : List Pc) (s : Sums) (n : Int), (∀ p ∈ ps, PcOk enc p) -> s.good -> s.atoms < n -> n <= s.atoms + (decL enc ps).length ->
  ∃ i : Nat, findL 0 n s ps = i + 1 /\ i < ps.length /\ s.atoms + (decL enc (ps.take i)).length < n /\ n <= s.atoms + (decL enc (ps.take (i + 1))).length := by
 intro ps
 induction ps with
 | nil => intro s n _ _ h1 h2; simp [decL] at h2; omega
 | cons p ps ih =>
  intro s n hok hs h1 h2
  have hp := hok p List.mem_cons_self
  have ga := addF_good hs hp.good
  have hpa : p.sum.atoms = (dec enc p.bytes).length := by rw [hp.sum]; exact (sumsOf_good' (dec_pos enc _)).2.1
  have hk : keyF (addF s p.sum) 0 = s.atoms + (dec enc p.bytes).length := by unfold keyF; rw [if_pos rfl, ga.2.1, hpa]
  have hfu : findL 0 n s (p :: ps) = if n <= keyF (addF s p.sum) 0 then 1 else findL 0 n (addF s p.sum) ps + 1 := rfl
  rw [hfu, hk]
  by_cases hle : n <= s.atoms + (dec enc p.bytes).length
  ·rw [if_pos hle]
   refine ⟨0, rfl, by simp, by simpa [decL] using h1, ?_⟩
   rw [Nat.zero_add, List.take_succ_cons, List.take_zero, decL_cons]
   simpa [decL] using hle
  ·rw [if_neg hle]
   rw [decL_cons, List.length_append] at h2
   obtain ⟨i, e1, e2, e3, e4⟩ := ih (addF s p.sum) n (fun q hq => hok q (List.mem_cons_of_mem _ hq)) ga.1 (by rw [ga.2.1, hpa]; omega) (by rw [ga.2.1, hpa]; omega)
   rw [ga.2.1, hpa] at e3 e4
   refine ⟨i + 1, by rw [e1]; omega, by simpa using e2, ?_, ?_⟩
   ·rw [List.take_succ_cons, decL_cons, List.length_append]; omega
   ·rw [List.take_succ_cons, decL_cons, List.length_append]; omega
def Found (enc : Int) (ps : List Pc) (at_ : Int) (i n : Nat) : Prop := i <= ps.length /\ ((decL enc (ps.take i)).length : Int) + n = at_ /\ (0 < at_ -> i < ps.length /\ 0 < n /\ at_ <= ((decL enc (ps.take (i + 1))).length : Int))
def FoundPost (enc : Int) (ps : List Pc) (at_ : Int) (w : World) (e : Ending) (w' : World) : Prop := ∃ i n : Nat, e = .returned (.tuple #[.int .i64 (i : Int), .int .i64 (n : Int)]) /\ Found enc ps at_ i n /\ Below w.heap.size w w'
theorem tfind_any (D : Nat -> Prop) (g : Nat) (enc lim : Int) (t : Tr) (a : Option Addr) (add : Value) (at_ : Int) (w : World) (h : TextIn w D g enc lim t a add) (h0 : 0 <= at_) (h1 : at_ <= ((decL enc t.list).length : Int)) :
  Calls Tryz.prog 64 #[.pointer (some ⟨g, 0, none⟩), .int .i64 at_] w fun e w' => FoundPost enc t.list at_ w e w' := by
 by_cases hz : at_ <= 0
 ·go_enter Tryz.func64, Tryz.ntmps64
  go_wp2_with fail
  go_ret2
  exact ⟨0, 0, rfl, ⟨Nat.zero_le _, by simp [decL]; omega, fun h => by omega⟩, Below.refl _ _⟩
 ·obtain ⟨_, c2⟩ := h.cells
  obtain ⟨i, e1, e2, e3, e4⟩ := findL_atoms t.list zeroS at_ h.ok zeroS_good (by simp only [zeroS]; omega) (by simp only [zeroS]; omega)
  simp only [zeroS, Int.zero_add] at e3 e4
  have htot := h.tot
  have hlen := h.len
  have hc := find_any t a 0 at_ w h.node h.len h.good (by omega)
  rw [if_neg hz, e1] at hc
  have hu : ∀ w', Below w.heap.size w w' -> Calls Tryz.prog 86 #[.agg #[.pointer a], .int .i64 (i : Int)] w' fun e w2 => e = .returned (.agg (sumL (t.list.take i)).cells) /\ Below w'.heap.size w' w2 := fun w' hb => by
   have := upto_any t a (i : Int) w' (NodeAt.below hb t a h.node) h.len (by omega) h.good (by omega)
   rwa [Int.toNat_natCast] at this
  have hs : (sumL (t.list.take i)).atoms = ((decL enc (t.list.take i)).length : Int) := by
   rw [sumL_dec (fun p hp => h.ok p (List.mem_of_mem_take hp))]
   exact (sumsOf_good' (decL_pos enc _)).2.1
  obtain ⟨S, hS⟩ : ∃ S, sumL (t.list.take i) = S := ⟨_, rfl⟩
  rw [hS] at hu hs
  obtain ⟨A, hA⟩ : ∃ A, S.atoms = A := ⟨_, rfl⟩
  have hdl := h.decLen
  have s1 : 0 <= A := by omega
  have s2 : A <= 2147483648 := by omega
  have s3 : A < at_ := by omega
  have s4 : at_ <= 2147483648 := by omega
  have s5 : i <= 2147483648 := by omega
  simp only [Sums.cells] at hu
  rw [hA] at hu
  have HC := Lib.hid hc
  have HU := Lib.hid hu
  have HS := Lib.hid hs
  have HA := Lib.hid hA
  clear hc hu hs hA hS e1
  go_enter Tryz.func64, Tryz.ntmps64
  go_wp2_with fail
  refine (HC.out).mono ?_
  rintro e w1 ⟨rfl, hb1⟩
  obtain ⟨_, c2'⟩ := (h.below hb1).cells
  go_wp2_with fail
  refine (HU.out _ hb1).mono ?_
  rintro e w2 ⟨rfl, hb2⟩
  have kf := field0 A S.bytes S.breaks S.lf S.cr
  go_wp2_with fail
  go_ret2
  exact ⟨i, (at_ - A).toNat, ret_ii rfl (by omega), ⟨by omega, by have h1 := HS.out; have h2 := HA.out; omega, fun _ => ⟨e2, by omega, e4⟩⟩, bseq hb1 hb2⟩
end Go.Proofs.YtflhiohjikgedaaGreatDoor
