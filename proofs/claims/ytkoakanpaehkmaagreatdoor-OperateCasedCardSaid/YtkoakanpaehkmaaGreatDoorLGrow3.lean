/-
  The walks of package tree at the pieces: first, both, Replace.
-/
import Derived.Test.YtkoakanpaehkmaaGreatDoorLTree8
import Derived.Test.YtkoakanpaehkmaaGreatDoorLItems2
import Derived.Laws.EntriesVeiled
import Derived.StillTail
import Derived.StillTactics
import Derived.OrdersIn
import Derived.TacticsIn
import Derived.Laws.CopyOwn
import Derived.OwnWalk
import Derived.Maps.AppendAt
import Derived.Test.YtkoakanpaehkmaaGreatDoorLGrow
set_option linter.unusedSimpArgs false
set_option linter.unusedVariables false
set_option maxRecDepth 100000
set_option maxHeartbeats 32000000
namespace Go.Proofs.YtkoakanpaehkmaaGreatDoor
open Go.RowKit
theorem ret_ii {a b c d : Int} (h1 : a = b) (h2 : c = d) : Ending.returned (.tuple #[.int .i64 a, .int .i64 c]) = .returned (.tuple #[.int .i64 b, .int .i64 d]) := by rw [h1, h2]
def PosD (ds : List (Int × Int)) : Prop := ∀ d ∈ ds, 1 <= d.2
theorem dec_pos (enc : Int) (l : List Int) : PosD (dec enc l) := (decF_size enc l.length l (Nat.le_refl _)).1
theorem PosD.app {a b : List (Int × Int)} (ha : PosD a) (hb : PosD b) : PosD (a ++ b) := fun d h => by
 rcases List.mem_append.1 h with h | h
 ·exact ha d h
 ·exact hb d h
theorem PosD.take {a : List (Int × Int)} (ha : PosD a) (k : Nat) : PosD (a.take k) := fun d h => ha d (List.mem_of_mem_take h)
theorem PosD.drop {a : List (Int × Int)} (ha : PosD a) (k : Nat) : PosD (a.drop k) := fun d h => ha d (List.mem_of_mem_drop h)
theorem sumsOf_good' {ds : List (Int × Int)} (h : PosD ds) : (sumsOf ds).good /\ (sumsOf ds).atoms = ds.length /\ (sumsOf ds).bytes = (ds.map Prod.snd).sum := by
 obtain ⟨g, ga, gb⟩ := foldl_good ds h zeroS zeroS_good
 exact ⟨g, by unfold sumsOf; rw [ga]; simp [zeroS], by unfold sumsOf; rw [gb]; simp [zeroS]⟩
theorem foldl_step {b : List (Int × Int)} : ∀ {s : Sums}, s.good -> PosD b -> b.foldl stepS s = addF s (sumsOf b) := by
 induction b with
 | nil => intro s hs _; exact (addF_zero_right hs).symm
 | cons d b ih =>
  intro s hs hb
  have hb' : PosD b := fun x hx => hb x (List.mem_cons_of_mem _ hx)
  have gd := singleF_good d.1 d.2 (hb d List.mem_cons_self)
  have g1 := addF_good hs gd
  have e1 : sumsOf (d :: b) = addF (singleF d.1 d.2) (sumsOf b) := by
   unfold sumsOf
   rw [List.foldl_cons, show stepS zeroS d = singleF d.1 d.2 from addF_zero_left _]
   exact ih gd hb'
  rw [List.foldl_cons, e1, ih (s := stepS s d) g1.1 hb', show stepS s d = addF s (singleF d.1 d.2) from rfl, addF_assoc hs gd (sumsOf_good' hb').1]
theorem sumsOf_app {a b : List (Int × Int)} (ha : PosD a) (hb : PosD b) : sumsOf (a ++ b) = addF (sumsOf a) (sumsOf b) := by
 have := foldl_step (s := sumsOf a) (sumsOf_good' ha).1 hb
 rw [<- this]
 unfold sumsOf
 rw [List.foldl_append]
structure PcOk (enc : Int) (p : Pc) : Prop where
 byt : Byt p.bytes
 len : p.bytes.length = p.n
 pos : 0 < p.n
 nle : p.n <= 1073741824
 cap : p.n <= p.c
 tag0 : -1 <= p.tag
 tag1 : p.tag <= 1073741824
 sum : p.sum = sumsOf (dec enc p.bytes)
theorem PcOk.good {enc : Int} {p : Pc} (h : PcOk enc p) : p.sum.good := by rw [h.sum]; exact (sumsOf_good' (dec_pos enc _)).1
theorem allGood_of {enc : Int} {ps : List Pc} (h : ∀ p ∈ ps, PcOk enc p) : AllGood ps := fun p hp => (h p hp).good
def decL (enc : Int) (ps : List Pc) : List (Int × Int) := ps.flatMap fun p => dec enc p.bytes
theorem decL_app (enc : Int) (a b : List Pc) : decL enc (a ++ b) = decL enc a ++ decL enc b := by unfold decL; rw [List.flatMap_append]
theorem decL_cons (enc : Int) (a : Pc) (b : List Pc) : decL enc (a :: b) = dec enc a.bytes ++ decL enc b := by unfold decL; rw [List.flatMap_cons]
theorem decL_pos (enc : Int) (ps : List Pc) : PosD (decL enc ps) := by
 induction ps with
 | nil => intro d h; cases h
 | cons p ps ih => rw [decL_cons]; exact (dec_pos enc _).app ih
theorem sumL_dec {enc : Int} {ps : List Pc} (h : ∀ p ∈ ps, PcOk enc p) : sumL ps = sumsOf (decL enc ps) := by
 induction ps with
 | nil => rfl
 | cons p ps ih =>
  rw [sumL_cons, decL_cons, sumsOf_app (dec_pos enc _) (decL_pos enc _), ih (fun q hq => h q (List.mem_cons_of_mem _ hq)), (h p List.mem_cons_self).sum]
theorem dec_nonempty (enc : Int) (l : List Int) (h : 0 < l.length) : 0 < (dec enc l).length := by rw [dec_cons enc l h]; simp
structure TextIn (w : World) (D : Nat -> Prop) (g : Nat) (enc lim : Int) (t : Tr) (a : Option Addr) (add : Value) : Prop where
 blk : Blk w g 139 #[.int .i64 enc, .int .i64 lim, .pointer a, add]
 enc4 : enc = 1 \/ enc = 2 \/ enc = 3 \/ enc = 4
 node : NodeAt w t a
 len : t.list.length <= 1073741824
 tot : totB t.list <= 1073741824
 ok : ∀ p ∈ t.list, PcOk enc p
 bts : ∀ p ∈ t.list, Bts w D p.A p.n p.bytes
theorem TextIn.below {w w' : World} {D : Nat -> Prop} {g : Nat} {enc lim : Int} {t : Tr} {a : Option Addr} {add : Value} (h : TextIn w D g enc lim t a add) (hb : Below w.heap.size w w') : TextIn w' D g enc lim t a add :=
 ⟨h.blk.below hb, h.enc4, NodeAt.below hb t a h.node, h.len, h.tot, h.ok, fun p hp => Reads.below (h.bts p hp) hb⟩
def TextAt (w : World) (D : Nat -> Prop) (g : Nat) (enc : Int) (ds : List (Int × Int)) : Prop := ∃ lim t a add, TextIn w D g enc lim t a add /\ decL enc t.list = ds
theorem TextAt.below {w w' : World} {D : Nat -> Prop} {g : Nat} {enc : Int} {ds : List (Int × Int)} (h : TextAt w D g enc ds) (hb : Below w.heap.size w w') : TextAt w' D g enc ds := by
 obtain ⟨lim, t, a, add, h, e⟩ := h
 exact ⟨lim, t, a, add, h.below hb, e⟩
section
variable {w : World} {D : Nat -> Prop} {g : Nat} {enc lim : Int} {t : Tr} {a : Option Addr} {add : Value}
theorem TextIn.good (h : TextIn w D g enc lim t a add) : AllGood t.list := allGood_of h.ok
theorem TextIn.sum (h : TextIn w D g enc lim t a add) : t.sum = sumsOf (decL enc t.list) := by rw [Tr.sum_list t h.good, sumL_dec h.ok]
theorem TextIn.cells (h : TextIn w D g enc lim t a add) : w.cell? ⟨g, 0, none⟩ = some (.int .i64 enc) /\ w.cell? ⟨g, 2, none⟩ = some (.pointer a) := ⟨h.blk.cell 0, h.blk.cell 2⟩
theorem TextIn.decLen (h : TextIn w D g enc lim t a add) : (decL enc t.list).length <= 1073741824 := by
 have h1 := sumsOf_good' (decL_pos enc t.list)
 have h2 := (sumL_good h.good).2
 rw [sumL_dec h.ok] at h2
 have h3 := h.tot
 obtain ⟨⟨_, _, h4, _⟩, h5, _⟩ := h1
 omega
end
theorem TextAt.len {w : World} {D : Nat -> Prop} {g : Nat} {enc : Int} {ds : List (Int × Int)} (h : TextAt w D g enc ds) : ds.length <= 1073741824 := by
 obtain ⟨lim, t, a, add, h, rfl⟩ := h
 exact h.decLen
theorem TextAt.pos {w : World} {D : Nat -> Prop} {g : Nat} {enc : Int} {ds : List (Int × Int)} (h : TextAt w D g enc ds) : PosD ds := by
 obtain ⟨lim, t, a, add, h, rfl⟩ := h
 exact decL_pos enc _
theorem TextAt.more {w : World} {D D' : Nat -> Prop} {g : Nat} {enc : Int} {ds : List (Int × Int)} (h : TextAt w D g enc ds) (hD : ∀ b, D b -> b < w.heap.size -> D' b) : TextAt w D' g enc ds := by
 obtain ⟨lim, t, a, add, h, rfl⟩ := h
 exact ⟨lim, t, a, add, ⟨h.blk, h.enc4, h.node, h.len, h.tot, h.ok, fun p hp => Reads.more (h.bts p hp) hD (by decide)⟩, rfl⟩
theorem field0 (a b c : Int) (x y : Bool) (w : World) : (Instr.field 134 (.agg #[.int .i64 a, .int .i64 b, .int .i64 c, .bool x, .bool y]) 0).run Tryz.prog w = .ok (.int .i64 a) w := by kernel_rfl
theorem field1 (a b c : Int) (x y : Bool) (w : World) : (Instr.field 134 (.agg #[.int .i64 a, .int .i64 b, .int .i64 c, .bool x, .bool y]) 1).run Tryz.prog w = .ok (.int .i64 b) w := by kernel_rfl
theorem field2 (a b c : Int) (x y : Bool) (w : World) : (Instr.field 134 (.agg #[.int .i64 a, .int .i64 b, .int .i64 c, .bool x, .bool y]) 2).run Tryz.prog w = .ok (.int .i64 c) w := by kernel_rfl
theorem size_any (D : Nat -> Prop) (g : Nat) (enc : Int) (ds : List (Int × Int)) (w : World) (h : TextAt w D g enc ds) :
  Calls Tryz.prog 142 #[.pointer (some ⟨g, 0, none⟩)] w fun e w' => e = .returned (.int .i64 (sumsOf ds).bytes) /\ Below w.heap.size w w' := by
 obtain ⟨lim, t, a, add, h, rfl⟩ := h
 obtain ⟨_, c2⟩ := h.cells
 have hc := tsum_any t a w h.node
 rw [h.sum] at hc
 obtain ⟨S, hS⟩ : ∃ S, sumsOf (decL enc t.list) = S := ⟨_, rfl⟩
 rw [hS] at hc ⊢
 have HC := Lib.hid hc
 clear hc hS
 go_enter Tryz.func142, Tryz.ntmps142
 go_wp2_with fail
 refine (HC.out).mono ?_
 rintro e w1 ⟨rfl, hb1⟩
 have kf := field1 S.atoms S.bytes S.breaks S.lf S.cr
 go_wp2_with fail
 go_ret
 exact ⟨rfl, hb1⟩
theorem len_any (D : Nat -> Prop) (g : Nat) (enc : Int) (ds : List (Int × Int)) (w : World) (h : TextAt w D g enc ds) :
  Calls Tryz.prog 28 #[.pointer (some ⟨g, 0, none⟩)] w fun e w' => e = .returned (.int .i64 (ds.length : Nat)) /\ Below w.heap.size w w' := by
 obtain ⟨lim, t, a, add, h, rfl⟩ := h
 obtain ⟨_, c2⟩ := h.cells
 have hc := tsum_any t a w h.node
 have hl := (sumsOf_good' (decL_pos enc t.list)).2.1
 rw [h.sum] at hc
 rw [hl] at hc
 obtain ⟨S, hS⟩ : ∃ S, sumsOf (decL enc t.list) = S := ⟨_, rfl⟩
 rw [hS] at hc
 have HC := Lib.hid hc
 clear hc hS hl
 go_enter Tryz.func28, Tryz.ntmps28
 go_wp2_with fail
 refine (HC.out).mono ?_
 rintro e w1 ⟨rfl, hb1⟩
 have kf := field0 (decL enc t.list).length S.bytes S.breaks S.lf S.cr
 go_wp2_with fail
 go_ret
 exact ⟨rfl, hb1⟩
theorem findL_atoms {enc : Int} : ∀ (ps : List Pc) (s : Sums) (n : Int), (∀ p ∈ ps, PcOk enc p) -> s.good -> s.atoms < n -> n <= s.atoms + (decL enc ps).length ->
  ∃ i : Nat, findL 0 n s ps = i + 1 /\ i < ps.length /\ s.atoms + (decL enc (ps.take i)).length < n /\ n <= s.atoms + (decL enc (ps.take (i + 1))).length := by
 intro ps
 induction ps with
 | nil => intro s n _ _ h1 h2; simp [decL] at h2; omega
 | cons p ps ih =>
  intro s n hok hs h1 h2
  have hp := hok p List.mem_cons_self
  have ga := addF_good hs hp.good
  have hpa : p.sum.atoms = (dec enc p.bytes).length := by rw [hp.sum]; exact (sumsOf_good' (dec_pos enc _)).2.1
  have hk : keyF (addF s p.sum) 0 = s.atoms + (dec enc p.bytes).length := by unfold keyF; rw [if_pos rfl, ga.2.1, hpa]
  have hfu : findL 0 n s (p :: ps) = if n <= keyF (addF s p.sum) 0 then 1 else findL 0 n (addF s p.sum) ps + 1 := rfl
  rw [hfu, hk]
  by_cases hle : n <= s.atoms + (dec enc p.bytes).length
  ·rw [if_pos hle]
   refine ⟨0, rfl, by simp, by simpa [decL] using h1, ?_⟩
   rw [Nat.zero_add, List.take_succ_cons, List.take_zero, decL_cons]
   simpa [decL] using hle
  ·rw [if_neg hle]
   rw [decL_cons, List.length_append] at h2
   obtain ⟨i, e1, e2, e3, e4⟩ := ih (addF s p.sum) n (fun q hq => hok q (List.mem_cons_of_mem _ hq)) ga.1 (by rw [ga.2.1, hpa]; omega) (by rw [ga.2.1, hpa]; omega)
   rw [ga.2.1, hpa] at e3 e4
   refine ⟨i + 1, by rw [e1]; omega, by simpa using e2, ?_, ?_⟩
   ·rw [List.take_succ_cons, decL_cons, List.length_append]; omega
   ·rw [List.take_succ_cons, decL_cons, List.length_append]; omega
def Found (enc : Int) (ps : List Pc) (at_ : Int) (i n : Nat) : Prop := i <= ps.length /\ ((decL enc (ps.take i)).length : Int) + n = at_ /\ (0 < at_ -> i < ps.length /\ 0 < n /\ at_ <= ((decL enc (ps.take (i + 1))).length : Int))
def FoundPost (enc : Int) (ps : List Pc) (at_ : Int) (w : World) (e : Ending) (w' : World) : Prop := ∃ i n : Nat, e = .returned (.tuple #[.int .i64 (i : Int), .int .i64 (n : Int)]) /\ Found enc ps at_ i n /\ Below w.heap.size w w'
theorem tfind_any (D : Nat -> Prop) (g : Nat) (enc lim : Int) (t : Tr) (a : Option Addr) (add : Value) (at_ : Int) (w : World) (h : TextIn w D g enc lim t a add) (h0 : 0 <= at_) (h1 : at_ <= ((decL enc t.list).length : Int)) :
  Calls Tryz.prog 116 #[.pointer (some ⟨g, 0, none⟩), .int .i64 at_] w fun e w' => FoundPost enc t.list at_ w e w' := by
 by_cases hz : at_ <= 0
 ·go_enter Tryz.func116, Tryz.ntmps116
  go_wp2_with fail
  go_ret2
  exact ⟨0, 0, rfl, ⟨Nat.zero_le _, by simp [decL]; omega, fun h => by omega⟩, Below.refl _ _⟩
 ·obtain ⟨_, c2⟩ := h.cells
  obtain ⟨i, e1, e2, e3, e4⟩ := findL_atoms t.list zeroS at_ h.ok zeroS_good (by simp only [zeroS]; omega) (by simp only [zeroS]; omega)
  simp only [zeroS, Int.zero_add] at e3 e4
  have htot := h.tot
  have hlen := h.len
  have hc := find_any t a 0 at_ w h.node h.len h.good (by omega)
  rw [if_neg hz, e1] at hc
  have hu : ∀ w', Below w.heap.size w w' -> Calls Tryz.prog 150 #[.agg #[.pointer a], .int .i64 (i : Int)] w' fun e w2 => e = .returned (.agg (sumL (t.list.take i)).cells) /\ Below w'.heap.size w' w2 := fun w' hb => by
   have := upto_any t a (i : Int) w' (NodeAt.below hb t a h.node) h.len (by omega) h.good (by omega)
   rwa [Int.toNat_natCast] at this
  have hs : (sumL (t.list.take i)).atoms = ((decL enc (t.list.take i)).length : Int) := by
   rw [sumL_dec (fun p hp => h.ok p (List.mem_of_mem_take hp))]
   exact (sumsOf_good' (decL_pos enc _)).2.1
  obtain ⟨S, hS⟩ : ∃ S, sumL (t.list.take i) = S := ⟨_, rfl⟩
  rw [hS] at hu hs
  obtain ⟨A, hA⟩ : ∃ A, S.atoms = A := ⟨_, rfl⟩
  have hdl := h.decLen
  have s1 : 0 <= A := by omega
  have s2 : A <= 2147483648 := by omega
  have s3 : A < at_ := by omega
  have s4 : at_ <= 2147483648 := by omega
  have s5 : i <= 2147483648 := by omega
  simp only [Sums.cells] at hu
  rw [hA] at hu
  have HC := Lib.hid hc
  have HU := Lib.hid hu
  have HS := Lib.hid hs
  have HA := Lib.hid hA
  clear hc hu hs hA hS e1
  go_enter Tryz.func116, Tryz.ntmps116
  go_wp2_with fail
  refine (HC.out).mono ?_
  rintro e w1 ⟨rfl, hb1⟩
  obtain ⟨_, c2'⟩ := (h.below hb1).cells
  go_wp2_with fail
  refine (HU.out _ hb1).mono ?_
  rintro e w2 ⟨rfl, hb2⟩
  have kf := field0 A S.bytes S.breaks S.lf S.cr
  go_wp2_with fail
  go_ret2
  exact ⟨i, (at_ - A).toNat, ret_ii rfl (by omega), ⟨by omega, by have h1 := HS.out; have h2 := HA.out; omega, fun _ => ⟨e2, by omega, e4⟩⟩, bseq hb1 hb2⟩
theorem take_getD (l : List Int) (m k : Nat) (h : k < m) : (l.take m).getD k 0 = l.getD k 0 := by
 rw [List.getD_eq_getElem?_getD, List.getD_eq_getElem?_getD, List.getElem?_take, if_pos h]
theorem contF_take_le (k : Nat) (l : List Int) (j : Nat) : contF k (l.take j) <= contF k l := by
 induction k generalizing l j with
 | zero => simp [contF]
 | succ k ih =>
  cases l with
  | nil => simp
  | cons c r =>
   cases j with
   | zero => simp [contF]
   | succ j =>
    simp only [List.take_succ_cons, contF]
    split
    ·have := ih r j; omega
    ·exact Nat.le_refl _
theorem contF_take (k : Nat) (l : List Int) (j : Nat) (h : k <= j) : contF k (l.take j) = contF k l := by
 induction k generalizing l j with
 | zero => simp [contF]
 | succ k ih =>
  cases l with
  | nil => simp
  | cons c r =>
   cases j with
   | zero => omega
   | succ j =>
    simp only [List.take_succ_cons, contF]
    rw [ih r j (by omega)]
theorem first8_take (l : List Int) (m : Nat) (h0 : 0 < l.length) (hz : size8 l <= m) : atom8 (l.take m) = atom8 l /\ size8 (l.take m) = size8 l := by
 have hb := size8_bd l h0
 have e0 : (l.take m).getD 0 0 = l.getD 0 0 := take_getD l m 0 (by omega)
 have hm : (l.take m).length = min m l.length := List.length_take
 have hr : rawF (l.take m) = rawF l := by
  cases hraw : rawF l
  ·have hs : size8 l = bdN (l.getD 0 0) := by unfold size8; rw [hraw]; rfl
   unfold rawF at hraw ⊢
   simp only [decide_eq_false_iff_not, not_or, Int.not_lt] at hraw ⊢
   rw [e0]
   refine ⟨hraw.1, ?_⟩
   have h2 := hraw.2
   have hl := rowHave_le l h0
   unfold rowHave at h2 ⊢
   rw [e0]
   by_cases hN : bdN (l.getD 0 0) < 2
   ·rw [if_pos hN]; exact Int.le_refl _
   ·rw [if_neg hN] at h2 ⊢
    by_cases hc : l.length < 2 \/ l.getD 1 0 < bdLo (l.getD 0 0) \/ bdHi (l.getD 0 0) < l.getD 1 0
    ·rw [if_pos hc] at h2; omega
    ·rw [if_neg hc] at h2
     rw [take_getD l m 1 (by omega), if_neg (by rw [hm]; omega), List.drop_take, contF_take _ _ _ (by omega)]
     exact h2
  ·unfold rawF at hraw ⊢
   simp only [decide_eq_true_eq] at hraw ⊢
   rw [e0]
   rcases hraw with hraw | hraw
   ·exact .inl hraw
   ·refine .inr (Int.lt_of_le_of_lt ?_ hraw)
    unfold rowHave
    rw [e0]
    by_cases hN : bdN (l.getD 0 0) < 2
    ·rw [if_pos hN, if_pos hN]; exact Int.le_refl _
    ·rw [if_neg hN, if_neg hN]
     by_cases hc : (l.take m).length < 2 \/ (l.take m).getD 1 0 < bdLo (l.getD 0 0) \/ bdHi (l.getD 0 0) < (l.take m).getD 1 0
     ·rw [if_pos hc]; split <;> omega
     ·rw [if_neg hc]
      rw [hm] at hc
      rw [take_getD l m 1 (by omega)] at hc
      rw [if_neg (by omega), List.drop_take]
      have := contF_take_le (bdN (l.getD 0 0) - 2).toNat (l.drop 2) (m - 2)
      omega
 unfold atom8 size8
 rw [hr, e0]
 refine ⟨?_, rfl⟩
 split
 ·rfl
 ·rename_i hn
  have hs : size8 l = bdN (l.getD 0 0) := by unfold size8; rw [if_neg hn]
  unfold valF8
  rw [e0, List.drop_take, List.take_take, Nat.min_eq_left (by omega)]
theorem first16_take (o : Int) (l : List Int) (m : Nat) (h0 : 0 < l.length) (hz : size16 o l <= m) : atom16 o (l.take m) = atom16 o l /\ size16 o (l.take m) = size16 o l := by
 have hm : (l.take m).length = min m l.length := List.length_take
 by_cases h1 : l.length = 1
 ·have hs : size16 o l = 1 := by unfold size16; rw [if_pos h1]
  rw [List.take_of_length_le (by omega)]
  exact ⟨rfl, rfl⟩
 ·have hu : 2 <= m -> unitF o (l.take m) = unitF o l := fun h => by unfold unitF; rw [take_getD l m 0 (by omega), take_getD l m 1 (by omega)]
  have hu2 : 4 <= m -> unitF o ((l.take m).drop 2) = unitF o (l.drop 2) := fun h => by
   unfold unitF
   rw [List.drop_take, take_getD _ _ 0 (by omega), take_getD _ _ 1 (by omega)]
  cases hp : pairF o l
  ·have hs : size16 o l = 2 := by unfold size16; rw [if_neg h1, hp]; rfl
   have hp2 : pairF o (l.take m) = false := by
    unfold pairF at hp ⊢
    rw [hu (by omega)]
    by_cases h4 : 4 <= m
    ·rw [hu2 h4, hm]
     rw [Bool.eq_false_iff] at hp ⊢
     intro hx
     apply hp
     simp only [Bool.and_eq_true, decide_eq_true_eq] at hx ⊢
     exact ⟨⟨hx.1.1, by omega⟩, hx.2⟩
    ·rw [hm, show decide (4 <= min m l.length) = false from by rw [decide_eq_false_iff_not]; omega]
     simp
   unfold atom16 size16
   have hmm : ¬ min m l.length = 1 := by omega
   simp [hm, hmm, h1, hp, hp2, hu (by omega)]
  ·have hs : size16 o l = 4 := by unfold size16; rw [if_neg h1, hp]; rfl
   have hp2 : pairF o (l.take m) = true := by
    unfold pairF at hp ⊢
    rw [hu (by omega), hu2 (by omega), hm]
    simp only [Bool.and_eq_true, decide_eq_true_eq] at hp ⊢
    exact ⟨⟨hp.1.1, by omega⟩, hp.2⟩
   have hl : 4 <= l.length := by
    unfold pairF at hp
    simp only [Bool.and_eq_true, decide_eq_true_eq] at hp
    exact hp.1.2
   unfold atom16 size16
   have hmm : ¬ min m l.length = 1 := by omega
   have hu3 := hu2 (by omega)
   simp only [hm, hmm, h1, hp, hp2, hu (show 2 <= m by omega), hu3, if_false, if_true]
   exact ⟨trivial, trivial⟩
theorem at_take (enc : Int) (l : List Int) (m : Nat) (h0 : 0 < l.length) (hz : sizeAt enc l <= m) : atomAt enc (l.take m) = atomAt enc l /\ sizeAt enc (l.take m) = sizeAt enc l := by
 unfold sizeAt at hz
 unfold atomAt sizeAt
 by_cases h1 : enc = 1
 ·simp only [if_pos h1] at hz ⊢; exact first8_take l m h0 hz
 ·simp only [if_neg h1] at hz ⊢
  by_cases h2 : enc = 2
  ·simp only [if_pos h2] at hz ⊢; exact first16_take 0 l m h0 hz
  ·simp only [if_neg h2] at hz ⊢
   by_cases h3 : enc = 3
   ·simp only [if_pos h3] at hz ⊢; exact first16_take 1 l m h0 hz
   ·simp only [if_neg h3] at hz ⊢
    exact ⟨take_getD l m 0 (by omega), trivial⟩
def szs (enc : Int) (l : List Int) (n : Nat) : Int := (((dec enc l).take n).map Prod.snd).sum
theorem szs_zero (enc : Int) (l : List Int) : szs enc l 0 = 0 := rfl
theorem szs_succ (enc : Int) (l : List Int) (n : Nat) (h : 0 < l.length) : szs enc l (n + 1) = sizeAt enc l + szs enc (l.drop (sizeAt enc l).toNat) n := by
 unfold szs
 rw [dec_cons enc l h]
 simp
theorem szs_nil (enc : Int) (n : Nat) : szs enc [] n = 0 := by unfold szs; rw [dec_nil]; simp
theorem szs_bd (enc : Int) (n : Nat) : ∀ l : List Int, 0 <= szs enc l n /\ szs enc l n <= l.length := by
 induction n with
 | zero => intro l; rw [szs_zero]; omega
 | succ n ih =>
  intro l
  by_cases h : 0 < l.length
  ·rw [szs_succ enc l n h]
   have h1 := ih (l.drop (sizeAt enc l).toNat)
   have h2 := sizeAt_bd enc l h
   rw [List.length_drop] at h1
   omega
  ·rw [List.eq_nil_of_length_eq_zero (show l.length = 0 by omega), szs_nil]; simp
theorem dec_take (enc : Int) (n : Nat) : ∀ l : List Int, dec enc (l.take (szs enc l n).toNat) = (dec enc l).take n := by
 induction n with
 | zero => intro l; rw [szs_zero]; simp [dec_nil]
 | succ n ih =>
  intro l
  by_cases h : 0 < l.length
  ·have h2 := sizeAt_bd enc l h
   have hb := szs_bd enc n (l.drop (sizeAt enc l).toNat)
   rw [List.length_drop] at hb
   have ht := at_take enc l (szs enc l (n + 1)).toNat h (by rw [szs_succ enc l n h]; omega)
   rw [szs_succ enc l n h] at ht ⊢
   rw [dec_cons enc l h, List.take_succ_cons, dec_cons enc (l.take _) (by rw [List.length_take]; omega), ht.1, ht.2, List.drop_take,
    show (sizeAt enc l + szs enc (l.drop (sizeAt enc l).toNat) n).toNat - (sizeAt enc l).toNat = (szs enc (l.drop (sizeAt enc l).toNat) n).toNat by omega, ih]
  ·rw [List.eq_nil_of_length_eq_zero (show l.length = 0 by omega), szs_nil]; simp [dec_nil]
theorem dec_drop (enc : Int) (n : Nat) : ∀ l : List Int, dec enc (l.drop (szs enc l n).toNat) = (dec enc l).drop n := by
 induction n with
 | zero => intro l; rw [szs_zero]; simp
 | succ n ih =>
  intro l
  by_cases h : 0 < l.length
  ·have h2 := sizeAt_bd enc l h
   have hb := szs_bd enc n (l.drop (sizeAt enc l).toNat)
   rw [szs_succ enc l n h, dec_cons enc l h, List.drop_succ_cons, <- ih, List.drop_drop]
   congr 2
   omega
  ·rw [List.eq_nil_of_length_eq_zero (show l.length = 0 by omega), szs_nil]; simp [dec_nil]
theorem roundIn_anyDepth {F : Fence} (hd : F.depth = none) {m m' : Nat} {P : Program} {l : Nat} {f : FuncId} {tmps : Array Value} {assign body : Code} {w : World} {R : Ending -> World -> Prop}
  (h : RoundIn F m P l f tmps assign body w R) : RoundIn F m' P l f tmps assign body w R := ⟨h.1, fun c cs _ => h.2 c cs (fun d h => by rw [hd] at h; cases h)⟩
theorem yieldAt_anyDepth {F : Fence} (hd : F.depth = none) {m : Nat} (m' : Nat) {P : Program} {l : Nat} {args : Array Value} {W : World} {R : Ending -> World -> Prop} (h : YieldAt F m P l args W R) : YieldAt F m' P l args W R := by
 obtain ⟨fn, tmps, assign, body, hy, hR⟩ := h
 exact ⟨fn, tmps, assign, body, hy, roundIn_anyDepth hd hR⟩
def SeqPost (J Jx : List Pc -> World -> Prop) (xs : List Pc) (e : Ending) (W' : World) : Prop := (∃ v, e = .returned v) /\ (J xs W' \/ ∃ q, q <+: xs /\ Jx q W')
theorem items1_any (l : Nat) (G : Pc -> Prop) (J Jx : List Pc -> World -> Prop) (N B1 B2 : Nat) (hJ : (∀ s W, J s W -> J s W.drew) /\ ∀ s W n, J s W -> J s (W.drewN n)) (hJa : ∀ s W o, J s W -> J s (W.alloc o)) (hY : YSpec l G J Jx N)
  (t : Tr) (a : Option Addr) (i : Int) (W : World) (hn : NodeAt W t a) (hG : ∀ p ∈ t.list, G p) (h1 : W.cell? ⟨B1, 0, none⟩ = some (.pointer a)) (h2 : W.cell? ⟨B2, 0, none⟩ = some (.int .i64 i)) (i0 : -2147483648 <= i) (i1 : i <= 2147483648)
  (hlen : t.list.length <= 1073741824) (hj : J [] W) (hN : (t.list.drop i.toNat).length <= N) :
  Calls Tryz.prog 151 #[.func (.yield l) #[] #[], .pointer (some ⟨B1, 0, none⟩), .pointer (some ⟨B2, 0, none⟩)] W fun e W' => SeqPost J Jx (t.list.drop i.toNat) e W' := by
 have hW : Below W.heap.size W ((W.alloc (.cells #[.func (.yield l) #[] #[]] 229)).alloc (.cells #[.func (.func 152) #[] #[.pointer (some ⟨W.heap.size + 1, 0, none⟩), .pointer (some ⟨W.heap.size, 0, none⟩)]] 230)) := balloc (balloc (Below.refl _ W))
 have b1 : Blk ((W.alloc (.cells #[.func (.yield l) #[] #[]] 229)).alloc (.cells #[.func (.func 152) #[] #[.pointer (some ⟨W.heap.size + 1, 0, none⟩), .pointer (some ⟨W.heap.size, 0, none⟩)]] 230)) (W.heap.size + 1) 230 #[.func (.func 152) #[] #[.pointer (some ⟨W.heap.size + 1, 0, none⟩), .pointer (some ⟨W.heap.size, 0, none⟩)]] := by
  have := Blk.new (W.alloc (.cells #[.func (.yield l) #[] #[]] 229)) 230 #[.func (.func 152) #[] #[.pointer (some ⟨W.heap.size + 1, 0, none⟩), .pointer (some ⟨W.heap.size, 0, none⟩)]]
  simpa only [World.size_alloc] using this
 have b2 : Blk ((W.alloc (.cells #[.func (.yield l) #[] #[]] 229)).alloc (.cells #[.func (.func 152) #[] #[.pointer (some ⟨W.heap.size + 1, 0, none⟩), .pointer (some ⟨W.heap.size, 0, none⟩)]] 230)) W.heap.size 229 #[.func (.yield l) #[] #[]] := (Blk.new W _ _).alloc _
 have hjj := hJa _ _ (.cells #[.func (.func 152) #[] #[.pointer (some ⟨W.heap.size + 1, 0, none⟩), .pointer (some ⟨W.heap.size, 0, none⟩)]] 230) (hJa _ _ (.cells #[.func (.yield l) #[] #[]] 229) hj)
 have hc := items2_any l G J Jx N (W.heap.size + 1) W.heap.size hJ hY t a (max 0 i) [] _ (NodeAt.below hW _ _ hn) hG b1 b2 (by omega) (by omega) hlen hjj (by rw [show (max 0 i).toNat = i.toNat by omega, List.length_nil, Nat.zero_add]; exact hN)
 rw [show (max 0 i).toNat = i.toNat by omega] at hc
 obtain ⟨ys, hys⟩ : ∃ ys, t.list.drop i.toNat = ys := ⟨_, rfl⟩
 rw [hys] at hc ⊢
 have l1 := lt_of_cell h1
 have l2 := lt_of_cell h2
 have he := Tryz.call152
 by_cases h0 : 0 < i
 all_goals
  first
   | rw [show max 0 i = i by omega] at hc
   | rw [show max 0 i = 0 by omega] at hc
  have HC := Lib.hid hc
  clear hc hjj b1 b2 hW hJ hJa hY hys
  go_enter Tryz.func151, Tryz.ntmps151
  go_wp2_with fail
  refine (HC.out).mono ?_
  rintro e w1 ⟨b, rfl, hyp⟩
  go_wp2_with fail
  go_end0
  refine ⟨⟨_, rfl⟩, ?_⟩
  cases b
  ·exact .inr (hyp.2 rfl)
  ·exact .inl (hyp.1 rfl).1
theorem items_any (a : Option Addr) (i : Int) (w : World) :
  Calls Tryz.prog 117 #[.agg #[.pointer a], .int .i64 i] w fun e w' =>
   e = .returned (.func (.func 151) #[] #[.pointer (some ⟨w.heap.size, 0, none⟩), .pointer (some ⟨w.heap.size + 1, 0, none⟩)]) /\
   (w.alloc (.cells #[.pointer a] 137)).alloc (.cells #[.int .i64 i] 3) = w' := by
 go_enter Tryz.func117, Tryz.ntmps117
 go_wp2_with fail
 go_ret
 exact ⟨rfl, rfl⟩
theorem items_stops (G : Pc -> Prop) (n : Nat) (B1 B2 : Nat) (t : Tr) (a : Option Addr) (i : Int) (w : World) (hn : NodeAt w t a) (hG : ∀ p ∈ t.list, G p) (h1 : w.cell? ⟨B1, 0, none⟩ = some (.pointer a)) (h2 : w.cell? ⟨B2, 0, none⟩ = some (.int .i64 i))
    (i0 : -2147483648 <= i) (i1 : i <= 2147483648) (hlen : t.list.length <= 1073741824) :
    SeqStopsK Fence.wide n Tryz.prog 151 #[.pointer (some ⟨B1, 0, none⟩), .pointer (some ⟨B2, 0, none⟩)] (fun x : { p : Pc // G p } => #[.agg x.1.cells]) KT
      (fun xs => xs.map Subtype.val = t.list.drop i.toNat) (fun pre => pre.map Subtype.val <+: t.list.drop i.toNat) (t.list.drop i.toNat).length w := by
  intro l J Jx W hW hJ hJx hY h0
  refine callsIn_wide.2 ?_
  have hJJ : (∀ (s : List Pc) W', (∃ l' : List { p : Pc // G p }, l'.map Subtype.val = s /\ J l' W') -> ∃ l' : List { p : Pc // G p }, l'.map Subtype.val = s /\ J l' W'.drew) /\
      ∀ (s : List Pc) W' (k : Nat), (∃ l' : List { p : Pc // G p }, l'.map Subtype.val = s /\ J l' W') -> ∃ l' : List { p : Pc // G p }, l'.map Subtype.val = s /\ J l' (W'.drewN k) :=
    ⟨fun s W' ⟨l', e, hj⟩ => ⟨l', e, hJ l' W' _ none hj ⟨rfl, rfl, rfl, Nat.le_refl _, fun _ _ _ => rfl⟩ (fun r e => by cases e)⟩,
     fun s W' k ⟨l', e, hj⟩ => ⟨l', e, hJ l' W' _ none hj ⟨rfl, rfl, rfl, Nat.le_refl _, fun _ _ _ => rfl⟩ (fun r e => by cases e)⟩⟩
  have hc := items1_any l G (fun s W' => ∃ l' : List { p : Pc // G p }, l'.map Subtype.val = s /\ J l' W') (fun s W' => ∃ l' : List { p : Pc // G p }, l'.map Subtype.val = s /\ Jx l' W') (t.list.drop i.toNat).length B1 B2 hJJ
    (fun s W' o ⟨l', e, hj⟩ => ⟨l', e, hJ l' W' _ none hj (World.grownBy_alloc W' o none) (fun r e => by cases e)⟩)
    (fun m pre x W1 hx ⟨l', e, hj⟩ hlen' => by
      have hl : l'.length = pre.length := by rw [<- e, List.length_map]
      refine (yieldAt_anyDepth rfl m (hY l' ⟨x, hx⟩ W1 hj (by omega))).mono ?_
      rintro e2 W2 (⟨h1, h2, h3⟩ | ⟨h1, h2⟩)
      · exact .inl ⟨h1, ⟨l' ++ [⟨x, hx⟩], by rw [List.map_append, e]; rfl, h2⟩, h3⟩
      · exact .inr ⟨h1, ⟨l' ++ [⟨x, hx⟩], by rw [List.map_append, e]; rfl, h2⟩⟩)
    t a i W (NodeAt.below hW t a hn) hG ((hW.cell (lt_of_cell h1)).trans h1) ((hW.cell (lt_of_cell h2)).trans h2) i0 i1 hlen ⟨[], rfl, h0⟩ (Nat.le_refl _)
  refine hc.mono ?_
  rintro e W' ⟨hv, (⟨l', e', hj⟩ | ⟨q, hq, l', e', hj⟩)⟩
  · exact ⟨hv, .inl ⟨l', e', hj⟩⟩
  · exact ⟨hv, .inr ⟨l', by show l'.map Subtype.val <+: _; rw [e']; exact hq, hj⟩⟩
def tagF (tag : Int) : Int -> List (Int × Int) -> List (Int × Int)
 | _, [] => []
 | off, d :: r => (d.1, if tag < 0 then -1 else tag + off) :: tagF tag (off + d.2) r
theorem tagF_fst (tag : Int) (ds : List (Int × Int)) : ∀ off, (tagF tag off ds).map Prod.fst = ds.map Prod.fst := by
 induction ds with
 | nil => intro off; rfl
 | cons d ds ih => intro off; simp only [tagF, List.map_cons, ih]
theorem tagF_len (tag off : Int) (ds : List (Int × Int)) : (tagF tag off ds).length = ds.length := by
 have := congrArg List.length (tagF_fst tag ds off)
 simpa using this
def atsP (enc : Int) (p : Pc) : List (Int × Int) := tagF p.tag 0 (dec enc p.bytes)
def atsL (enc : Int) (ps : List Pc) : List (Int × Int) := ps.flatMap (atsP enc)
theorem atsL_app (enc : Int) (a b : List Pc) : atsL enc (a ++ b) = atsL enc a ++ atsL enc b := by unfold atsL; rw [List.flatMap_append]
theorem atsL_one (enc : Int) (a : Pc) : atsL enc [a] = atsP enc a := by simp [atsL]
theorem atsL_fst (enc : Int) (ps : List Pc) : (atsL enc ps).map Prod.fst = (decL enc ps).map Prod.fst := by
 induction ps with
 | nil => rfl
 | cons p ps ih =>
  rw [decL_cons, List.map_append, <- ih]
  show (atsP enc p ++ atsL enc ps).map Prod.fst = _
  rw [List.map_append]
  unfold atsP
  rw [tagF_fst]
theorem atsL_len (enc : Int) (ps : List Pc) : (atsL enc ps).length = (decL enc ps).length := by
 have := congrArg List.length (atsL_fst enc ps)
 simpa using this
def feed {σ : Type} (step : σ -> Int -> Int -> σ) : Nat -> Nat -> σ -> List (Int × Int) -> Bool × Nat × Nat × σ
 | n, left, s, [] => (false, n, left, s)
 | n + 1, left, s, _ :: r => feed step n left s r
 | 0, left, s, a :: r => if left <= 1 then (true, 0, 0, step s a.1 a.2) else feed step 0 (left - 1) (step s a.1 a.2) r
section
variable {σ : Type} {step : σ -> Int -> Int -> σ}
theorem feed_app (xs ys : List (Int × Int)) : ∀ (n left : Nat) (s : σ), feed step n left s (xs ++ ys) = if (feed step n left s xs).1 = true then feed step n left s xs else feed step (feed step n left s xs).2.1 (feed step n left s xs).2.2.1 (feed step n left s xs).2.2.2 ys := by
 induction xs with
 | nil => intro n left s; simp [feed]
 | cons a xs ih =>
  intro n left s
  cases n with
  | succ n => simp only [List.cons_append, feed]; exact ih n left s
  | zero =>
   simp only [List.cons_append, feed]
   split
   ·simp
   ·exact ih 0 (left - 1) _
theorem feed_val (xs : List (Int × Int)) : ∀ (n left : Nat) (s : σ), 1 <= left -> (feed step n left s xs).2.2.2 = ((xs.drop n).take left).foldl (fun s a => step s a.1 a.2) s := by
 induction xs with
 | nil => intro n left s _; simp [feed]
 | cons a xs ih =>
  intro n left s hl
  cases n with
  | succ n => simp only [feed, List.drop_succ_cons]; exact ih n left s hl
  | zero =>
   simp only [feed, List.drop_zero]
   split
   ·rw [show left = 1 by omega]; simp
   ·rw [show left = (left - 1) + 1 by omega, List.take_succ_cons, List.foldl_cons, Nat.add_sub_cancel]
    have := ih 0 (left - 1) (step s a.1 a.2) (by omega)
    simpa using this
theorem feed_stop (xs ys : List (Int × Int)) (n left : Nat) (s : σ) (h : (feed step n left s xs).1 = true) : feed step n left s (xs ++ ys) = feed step n left s xs := by
 rw [feed_app, if_pos h]
theorem feed_go (xs ys : List (Int × Int)) (n left n' left' : Nat) (s s' : σ) (h : feed step n left s xs = (false, n', left', s')) : feed step n left s (xs ++ ys) = feed step n' left' s' ys := by
 rw [feed_app, h]
 simp
end
def seg {α : Type} (f t : Int) (l : List α) : List α := (l.drop f.toNat).take (t.toNat - f.toNat)
theorem seg_map {α β : Type} (f t : Int) (l : List α) (h : α -> β) : (seg f t l).map h = seg f t (l.map h) := by unfold seg; rw [List.map_take, List.map_drop]
structure Sees (F : FuncId) (caps : Array Value) {σ : Type} (J : σ -> (Nat -> Prop) -> World -> Prop) (step : σ -> Int -> Int -> σ) (size : σ -> Nat) : Prop where
 rises : ∀ s a g, size (step s a g) <= size s + 1
 call : ∀ s X a g w, J s X w -> size s <= 2147483648 -> Calls Tryz.prog F (#[.int .i64 a, .int .i64 g] ++ caps) w fun e w' => e = .returned (.tuple #[]) /\ (∃ X', J (step s a g) X' w' /\ ∀ b, X' b -> X b \/ w.heap.size <= b) /\ Fr X w w'
 enter : ∀ args w, (callFunc F args).run Tryz.prog w = .ok (.enter F args) w
 kind : ∀ s X w b, J s X w -> X b -> ∃ cs T, Blk w b T cs /\ (T = 3 \/ T = 34)
 keep : ∀ s X w w', J s X w -> (∀ b, X b -> w'.heap[b]? = w.heap[b]?) -> J s X w'
def SeenPost {σ : Type} (J : σ -> (Nat -> Prop) -> World -> Prop) (s : σ) (X : Nat -> Prop) (w : World) (e : Ending) (w' : World) : Prop := e = .returned (.tuple #[]) /\ (∃ X', J s X' w' /\ ∀ b, X' b -> X b \/ w.heap.size <= b) /\ Fr X w w'
theorem ret_v {k : IntKind} {a b : Int} (h : a = b) : Value.int k a = .int k b := by rw [h]
structure Core {σ : Type} (J : σ -> (Nat -> Prop) -> World -> Prop) (X0 : Nat -> Prop) (w : World) (m2 g : Nat) (tc : Array Value) (fv : Value) (Bn : Nat) (n left : Nat) (s : σ) (X : Nat -> Prop) (wr : World) : Prop where
 j : J s X wr
 xs : ∀ b, X b -> X0 b \/ m2 <= b
 fr : Fr X0 w wr
 sz : m2 <= wr.heap.size
 b4 : Blk wr w.heap.size 59 #[.pointer (some ⟨g, 0, none⟩)]
 b7 : Blk wr (w.heap.size + 1) 132 #[fv]
 bn : Blk wr Bn 3 #[.int .i64 (n : Int)]
 bl : Blk wr (Bn + 1) 3 #[.int .i64 (left : Int)]
 tx : Blk wr g 139 tc
structure CoreOk (X0 : Nat -> Prop) (w : World) (m2 g : Nat) (Bn : Nat) : Prop where
 x0 : ∀ b, X0 b -> b < w.heap.size
 h1 : w.heap.size + 1 < Bn
 h2 : Bn + 1 < m2
def Rel (m2 : Nat) (W wr : World) : Prop := KeepsFrom m2 W wr /\ KT W wr
theorem Rel.refl (m2 : Nat) (W : World) : Rel m2 W W := ⟨KeepsFrom.refl _ _, KT.refl _⟩
theorem Rel.trans {m2 : Nat} {a b c : World} (h : Rel m2 a b) (k : Rel m2 b c) : Rel m2 a c := ⟨h.1.trans k.1, h.2.trans k.2⟩
theorem Rel.below {m2 : Nat} {W W' : World} (h : Below W.heap.size W W') : Rel m2 W W' :=
 ⟨⟨h.size, fun k o _ hk _ => (h.block k (Array.getElem?_eq_some_iff.1 hk).1).trans hk⟩, KT.below h⟩
theorem Rel.setInt {m2 : Nat} {W : World} {B : Nat} {cs : Array Value} (h : Blk W B 3 cs) (v : Value) : Rel m2 W (W.setCell ⟨B, 0, none⟩ v) :=
 ⟨(KeepsOthers.setCell W _ v).from _, by simp [World.setCell], fun b c T h1 _ hb => hb.far (fun e => Blk.ne_ hb h h1 e) v⟩
section
variable {σ : Type} {F : FuncId} {caps : Array Value} {J : σ -> (Nat -> Prop) -> World -> Prop} {step : σ -> Int -> Int -> σ} {size : σ -> Nat} {X0 X : Nat -> Prop} {w wr w' : World} {m2 g Bn n left : Nat} {tc : Array Value} {fv : Value} {s s' : σ}
theorem Sees.no (hS : Sees F caps J step size) (hj : J s X wr) {b : Nat} {T : TypeId} {cs : Array Value} (hb : Blk wr b T cs) (h1 : T ≠ 3) (h2 : T ≠ 34) : ¬ X b := by
 intro hx
 obtain ⟨cs', T', hb', hT⟩ := hS.kind s X wr b hj hx
 have e : T = T' := by
  unfold Blk at hb hb'
  rw [hb] at hb'
  injection hb' with hb'
  injection hb'
 rcases hT with hT | hT
 ·exact h1 (e.trans hT)
 ·exact h2 (e.trans hT)
theorem Sees.noObj (hS : Sees F caps J step size) (hj : J s X wr) {b : Nat} {o : Obj} (hb : wr.heap[b]? = some o) (ho : o.isCells = false) : ¬ X b := by
 intro hx
 obtain ⟨cs', T', hb', _⟩ := hS.kind s X wr b hj hx
 unfold Blk at hb'
 rw [hb] at hb'
 injection hb' with hb'
 rw [hb'] at ho
 cases ho
theorem Core.below (hS : Sees F caps J step size) (h : Core J X0 w m2 g tc fv Bn n left s X wr) (hb : Below wr.heap.size wr w') : Core J X0 w m2 g tc fv Bn n left s X w' :=
 ⟨hS.keep _ _ _ _ h.j (fun b hx => by obtain ⟨cs, T, hbk, _⟩ := hS.kind _ _ _ b h.j hx; exact hb.block b hbk.lt), h.xs, h.fr.bel hb, Nat.le_trans h.sz hb.size, h.b4.below hb, h.b7.below hb, h.bn.below hb, h.bl.below hb, h.tx.below hb⟩
theorem Core.not {b : Nat} (hc : CoreOk X0 w m2 g Bn) (h : Core J X0 w m2 g tc fv Bn n left s X wr) (h1 : w.heap.size <= b) (h2 : b < m2) : ¬ X b := by
 intro hx
 rcases h.xs b hx with h3 | h3
 ·have := hc.x0 b h3; omega
 ·omega
theorem Core.setN (hc : CoreOk X0 w m2 g Bn) (hS : Sees F caps J step size) (h : Core J X0 w m2 g tc fv Bn n left s X wr) (k : Nat) : Core J X0 w m2 g tc fv Bn k left s X (wr.setCell ⟨Bn, 0, none⟩ (.int .i64 (k : Int))) := by
 have h1 := hc.h1
 have h2 := hc.h2
 have hn := h.not hc (b := Bn) (by omega) (by omega)
 exact ⟨hS.keep _ _ _ _ h.j (fun b hx => Below.heap_setCell wr _ _ b (fun e => hn (by rw [<- (show b = Bn from e)]; exact hx))), h.xs, h.fr.setCell (.inr (show w.heap.size <= Bn by omega)) _, by simpa [World.setCell] using h.sz,
  h.b4.far (show w.heap.size ≠ Bn by omega) _, h.b7.far (show w.heap.size + 1 ≠ Bn by omega) _, h.bn.set_ 0 _, h.bl.far (show Bn + 1 ≠ Bn by omega) _, h.tx.far (fun e => Blk.ne_ h.tx h.bn (by decide) e) _⟩
theorem Core.setL (hc : CoreOk X0 w m2 g Bn) (hS : Sees F caps J step size) (h : Core J X0 w m2 g tc fv Bn n left s X wr) (k : Nat) : Core J X0 w m2 g tc fv Bn n k s X (wr.setCell ⟨Bn + 1, 0, none⟩ (.int .i64 (k : Int))) := by
 have h1 := hc.h1
 have h2 := hc.h2
 have hn := h.not hc (b := Bn + 1) (by omega) (by omega)
 exact ⟨hS.keep _ _ _ _ h.j (fun b hx => Below.heap_setCell wr _ _ b (fun e => hn (by rw [<- (show b = Bn + 1 from e)]; exact hx))), h.xs, h.fr.setCell (.inr (show w.heap.size <= Bn + 1 by omega)) _, by simpa [World.setCell] using h.sz,
  h.b4.far (show w.heap.size ≠ Bn + 1 by omega) _, h.b7.far (show w.heap.size + 1 ≠ Bn + 1 by omega) _, h.bn.far (show Bn ≠ Bn + 1 by omega) _, h.bl.set_ 0 _, h.tx.far (fun e => Blk.ne_ h.tx h.bl (by decide) e) _⟩
theorem Core.see (hc : CoreOk X0 w m2 g Bn) (hS : Sees F caps J step size) (h : Core J X0 w m2 g tc fv Bn n left s X wr) {X' : Nat -> Prop} (hj : J s' X' w') (hx : ∀ b, X' b -> X b \/ wr.heap.size <= b) (hf : Fr X wr w') : Core J X0 w m2 g tc fv Bn n left s' X' w' := by
 have h1 := hc.h1
 have h2 := hc.h2
 have hsz := h.sz
 refine ⟨hj, fun b hb => ?_, ?_, Nat.le_trans h.sz hf.size, h.b4.fr hf (h.not hc (Nat.le_refl _) (by omega)), h.b7.fr hf (h.not hc (by omega) (by omega)), h.bn.fr hf (h.not hc (by omega) (by omega)), h.bl.fr hf (h.not hc (by omega) (by omega)), h.tx.fr hf (hS.no h.j h.tx (by decide) (by decide))⟩
 ·rcases hx b hb with h3 | h3
  ·exact h.xs b h3
  ·exact .inr (by omega)
 ·refine h.fr.call hf (fun i hi hX => ?_)
  rcases h.xs i hX with h3 | h3
  ·exact h3
  ·omega
theorem Core.rel (hS : Sees F caps J step size) (h : Core J X0 w m2 g tc fv Bn n left s X wr) (hf : Fr X wr w') : Rel m2 wr w' :=
 ⟨⟨hf.size, fun k o _ hk ho => (hf.block k (Array.getElem?_eq_some_iff.1 hk).1 (hS.noObj h.j hk ho)).trans hk⟩, hf.size, fun b cs T h1 h2 hb => hb.fr hf (hS.no h.j hb h1 h2)⟩
theorem Core.own (hc : CoreOk X0 w m2 g Bn) (hS : Sees F caps J step size) (h : Core J X0 w m2 g tc fv Bn n left s X wr) {row : Option Nat} (hg : wr.grownBy w' row) (hr : ∀ r, row = some r -> m2 <= r /\ ∃ o : Obj, wr.heap[r]? = some o /\ o.isCells = false) :
  Core J X0 w m2 g tc fv Bn n left s X w' := by
 have h1 := hc.h1
 have h2 := hc.h2
 have hne : ∀ {b : Nat} {T : TypeId} {cs : Array Value}, Blk wr b T cs -> some b ≠ row := by
  intro b T cs hb e
  obtain ⟨_, o, ho, hcell⟩ := hr b e.symm
  unfold Blk at hb
  rw [hb] at ho
  injection ho with ho
  rw [<- ho] at hcell
  cases hcell
 refine ⟨hS.keep _ _ _ _ h.j (fun b hx => ?_), h.xs, ?_, Nat.le_trans h.sz hg.size, h.b4.grown hg (hne h.b4), h.b7.grown hg (hne h.b7), h.bn.grown hg (hne h.bn), h.bl.grown hg (hne h.bl), h.tx.grown hg (hne h.tx)⟩
 ·obtain ⟨cs, T, hbk, _⟩ := hS.kind _ _ _ b h.j hx
  exact hg.block b hbk.lt (hne hbk)
 ·exact h.fr.grown hg (fun k e hk => by have := (hr k e).1; omega)
end
def GPc (w : World) (D : Nat -> Prop) (enc : Int) (p : Pc) : Prop := PcOk enc p /\ Bts w D p.A p.n p.bytes
def WkI {σ : Type} (J : σ -> (Nat -> Prop) -> World -> Prop) (step : σ -> Int -> Int -> σ) (size : σ -> Nat) (X0 : Nat -> Prop) (w : World) (m2 g : Nat) (tc : Array Value) (fv : Value) (Bn : Nat) (enc : Int) (G : Pc -> Prop) (n0 left0 : Nat) (s0 : σ) (pre : List { p : Pc // G p }) (W : World) : Prop :=
 ∃ n left s X, feed step n0 left0 s0 (atsL enc (pre.map Subtype.val)) = (false, n, left, s) /\ 1 <= left /\ size s + left <= 2147483648 /\ n <= 1073741824 /\ Core J X0 w m2 g tc fv Bn n left s X W
def WkX {σ : Type} (J : σ -> (Nat -> Prop) -> World -> Prop) (step : σ -> Int -> Int -> σ) (X0 : Nat -> Prop) (w : World) (m2 g : Nat) (tc : Array Value) (fv : Value) (Bn : Nat) (enc : Int) (G : Pc -> Prop) (n0 left0 : Nat) (s0 : σ) (c : Code) (pre : List { p : Pc // G p }) (W : World) : Prop :=
 c = .ret /\ ∃ k l s X, feed step n0 left0 s0 (atsL enc (pre.map Subtype.val)) = (true, k, l, s) /\ Core J X0 w m2 g tc fv Bn 0 0 s X W
def WkR {σ : Type} (J : σ -> (Nat -> Prop) -> World -> Prop) (step : σ -> Int -> Int -> σ) (size : σ -> Nat) (X0 : Nat -> Prop) (w : World) (m2 g : Nat) (tc : Array Value) (fv : Value) (Bn : Nat) (enc : Int) (x : Pc) (T : Bool × Nat × Nat × σ) (W : World) (kk : Nat) (q : Value) (wr : World) : Prop :=
 ∃ (k n left : Nat) (s : σ) (X : Nat -> Prop), q = .int .i64 (k : Int) /\ Core J X0 w m2 g tc fv Bn n left s X wr /\ Rel m2 W wr /\ feed step n left s (tagF x.tag (k : Int) (dec enc (x.bytes.drop k))) = T /\ 1 <= left /\ size s + left <= 2147483648 /\ n <= 1073741824 /\ k <= x.n /\ x.n - k <= kk
def noDefer (ops : Array Oper) : Bool := ops.all fun o => match o.op with | .defer _ => false | _ => true
theorem noDefer_at {ops : Array Oper} (h : noDefer ops = true) {i : Nat} {o : Oper} (ho : ops[i]? = some o) (c : Call) : o.op ≠ .defer c := by
 intro e
 unfold noDefer at h
 obtain ⟨hlt, ho'⟩ := Array.getElem?_eq_some_iff.1 ho
 have := (Array.all_eq_true.1 h) i hlt
 rw [ho', e] at this
 cases this
section
variable {F : Fence} {m : Nat} {P : Program} {ops : Array Oper} {md : Region.Mode} {w : World}
theorem wpOpIn_of_stOp (hF : ∀ f, F.fn f) (hd : F.depth = none) (hC : ∀ f args (w : World) R, Calls P f args w R -> CallsIn F (m - 1) P f args w R) (hD : noDefer ops = true)
  {i : Nat} {a : Act} {K : Act -> Prop} {K' : Act -> World -> Prop} {Q' : Exit -> Act -> World -> Prop} (h : ∀ a, K a -> K' a w) (hh : stOp P ops w i K a) : wpOpIn F m P ops Q' i K' a w := by
 unfold stOp at hh
 unfold wpOpIn
 split
 ·rename_i ho; simp only [ho] at hh; exact h _ hh
 ·rename_i o ho
  simp only [ho] at hh
  split
  ·rename_i hw
   simp only [hw, if_true] at hh
   unfold Oper.still at hh
   unfold Oper.wpIn
   refine ⟨fun f _ => hF f, ?_⟩
   rw [Oper.semAt_eq _ _ _ (noDefer_at hD ho)]
   generalize (execOp a.eval o).run P w = r at *
   cases r with
   | ok n w' =>
    cases n <;> simp only [Oper.stillUpon] at hh <;> simp only [Oper.uponIn]
    case enter f args =>
     obtain ⟨rfl, v, hc, hn⟩ := hh
     exact ⟨(fun e => by rw [hd] at e; cases e), CallsIn.mono (hC _ _ _ _ hc) fun e w'' ⟨he, hw⟩ => by subst he; subst hw; exact h _ hn⟩
    all_goals (obtain ⟨rfl, h2⟩ := hh; exact h _ h2)
   | halt x w' => simp only [Oper.stillUpon] at hh
  ·rename_i hw
   simp only [hw] at hh
   exact ⟨fun f _ => hF f, h _ hh⟩
def restB (md : Region.Mode) (ops : Array Oper) (n : Nat) : Bool := (List.range ops.size).all fun t => decide (t <= n) || (List.range t).any fun j => decide (n <= j) && Region.waitsFor md ops t j
theorem restB_at {n t : Nat} (h : restB md ops n = true) (ht : n < t) (hs : t < ops.size) : ∃ j, n <= j /\ j < t /\ Region.waitsFor md ops t j = true := by
 have h1 := List.all_eq_true.1 h t (List.mem_range.2 hs)
 simp only [Bool.or_eq_true, decide_eq_true_eq] at h1
 rcases h1 with h1 | h1
 ·omega
 ·obtain ⟨j, hj, hj2⟩ := List.any_eq_true.1 h1
  simp only [Bool.and_eq_true, decide_eq_true_eq] at hj2
  exact ⟨j, hj2.1, List.mem_range.1 hj, hj2.2⟩
theorem rest_waits {n : Nat} {listed : Array Bool} (hs : Region.sinkB md ops n = true) (hc : restB md ops n = true) (inv : HeadInv md ops n listed) :
  ∀ (d i : Nat), n - i = d -> i < n -> listed.getD i true = false -> ∀ t, n <= t -> t ∉ Region.ready md ops listed := by
 intro d
 induction d using Nat.strongRecOn with
 | _ d ih =>
  intro i hd hi hun t ht hr
  obtain ⟨_, ot, hot, hall⟩ := mem_ready.1 hr
  have htlt : t < ops.size := (Array.getElem?_eq_some_iff.1 hot).1
  by_cases htn : t = n
  ·subst htn
   have h1 := List.all_eq_true.1 hs i (List.mem_range.2 hi)
   obtain ⟨j, hj, hj2⟩ := List.any_eq_true.1 h1
   simp only [Bool.and_eq_true, decide_eq_true_eq] at hj2
   obtain ⟨oj, hoj, e, he, hb, hon⟩ := Region.waitsFor_spec hj2.2
   have hjle : j <= t := by have := List.mem_range.1 hj; omega
   by_cases hjt : j = t
   ·subst hjt
    have : oj = ot := Option.some.inj (hoj.symm.trans hot)
    subst this
    have h2 := hall e he hb
    rw [hon, getD_both hun] at h2
    cases h2
   ·cases hl : listed.getD j false with
    | true =>
     have h2 := inv.closed j oj hoj hl e he hb
     rw [hon, getD_both hun] at h2
     cases h2
    | false =>
     have hjs : j < listed.size := by rw [inv.size]; omega
     exact ih (t - j) (by omega) j rfl (by omega) (getD_in hjs hl) t (Nat.le_refl _) hr
  ·obtain ⟨j, hj1, hj2, hw⟩ := restB_at hc (by omega) htlt
   obtain ⟨o', ho', e, he, hb, hon⟩ := Region.waitsFor_spec hw
   have : o' = ot := Option.some.inj (ho'.symm.trans hot)
   subst this
   have h2 := hall e he hb
   rw [hon, getD_both (inv.tail j hj1 (by omega))] at h2
   cases h2
theorem wpAnyL_first' {n i : Nat} {oi : Oper} {v : Value} {L : Array Bool -> Act -> Prop} (hi : ops[i]? = some oi) (hsel : ∀ (j : Nat) (o : Oper) cs b, ops[j]? = some o -> o.op ≠ .select cs b)
    (hs : Region.sinkB md ops n = true) (hc : restB md ops n = true) (hin : i < n)
    (hdone : ∀ listed a, L listed a -> ∀ j ∈ Region.ready md ops listed, n <= j) :
    ∀ (f : Nat) (listed : Array Bool) (a : Act), HeadInv md ops n listed ->
      (∀ j oj, ops[j]? = some oj -> j ≠ i -> listed.getD j true = false -> (∀ e ∈ oj.after, Region.binds md e = true -> e.on ≠ i) -> oi.apart ops oj = true) ->
      i ∈ Region.ready md ops listed -> YieldsAt P ops w oi v a ->
      wpAnyL P md ops w n L f (listed.setIfInBounds i true) (a.put oi.dst v) -> wpAnyL P md ops w n L (f + 1) listed a := by
  intro f
  induction f with
  | zero =>
    intro listed a inv _ hr hy H
    have hun := (mem_ready.1 hr).1
    refine ⟨fun h => (by rw [h] at hr; cases hr), fun j hj => ?_⟩
    have hjn : j < n := by
      rcases Nat.lt_or_ge j n with h | h
      · exact h
      · exact absurd hj (rest_waits hs hc inv _ i rfl hin hun j h)
    refine ⟨hjn, ?_⟩
    by_cases hji : j = i
    · subst hji; exact hy.stOp hi H
    · have := hdone _ _ H j (ready_mono hj hji)
      omega
  | succ f ih =>
    intro listed a inv hfree hr hy H
    have hun := (mem_ready.1 hr).1
    refine ⟨fun h => (by rw [h] at hr; cases hr), fun j hj => ?_⟩
    have hjn : j < n := by
      rcases Nat.lt_or_ge j n with h | h
      · exact h
      · exact absurd hj (rest_waits hs hc inv _ i rfl hin hun j h)
    refine ⟨hjn, ?_⟩
    by_cases hji : j = i
    · subst hji; exact hy.stOp hi H
    · have h1 := (H.2 j (ready_mono hj hji)).2
      obtain ⟨hjun, oj, hoj, hall⟩ := mem_ready.1 hj
      have hnot : ∀ e ∈ oj.after, Region.binds md e = true -> e.on ≠ i := fun e he hb heq => by
        have h1 := hall e he hb
        rw [heq, getD_both hun] at h1
        cases h1
      have h2 := stOp_put hoj (hfree j oj hoj hji hjun hnot) (fun cs b => hsel i oi cs b hi) (fun cs b => hsel j oj cs b hoj) hy h1
      have hfree' : ∀ k ok, ops[k]? = some ok -> k ≠ i -> (listed.setIfInBounds j true).getD k true = false ->
          (∀ e ∈ ok.after, Region.binds md e = true -> e.on ≠ i) -> oi.apart ops ok = true := fun k ok hk hki hun hno => by
        refine hfree k ok hk hki ?_ hno
        by_cases hjk : j = k
        · subst hjk; exact hjun
        · rw [getD_set_ne true hjk] at hun; exact hun
      refine stOp_mono (fun a' h3 => ih (listed.setIfInBounds j true) a' (inv.set hj hjn) hfree' (ready_mono hr (Ne.symm hji)) h3.1 ?_) h2
      rw [Array.setIfInBounds_comm _ _ hji]
      exact h3.2
def midB (md : Region.Mode) (ops : Array Oper) (n : Nat) (listed : Array Bool) : Bool := decide (Region.ready md ops listed = [n]) && Region.lexFrom md ops (ops.size - n - 1) (n + 1) (listed.setIfInBounds n true)
def midHead (md : Region.Mode) (ops : Array Oper) (n : Nat) : Nat -> Nat -> Array Bool -> Bool
 | 0, _, listed => midB md ops n listed
 | f + 1, k, listed => (Region.ready md ops listed).contains k && Region.free md ops listed k && midHead md ops n f (k + 1) (listed.setIfInBounds k true)
def lexMidB (md : Region.Mode) (ops : Array Oper) (n : Nat) : Bool := Region.noSelect ops && decide (n < ops.size) && Region.sinkB md ops n && restB md ops n && midHead md ops n n 0 (Array.replicate ops.size false) && noDefer ops
theorem midB_ready {n : Nat} {listed : Array Bool} (h : midB md ops n listed = true) : ∀ j ∈ Region.ready md ops listed, n <= j := by
 intro j hj
 simp only [midB, Bool.and_eq_true, decide_eq_true_eq] at h
 rw [h.1] at hj
 have : j = n := by simpa using hj
 omega
theorem wpAnyL_lex' {n : Nat} {Lq : Act -> Prop} (hsel : Region.noSelect ops = true) (hs : Region.sinkB md ops n = true) (hc : restB md ops n = true) :
  ∀ (l : List Oper) (k : Nat) (listed : Array Bool) (a : Act), (∀ j, j < l.length -> l[j]? = ops[k + j]?) -> k + l.length = n -> HeadInv md ops n listed ->
  midHead md ops n l.length k listed = true -> wpStill P ops w Lq l a ->
  wpAnyL P md ops w n (fun listed' a' => midB md ops n listed' = true /\ Lq a') l.length listed a
 | [], k, listed, a, _, hk, _, hB, h => ⟨by simpa [midHead] using hB, h⟩
 | o :: l, k, listed, a, hl, hk, inv, hB, h => by
  have h0 : ops[k]? = some o := by simpa using (hl 0 (by simp)).symm
  simp only [List.length_cons, midHead, Bool.and_eq_true] at hB
  obtain ⟨⟨hr, hf⟩, hB'⟩ := hB
  have hkn : k < n := by simp only [List.length_cons] at hk; omega
  have hr' : k ∈ Region.ready md ops listed := by simpa using hr
  have hst : stOp P ops w k (wpStill P ops w Lq l) a := by unfold stOp; simp only [h0]; exact h
  obtain ⟨v, hy, hK⟩ := yieldsAt_of_stOp h0 hst
  exact wpAnyL_first' h0 (Region.noSelect_spec hsel) hs hc hkn (fun listed' a' hL => midB_ready hL.1) l.length listed a inv (Region.free_spec h0 hf) hr' hy
   (wpAnyL_lex' hsel hs hc l (k + 1) _ _ (fun j hj => by have := hl (j + 1) (by simp; omega); simpa [Nat.add_assoc, Nat.add_comm 1 j] using this) (by simp only [List.length_cons] at hk; omega) (inv.set hr' hkn) hB' hK)
def MidQ (P : Program) (ops : Array Oper) (tail : List Oper) (Q : Exit -> Act -> World -> Prop) : Exit -> Act -> World -> Prop
 | .normal, a, w => wpStill P ops w (fun a' => Q .normal a' w) tail a
 | e, a, w => Q e a w
theorem MidQ.go {P : Program} {ops : Array Oper} {tail : List Oper} {Q : Exit -> Act -> World -> Prop} {a : Act} {w : World} (h : wpStill P ops w (fun a' => Q .normal a' w) tail a) : MidQ P ops tail Q .normal a w := h
section
variable (hF : ∀ f, F.fn f) (hd : F.depth = none) (hC : ∀ f args (w : World) R, Calls P f args w R -> CallsIn F (m - 1) P f args w R) (hD : noDefer ops = true)
include hF hd hC hD
theorem wpAnyIn_of_head {n g : Nat} {L : Array Bool -> Act -> Prop} {Q' : Exit -> Act -> World -> Prop} (hL : ∀ listed a, L listed a -> wpAnyIn F m P md ops Q' g listed a w) :
  ∀ (f : Nat) (listed : Array Bool) (a : Act), wpAnyL P md ops w n L f listed a -> wpAnyIn F m P md ops Q' (f + g) listed a w
 | 0, listed, a, h => by rw [Nat.zero_add]; exact hL _ _ h
 | f + 1, listed, a, h => by
  rw [show f + 1 + g = (f + g) + 1 by omega]
  exact ⟨fun h0 => absurd h0 h.1, fun i hi => wpOpIn_of_stOp hF hd hC hD (fun a' h' => wpAnyIn_of_head hL f _ a' h') (h.2 i hi).2⟩
theorem wpAnyIn_of_still {Q : Act -> Prop} {Q' : Exit -> Act -> World -> Prop} (hQ : ∀ a, Q a -> Q' .normal a w) : ∀ (fuel : Nat) (listed : Array Bool) (a : Act),
  wpAnyS P md ops w Q fuel listed a -> wpAnyIn F m P md ops Q' fuel listed a w
 | 0, _, _, h => ⟨h.1, hQ _ h.2⟩
 | fuel + 1, _, _, h => ⟨fun h0 => hQ _ (h.1 h0), fun i hi => wpOpIn_of_stOp hF hd hC hD (fun a' => wpAnyIn_of_still hQ fuel _ a') (h.2 i hi)⟩
end
theorem wpOpIn_to {F : Fence} {m : Nat} {P : Program} {ops : Array Oper} {Q Q' : Exit -> Act -> World -> Prop} {o : Oper} {a : Act} {w : World} {K : Act -> World -> Prop} {i : Nat} (ho : ops[i]? = some o)
  (hq : ∀ e a w, e ≠ .normal -> Q e a w -> Q' e a w) (hk : ∀ a w, Q .normal a w -> K a w) (h : wpListIn F m P ops Q [o] a w) : wpOpIn F m P ops Q' i K a w := by
 unfold wpOpIn
 rw [ho]
 unfold wpListIn at h
 show (if Region.wanted o (yielded ops a.tmps) = true then o.wpIn F m P a w K Q' else (∀ f, o.about P w a.eval = some f -> F.fn f) /\ K (a.put o.dst undef) w)
 split
 ·rename_i hw
  simp only [hw, if_true] at h
  unfold Oper.wpIn at *
  refine ⟨h.1, ?_⟩
  have h := h.2
  have lo : LetsOut Q -> LetsOut Q' := fun ⟨a0, w0, hq0⟩ => ⟨a0, w0, hq _ _ _ (by simp) hq0⟩
  generalize (o.semAt F.round a.eval).run P w = r at *
  cases r with
  | ok x w' =>
   cases x <;> simp only [Oper.uponIn] at h ⊢ <;>
    first
     | exact hk _ _ h
     | exact ⟨h.1, CallsIn.mono h.2 (fun e w'' he => by cases e <;> first | exact hk _ _ he | exact hq _ _ _ (by simp) he | exact lo he)⟩
     | exact ⟨h.1, RowsIn.mono h.2 (fun _ _ he => hk _ _ he)⟩
     | exact ⟨h.1, RoundIn.mono h.2 (fun e w'' he => by cases e <;> first | exact hk _ _ he | exact hq _ _ _ (by simp) he | exact lo he)⟩
  | halt x w' => cases x <;> simp only [Oper.uponIn] at h ⊢ <;> exact hq _ _ _ (by simp) h
 ·rename_i hw
  simp only [hw] at h
  exact ⟨h.1, hk _ _ h.2⟩
theorem wpIn_region_mid (hF : ∀ f, F.fn f) (hd : F.depth = none) (hC : ∀ f args (w : World) R, Calls P f args w R -> CallsIn F (m - 1) P f args w R)
  {id : Nat} {Q : Exit -> Act -> World -> Prop} {a : Act} {l : List Oper} (n : Nat) (o : Oper) (hm : P.follows .mixedOrders = true) (hB : lexMidB .any l.toArray n = true) (ho : l[n]? = some o)
  (h : wpStill P l.toArray w.drew (fun a' => wpListIn F m P l.toArray (MidQ P l.toArray (l.drop (n + 1)) Q) [o] a' w.drew) (l.take n) a) : (Code.region id l.toArray true).wpIn F m P Q a w := by
 simp only [lexMidB, Bool.and_eq_true, decide_eq_true_eq] at hB
 obtain ⟨⟨⟨⟨⟨hsel, hn⟩, hs⟩, hc⟩, hlex⟩, hD⟩ := hB
 have hn' : n < l.length := by simpa using hn
 have htl : (l.take n).length = n := by simp; omega
 have inv0 : HeadInv .any l.toArray n (Array.replicate l.toArray.size false) :=
  ⟨by simp, fun j oj _ hl => (by rw [getD_replicate_false] at hl; cases hl), fun t _ ht => getD_in (by simpa using ht) (getD_replicate_false _ _)⟩
 have H := wpAnyL_lex' (md := .any) hsel hs hc (l.take n) 0 _ a (fun j hj => by
  have hj' : j < n := by rw [htl] at hj; exact hj
  simp [hj']) (by simpa using htl) inv0 (by rw [htl]; exact hlex) h
 refine wpIn_region_any hm ?_
 have ho' : l.toArray[n]? = some o := by simpa using ho
 have := wpAnyIn_of_head hF hd hC hD (Q' := Q) (g := (l.toArray.size - n - 1) + 1) (fun listed a' hL => by
  have hB := hL.1
  simp only [midB, Bool.and_eq_true, decide_eq_true_eq] at hB
  refine ⟨fun h0 => absurd (hB.1.symm.trans h0) (by simp), fun i hi => ?_⟩
  rw [hB.1] at hi
  have hin : i = n := by simpa using hi
  subst hin
  refine wpOpIn_to ho' (fun e a w he h => ?_) (fun a2 w2 h2 => ?_) hL.2
  ·cases e <;> first | exact absurd rfl he | exact h
  ·refine wpAnyIn_of_still hF hd hC hD (Q := fun a' => Q .normal a' w2) (fun _ h => h) _ _ _ ?_
   have hdl : (l.drop (i + 1)).length = l.toArray.size - i - 1 := by simp; omega
   have := wpAnyS_lex (md := .any) hsel (l.drop (i + 1)) (i + 1) (listed.setIfInBounds i true) a2 (fun j => by simp [List.getElem?_drop]) (by rw [hdl]; exact hB.2) h2
   rwa [hdl] at this) _ _ _ H
 rw [htl, show n + ((l.toArray.size - n - 1) + 1) = l.toArray.size by omega] at this
 exact this
end
theorem round_calls (l k : Nat) (f : FuncId) (args : Array Value) (w : World) (R : Ending -> World -> Prop) (h : Calls Tryz.prog f args w R) : CallsIn (Fence.wide.inRound l) k Tryz.prog f args w R := CallsIn.inRound l (callsIn_wide.2 h)
def zeroC : Array Value := partC none 0 0 0 zeroS
def CutR (enc : Int) (B : List Int) (N : Nat) (cs : Array Value) (P : Int) (w : World) (k : Nat) (q2 q8 : Value) (wr : World) : Prop :=
 ∃ (m : Int) (p : Nat), q2 = .int .i64 m /\ q8 = .int .i64 (p : Int) /\ p + szs enc (B.drop p) m.toNat = P /\ p <= N /\ N - p <= k /\ -2147483648 <= m /\ m <= 2147483648 /\
  Below w.heap.size w wr /\ Blk wr w.heap.size 142 cs /\ Blk wr (w.heap.size + 1) 142 zeroC /\ Blk wr (w.heap.size + 2) 142 zeroC
theorem part_facts {w : World} {b : Nat} {A : Option Addr} {n c : Nat} {tag : Int} {s : Sums} (h : Blk w b 142 (partC A n c tag s)) :
  (w.cell? ⟨b, 0, none⟩ = some (.slice A n c) /\ w.cell? ⟨b, 1, none⟩ = some (.int .i64 tag) /\ w.cell? ⟨b, 2, none⟩ = some (.int .i64 s.atoms) /\ w.cell? ⟨b, 3, none⟩ = some (.int .i64 s.bytes) /\ w.cell? ⟨b, 4, none⟩ = some (.int .i64 s.breaks) /\ w.cell? ⟨b, 5, none⟩ = some (.bool s.lf) /\ w.cell? ⟨b, 6, none⟩ = some (.bool s.cr)) /\
  w.frozen? ⟨b, 0, none⟩ = false /\ w.frozen? ⟨b, 1, none⟩ = false /\ w.frozen? ⟨b, 2, none⟩ = false /\ w.frozen? ⟨b, 3, none⟩ = false /\ w.frozen? ⟨b, 4, none⟩ = false /\ w.frozen? ⟨b, 5, none⟩ = false /\ w.frozen? ⟨b, 6, none⟩ = false :=
 ⟨⟨h.cell 0, h.cell 1, h.cell 2, h.cell 3, h.cell 4, h.cell 5, h.cell 6⟩, h.frozen 0, h.frozen 1, h.frozen 2, h.frozen 3, h.frozen 4, h.frozen 5, h.frozen 6⟩
theorem keep2set {w : World} {p q r : Addr} {u v x : Value} (h1 : p.block ≠ r.block) (h2 : q.block ≠ r.block) (h : w.cell? p = some u /\ w.cell? q = some v) : (w.setCell r x).cell? p = some u /\ (w.setCell r x).cell? q = some v :=
 ⟨(World.cell?_of_block (w := w) (Below.heap_setCell w r x p.block h1)).trans h.1, (World.cell?_of_block (w := w) (Below.heap_setCell w r x q.block h2)).trans h.2⟩
def setP (w : World) (b : Nat) (A : Option Addr) (n c : Nat) (tag : Int) (s : Sums) : World :=
 ((((((w.setCell ⟨b, 0, none⟩ (.slice A n c)).setCell ⟨b, 1, none⟩ (.int .i64 tag)).setCell ⟨b, 2, none⟩ (.int .i64 s.atoms)).setCell ⟨b, 3, none⟩ (.int .i64 s.bytes)).setCell ⟨b, 4, none⟩ (.int .i64 s.breaks)).setCell ⟨b, 5, none⟩ (.bool s.lf)).setCell ⟨b, 6, none⟩ (.bool s.cr)
section
variable {w w1 : World} {b g : Nat} {A A' : Option Addr} {n c n' c' : Nat} {tag tag' : Int} {s s' : Sums} {T : TypeId} {cs : Array Value}
theorem setP_own (h : Blk w b 142 (partC A' n' c' tag' s')) : Blk (setP w b A n c tag s) b 142 (partC A n c tag s) :=
 (((((((h.set_ 0 (.slice A n c)).set_ 1 (.int .i64 tag)).set_ 2 (.int .i64 s.atoms)).set_ 3 (.int .i64 s.bytes)).set_ 4 (.int .i64 s.breaks)).set_ 5 (.bool s.lf)).set_ 6 (.bool s.cr)).eq_ (by simp [partC])
theorem setP_far (h : Blk w g T cs) (hne : g ≠ b) : Blk (setP w b A n c tag s) g T cs :=
 ((((((h.far (p := ⟨b, 0, none⟩) hne _).far (p := ⟨b, 1, none⟩) hne _).far (p := ⟨b, 2, none⟩) hne _).far (p := ⟨b, 3, none⟩) hne _).far (p := ⟨b, 4, none⟩) hne _).far (p := ⟨b, 5, none⟩) hne _).far (p := ⟨b, 6, none⟩) hne _
theorem setP_below (h : Below w.heap.size w w1) (hb : w.heap.size <= b) : Below w.heap.size w (setP w1 b A n c tag s) :=
 ((((((h.setCell hb _).setCell hb _).setCell hb _).setCell hb _).setCell hb _).setCell hb _).setCell hb _
end
def CutV (enc : Int) (x : Pc) (n : Int) : Value :=
 .tuple #[.agg (partC x.A (szs enc x.bytes n.toNat).toNat (szs enc x.bytes n.toNat).toNat x.tag (sumsOf ((dec enc x.bytes).take n.toNat))),
  .agg (partC (if x.c = (szs enc x.bytes n.toNat).toNat then x.A else x.A.map (·.add (szs enc x.bytes n.toNat).toNat)) (x.n - (szs enc x.bytes n.toNat).toNat) (x.c - (szs enc x.bytes n.toNat).toNat) (if 0 <= x.tag then x.tag + szs enc x.bytes n.toNat else x.tag) (sumsOf ((dec enc x.bytes).drop n.toNat)))]
theorem cut_any0 (V : Value) (enc : Int) (D : Nat -> Prop) (x : Pc) (n : Int) (w : World) (hV : CutV enc x n = V) (he : enc = 1 \/ enc = 2 \/ enc = 3 \/ enc = 4) (hx : PcOk enc x) (hl : Bts w D x.A x.n x.bytes) (n0 : -2147483648 <= n) (n1 : n <= 2147483648) :
  Calls Tryz.prog 175 #[.agg x.cells, .int .i64 enc, .int .i64 n] w fun e w' => e = .returned V /\ Below w.heap.size w w' := by
 obtain ⟨xA, xN, xC, xT, xS, xB⟩ := x
 obtain ⟨xb, xl, xp, xn, xc, xt0, xt1, xsum⟩ := hx
 clear xsum
 unfold CutV at hV
 dsimp only at hV hl xb xl xp xn xc xt0 xt1 ⊢
 have hbd := szs_bd enc n.toNat xB
 have hdt := dec_take enc n.toNat xB
 have hdd := dec_drop enc n.toNat xB
 rw [<- hdt, <- hdd] at hV
 clear hdt hdd
 obtain ⟨P, hP⟩ : ∃ P, szs enc xB n.toNat = P := ⟨_, rfl⟩
 rw [hP] at hbd hV
 obtain ⟨tg, htg⟩ : ∃ tg : Int, (if 0 <= xT then xT + P else xT) = tg := ⟨_, rfl⟩
 rw [htg] at hV
 have HV := Lib.hid hV
 have HTG := Lib.hid htg
 have HP := Lib.hid hP
 have HXL := Lib.hid xl
 clear hP xl htg hV
 simp only [Pc.cells, partC]
 go_enter Tryz.func175, Tryz.ntmps175
 go_wp2_with fail
 go_loopg [2, 8] xN (fun k q2 q8 wr => CutR enc xB xN (partC xA xN xC xT xS) P w k q2 q8 wr)
 case atStart =>
  refine ⟨n, 0, rfl, rfl, by rw [List.drop_zero, HP.out]; simp, Nat.zero_le _, Nat.le_refl _, n0, n1, ?_, ?_, ?_, ?_⟩
  ·repeat (first | exact Below.refl _ _ | apply balloc)
  ·exact ((Blk.new w _ _).alloc _).alloc _
  ·have := (Blk.new (w.alloc (.cells (partC xA xN xC xT xS) 142)) 142 zeroC).alloc (.cells zeroC 142)
   simp only [World.size_alloc] at this
   exact this
  ·have := Blk.new ((w.alloc (.cells (partC xA xN xC xT xS) 142)).alloc (.cells zeroC 142)) 142 zeroC
   simp only [World.size_alloc] at this
   exact this
 case round =>
  obtain ⟨m, p, rfl, rfl, hp1, hp2, hk, m0, m1, hW, b3, b6, b7⟩ := hrel
  have HP1 := Lib.hid hp1
  have hl1 := Reads.below hl hW
  have c0 := b3.cell 0
  have c1 := b3.cell 1
  simp [Pc.cells, partC] at c0 c1
  clear hp1
  by_cases hgo : 0 < m /\ p < xN
  ·obtain ⟨hm, hlt⟩ := hgo
   have hz := sizeAt_bd enc (xB.drop p) (by rw [List.length_drop]; have := HXL.out; omega)
   rw [List.length_drop, HXL.out] at hz
   obtain ⟨z, hzz⟩ : ∃ z : Nat, sizeAt enc (xB.drop p) = (z : Int) := ⟨(sizeAt enc (xB.drop p)).toNat, by omega⟩
   have hsz : szs enc (xB.drop p) m.toNat = z + szs enc (xB.drop (p + z)) (m - 1).toNat := by
    rw [show m.toNat = (m - 1).toNat + 1 by omega, szs_succ enc _ _ (by rw [List.length_drop]; have := HXL.out; omega), hzz, List.drop_drop, Int.toNat_natCast]
   have hcn := cnext_any enc D xA xN xC p xB wr he hl1 xb (by omega) xc hlt
   obtain ⟨at_, hat⟩ : ∃ a, atomAt enc (xB.drop p) = a := ⟨_, rfl⟩
   rw [hzz, hat] at hcn
   rw [hzz] at hz
   have HC := Lib.hid hcn
   have HS := Lib.hid hsz
   have hmt : decide (0 < m) = true := by simpa using hm
   clear hcn hsz hzz hat
   go_wp2_with fail
   refine (HC.out).mono ?_
   rintro e w1 ⟨rfl, hb1⟩
   go_wp2_with fail
   go_roundg (xN - (p + z))
   case measure => omega
   case rel => exact ⟨m - 1, p + z, rfl, by go_num, by rw [<- HP1.out, HS.out]; omega, by omega, by omega, by omega, by omega, bseq hW hb1, b3.below hb1, b6.below hb1, b7.below hb1⟩
  ·have hP : (p : Int) = P := by
    rw [<- HP1.out]
    by_cases hm : 0 < m
    ·rw [List.drop_eq_nil_of_le (by have := HXL.out; omega), szs_nil]; omega
    ·rw [show m.toNat = 0 by omega, szs_zero]; omega
   obtain rfl : P = (p : Int) := hP.symm
   have hl1' := hl1
   clear HP HP1 hbd hP
   clear hl
   go_upto_region 2 with fail
   go_cut [20] (fun q wx => q = .bool false /\ wx = wr)
   case first =>
    by_cases hm : 0 < m
    ·have hmt : decide (0 < m) = true := by simpa using hm
     have hpn : xN <= p := by omega
     go_wp2_with fail
     go_meet
     exact ⟨by rw [show decide (p < xN) = false from by simpa using hpn], rfl⟩
    ·have hmt : decide (0 < m) = false := by simpa using hm
     go_wp2_with fail
     go_meet
     exact ⟨rfl, rfl⟩
   case rest =>
    obtain ⟨rfl, rfl⟩ := hcut
    go_upto_if 37 with fail
    go_cut [11] (fun q wx => q = .int .i64 tg /\ wx = wc)
    case first =>
     by_cases ht : 0 <= xT
     ·have := HTG.out
      rw [if_pos ht] at this
      subst this
      clear HTG
      go_wp2_with fail
      go_meet
      exact ⟨rfl, rfl⟩
     ·have := HTG.out
      rw [if_neg ht] at this
      subst this
      clear HTG
      go_wp2_with fail
      go_meet
      exact ⟨rfl, rfl⟩
    case rest =>
     obtain ⟨rfl, rfl⟩ := hcut
     obtain ⟨b, off, hA, _, _⟩ := Reads.form hl1 xp (by decide)
     have hadd : (⟨b, off, none⟩ : Addr).add p = ⟨b, off + p, none⟩ := by
      unfold Addr.add
      split
      ·rename_i h; rw [h]; rfl
      ·rfl
     have hn1 := fun (wy : World) (hy : Below wc.heap.size wc wy) => newPart_any enc D (some ⟨b, off, none⟩) p p xT (xB.take p) wy he (by
      have := Reads.below (Reads.take hl1 hp2) hy
      rw [Nat.mul_one, <- List.map_take, hA] at this
      exact this) (xb.take p) (by omega) (Nat.le_refl _)
     have hn2 := fun (wy : World) (hy : Below wc.heap.size wc wy) => newPart_any enc D (if xC = p then some ⟨b, off, none⟩ else some ⟨b, off + p, none⟩) (xN - p) (xC - p) tg (xB.drop p) wy he (by
      have := Reads.below (Reads.cut hl1 hp2 xc) hy
      rw [Nat.mul_one, <- List.map_drop, hA, Option.map_some, hadd] at this
      exact this) (xb.drop p) (by omega) (by omega)
     have hA2 : (if xC = p then xA else xA.map (·.add p)) = if xC = p then some ⟨b, off, none⟩ else some ⟨b, off + p, none⟩ := by
      rw [hA, Option.map_some, hadd]
     rw [hA] at c0
     obtain ⟨S1, hS1⟩ : ∃ S, sumsOf (dec enc (xB.take p)) = S := ⟨_, rfl⟩
     obtain ⟨S2, hS2⟩ : ∃ S, sumsOf (dec enc (xB.drop p)) = S := ⟨_, rfl⟩
     rw [hS1] at hn1
     rw [hS2] at hn2
     simp only [partC] at hn1 hn2
     have HA := Lib.hid hA
     have HA2 := Lib.hid hA2
     have HS1 := Lib.hid hS1
     have HS2 := Lib.hid hS2
     have HN1 := Lib.hid hn1
     have q0 : (0 : Int) <= (p : Int) := by omega
     have q1 : (p : Int) <= (xN : Int) := by omega
     have q2 : (p : Int) <= (xC : Int) := by omega
     have q3 : (xN : Int) <= (xC : Int) := by omega
     clear hA hA2 hn1 hgo hp2 xc hadd hl1 hl1' hS1 hS2
     by_cases hcp : xC = p
     ·have hnp : xN = p := by omega
      subst hcp
      subst hnp
      rw [if_pos rfl, Nat.sub_self] at hn2
      have HN2 := Lib.hid hn2
      clear hn2
      go_upto_region 9 with fail
      have s0 : wc.drew.cell? ⟨w.heap.size, 0, none⟩ = some (.slice (some ⟨b, off, none⟩) xN xN) /\ wc.drew.cell? ⟨w.heap.size, 1, none⟩ = some (.int .i64 xT) := ⟨c0, c1⟩
      go_region_held3 (fun w' => w'.cell? ⟨w.heap.size, 0, none⟩ = some (.slice (some ⟨b, off, none⟩) xN xN) /\ w'.cell? ⟨w.heap.size, 1, none⟩ = some (.int .i64 xT)) (first | ((repeat (with_reducible refine keep2set (by dsimp only; omega) (by dsimp only; omega) ?_)); with_reducible assumption)) (first | (go_at_call_of 147 (Value.slice (some ⟨b, off, none⟩) xN xN); refine (HN1.out _ (Below.drew (Below.refl _ _))).mono ?_; rintro e w1 ⟨rfl, hb1⟩; have s1 := keep2 (bdrew hb1) ⟨c0, c1⟩) | (go_at_call 147; refine (HN2.out _ (bdrew hb1)).mono ?_; rintro e w2 ⟨rfl, hb2⟩; have s2 := keep2 (bseq (bdrew hb1) hb2) ⟨c0, c1⟩; obtain ⟨⟨g0, g1, g2, g3, g4, g5, g6⟩, v0, v1, v2, v3, v4, v5, v6⟩ := part_facts (b6.below (bseq (bdrew hb1) hb2)); obtain ⟨⟨j0, j1, j2, j3, j4, j5, j6⟩, u0, u1, u2, u3, u4, u5, u6⟩ := part_facts (b7.below (bseq (bdrew hb1) hb2))))
      all_goals
       change Exit.then _ _ Exit.normal _ (setP (setP w2 (w.heap.size + 1) (some ⟨b, off, none⟩) xN xN xT S1) (w.heap.size + 1 + 1) (some ⟨b, off, none⟩) 0 0 tg S2)
       have B6 := setP_far (A := (some ⟨b, off, none⟩)) (n := 0) (c := 0) (tag := tg) (s := S2) (b := w.heap.size + 1 + 1) (setP_own (A := some ⟨b, off, none⟩) (n := xN) (c := xN) (tag := xT) (s := S1) (b6.below (bseq (bdrew hb1) hb2))) (by omega)
       have B7 := setP_own (A := (some ⟨b, off, none⟩)) (n := 0) (c := 0) (tag := tg) (s := S2) (setP_far (A := some ⟨b, off, none⟩) (n := xN) (c := xN) (tag := xT) (s := S1) (b := w.heap.size + 1) (b7.below (bseq (bdrew hb1) hb2)) (by omega))
       have BW := setP_below (A := (some ⟨b, off, none⟩)) (n := 0) (c := 0) (tag := tg) (s := S2) (b := w.heap.size + 1 + 1) (setP_below (A := some ⟨b, off, none⟩) (n := xN) (c := xN) (tag := xT) (s := S1) (b := w.heap.size + 1) (bseq hW (bseq (bdrew hb1) hb2)) (by omega)) (by omega)
       generalize setP (setP w2 (w.heap.size + 1) (some ⟨b, off, none⟩) xN xN xT S1) (w.heap.size + 1 + 1) (some ⟨b, off, none⟩) 0 0 tg S2 = W' at B6 B7 BW ⊢
       clear g0 g1 g2 g3 g4 g5 g6 v0 v1 v2 v3 v4 v5 v6 j0 j1 j2 j3 j4 j5 j6 u0 u1 u2 u3 u4 u5 u6 s0 s1 s2 c0 c1 b3 b6 b7 hb1 hb2 HN1 HN2 hW q0 q1 q2 q3
       obtain ⟨⟨g0, g1, g2, g3, g4, g5, g6⟩, _⟩ := part_facts B6
       obtain ⟨⟨j0, j1, j2, j3, j4, j5, j6⟩, _⟩ := part_facts B7
       go_wp2_with fail
       refine bodyPost_ret (v := .tuple #[.agg #[.slice (some ⟨b, off, none⟩) xN xN, .int .i64 xT, .int .i64 S1.atoms, .int .i64 S1.bytes, .int .i64 S1.breaks, .bool S1.lf, .bool S1.cr], .agg #[.slice (some ⟨b, off, none⟩) 0 0, .int .i64 tg, .int .i64 S2.atoms, .int .i64 S2.bytes, .int .i64 S2.breaks, .bool S2.lf, .bool S2.cr]]) (by simp [results, Tryz.results175, go_sem, g0, g1, g2, g3, g4, g5, g6, j0, j1, j2, j3, j4, j5, j6]) rfl ⟨?_, BW⟩
       rw [<- HV.out, Int.toNat_natCast, if_pos rfl, HA.out, HS1.out, HS2.out, Nat.sub_self]
       rfl
     ·rw [if_neg hcp] at hn2
      have HN2 := Lib.hid hn2
      have HCP := Lib.hid hcp
      clear hn2 hcp
      go_upto_region 9 with fail
      have s0 : wc.drew.cell? ⟨w.heap.size, 0, none⟩ = some (.slice (some ⟨b, off, none⟩) xN xC) /\ wc.drew.cell? ⟨w.heap.size, 1, none⟩ = some (.int .i64 xT) := ⟨c0, c1⟩
      go_region_held3 (fun w' => w'.cell? ⟨w.heap.size, 0, none⟩ = some (.slice (some ⟨b, off, none⟩) xN xC) /\ w'.cell? ⟨w.heap.size, 1, none⟩ = some (.int .i64 xT)) (first | ((repeat (with_reducible refine keep2set (by dsimp only; omega) (by dsimp only; omega) ?_)); with_reducible assumption)) (first | (go_at_call_of 147 (Value.slice (some ⟨b, off, none⟩) p p); refine (HN1.out _ (Below.drew (Below.refl _ _))).mono ?_; rintro e w1 ⟨rfl, hb1⟩; have s1 := keep2 (bdrew hb1) ⟨c0, c1⟩) | (go_at_call 147; refine (HN2.out _ (bdrew hb1)).mono ?_; rintro e w2 ⟨rfl, hb2⟩; have s2 := keep2 (bseq (bdrew hb1) hb2) ⟨c0, c1⟩; obtain ⟨⟨g0, g1, g2, g3, g4, g5, g6⟩, v0, v1, v2, v3, v4, v5, v6⟩ := part_facts (b6.below (bseq (bdrew hb1) hb2)); obtain ⟨⟨j0, j1, j2, j3, j4, j5, j6⟩, u0, u1, u2, u3, u4, u5, u6⟩ := part_facts (b7.below (bseq (bdrew hb1) hb2))))
      all_goals
       change Exit.then _ _ Exit.normal _ (setP (setP w2 (w.heap.size + 1) (some ⟨b, off, none⟩) p p xT S1) (w.heap.size + 1 + 1) (some ⟨b, off + p, none⟩) (xN - p) (xC - p) tg S2)
       have B6 := setP_far (A := (some ⟨b, off + p, none⟩)) (n := xN - p) (c := xC - p) (tag := tg) (s := S2) (b := w.heap.size + 1 + 1) (setP_own (A := some ⟨b, off, none⟩) (n := p) (c := p) (tag := xT) (s := S1) (b6.below (bseq (bdrew hb1) hb2))) (by omega)
       have B7 := setP_own (A := (some ⟨b, off + p, none⟩)) (n := xN - p) (c := xC - p) (tag := tg) (s := S2) (setP_far (A := some ⟨b, off, none⟩) (n := p) (c := p) (tag := xT) (s := S1) (b := w.heap.size + 1) (b7.below (bseq (bdrew hb1) hb2)) (by omega))
       have BW := setP_below (A := (some ⟨b, off + p, none⟩)) (n := xN - p) (c := xC - p) (tag := tg) (s := S2) (b := w.heap.size + 1 + 1) (setP_below (A := some ⟨b, off, none⟩) (n := p) (c := p) (tag := xT) (s := S1) (b := w.heap.size + 1) (bseq hW (bseq (bdrew hb1) hb2)) (by omega)) (by omega)
       generalize setP (setP w2 (w.heap.size + 1) (some ⟨b, off, none⟩) p p xT S1) (w.heap.size + 1 + 1) (some ⟨b, off + p, none⟩) (xN - p) (xC - p) tg S2 = W' at B6 B7 BW ⊢
       clear g0 g1 g2 g3 g4 g5 g6 v0 v1 v2 v3 v4 v5 v6 j0 j1 j2 j3 j4 j5 j6 u0 u1 u2 u3 u4 u5 u6 s0 s1 s2 c0 c1 b3 b6 b7 hb1 hb2 HN1 HN2 hW q0 q1 q2 q3
       obtain ⟨⟨g0, g1, g2, g3, g4, g5, g6⟩, _⟩ := part_facts B6
       obtain ⟨⟨j0, j1, j2, j3, j4, j5, j6⟩, _⟩ := part_facts B7
       go_wp2_with fail
       refine bodyPost_ret (v := .tuple #[.agg #[.slice (some ⟨b, off, none⟩) p p, .int .i64 xT, .int .i64 S1.atoms, .int .i64 S1.bytes, .int .i64 S1.breaks, .bool S1.lf, .bool S1.cr], .agg #[.slice (some ⟨b, off + p, none⟩) (xN - p) (xC - p), .int .i64 tg, .int .i64 S2.atoms, .int .i64 S2.bytes, .int .i64 S2.breaks, .bool S2.lf, .bool S2.cr]]) (by simp [results, Tryz.results175, go_sem, g0, g1, g2, g3, g4, g5, g6, j0, j1, j2, j3, j4, j5, j6]) rfl ⟨?_, BW⟩
       rw [<- HV.out, Int.toNat_natCast, HA2.out, if_neg HCP.out, HA.out, HS1.out, HS2.out]
       rfl
theorem cut_any (enc : Int) (D : Nat -> Prop) (x : Pc) (n : Int) (w : World) (he : enc = 1 \/ enc = 2 \/ enc = 3 \/ enc = 4) (hx : PcOk enc x) (hl : Bts w D x.A x.n x.bytes) (n0 : -2147483648 <= n) (n1 : n <= 2147483648) :
  Calls Tryz.prog 175 #[.agg x.cells, .int .i64 enc, .int .i64 n] w fun e w' => e = .returned (CutV enc x n) /\ Below w.heap.size w w' := cut_any0 _ enc D x n w rfl he hx hl n0 n1
theorem szs_step (enc : Int) (n : Nat) : ∀ l : List Int, szs enc l n < l.length -> szs enc l (n + 1) = szs enc l n + sizeAt enc (l.drop (szs enc l n).toNat) := by
 induction n with
 | zero =>
  intro l h
  rw [szs_zero] at h ⊢
  rw [szs_succ enc l 0 (by omega), szs_zero]
  simp
 | succ n ih =>
  intro l h
  have h0 : 0 < l.length := by have := szs_bd enc (n + 1) l; omega
  have hz := sizeAt_bd enc l h0
  rw [szs_succ enc l n h0] at h ⊢
  rw [szs_succ enc l (n + 1) h0]
  have hb := szs_bd enc n (l.drop (sizeAt enc l).toNat)
  have hl : ((l.drop (sizeAt enc l).toNat).length : Int) = l.length - sizeAt enc l := by rw [List.length_drop]; omega
  rw [ih _ (by omega), List.drop_drop, show (sizeAt enc l + szs enc (l.drop (sizeAt enc l).toNat) n).toNat = (sizeAt enc l).toNat + (szs enc (l.drop (sizeAt enc l).toNat) n).toNat by omega]
  omega
theorem dec_split (enc : Int) (n : Nat) (l : List Int) : dec enc (l.take (szs enc l n).toNat) ++ dec enc (l.drop (szs enc l n).toNat) = dec enc l := by
 rw [dec_take, dec_drop, List.take_append_drop]
theorem sum_dec (enc : Int) : ∀ (k : Nat) (l : List Int), l.length <= k -> ((dec enc l).map Prod.snd).sum = (l.length : Int) := by
 intro k
 induction k with
 | zero =>
  intro l h
  have e : l = [] := List.eq_nil_of_length_eq_zero (by omega)
  rw [e]; rfl
 | succ k ih =>
  intro l h
  by_cases h0 : 0 < l.length
  ·have hz := sizeAt_bd enc l h0
   rw [dec_cons enc l h0, List.map_cons, List.sum_cons, ih _ (by rw [List.length_drop]; omega), List.length_drop]
   omega
  ·have e : l = [] := List.eq_nil_of_length_eq_zero (by omega)
   rw [e]; rfl
theorem sumsOf_bytes (enc : Int) (l : List Int) : (sumsOf (dec enc l)).bytes = (l.length : Int) := by
 rw [(sumsOf_good' (dec_pos enc l)).2.2, sum_dec enc l.length l (Nat.le_refl _)]
def PcIn (g : Nat) (l : List Int) (p : Pc) : Prop := ∃ off, p.A = some ⟨g, off, none⟩ /\ p.bytes = (l.drop off).take p.n /\ off + p.n <= l.length
theorem PcIn.bts {g : Nat} {l : List Int} {p : Pc} {w : World} {T : TypeId} (h : PcIn g l p) (hb : Blk w g T (l.map (Value.int .u8)).toArray) : Bts w (· = g) p.A p.n p.bytes := by
 obtain ⟨off, hA, hB, hl⟩ := h
 refine ⟨by rw [hB]; simp; omega, fun _ => ⟨_, hA, rfl, fun j u hu => ?_⟩⟩
 have e : (⟨g, off, none⟩ : Addr).add j = ⟨g, off + j, none⟩ := by
  by_cases hj : j = 0
  ·subst hj; rw [add_zero]; rfl
  ·rw [add_pos _ _ (by omega)]
 rw [e, hb.cell]
 rw [hB, List.getElem?_map, List.getElem?_take] at hu
 rw [List.getElem?_toArray, List.getElem?_map]
 split at hu
 ·rw [List.getElem?_drop] at hu
  exact hu
 ·simp at hu
theorem tagF_app (tag : Int) (a b : List (Int × Int)) : ∀ off, tagF tag off (a ++ b) = tagF tag off a ++ tagF tag (off + (a.map Prod.snd).sum) b := by
 induction a with
 | nil => intro off; simp [tagF]
 | cons d a ih =>
  intro off
  simp only [List.cons_append, tagF, List.map_cons, List.sum_cons]
  rw [ih, Int.add_assoc]
theorem tagF_shift {p : Int} (ds : List (Int × Int)) (hp : 0 <= p) : ∀ off, tagF p off ds = tagF 0 (p + off) ds := by
 induction ds with
 | nil => intro off; rfl
 | cons d ds ih =>
  intro off
  simp only [tagF]
  rw [ih, if_neg (by omega), if_neg (by omega), Int.zero_add, Int.add_assoc]
structure OpenOk (enc : Int) (l : List Int) (g : Nat) (p : Nat) (ps : List Pc) : Prop where
 le : p <= l.length
 ok : ∀ x ∈ ps, PcOk enc x
 in_ : ∀ x ∈ ps, PcIn g l x
 tot : totB ps = p
 len : ps.length <= p
 all : decL enc ps ++ dec enc (l.drop p) = dec enc l
 tg : atsL enc ps = tagF 0 0 (decL enc ps)
 tgn : ∀ x ∈ ps, x.tag + x.n <= l.length
theorem OpenOk.start (enc : Int) (l : List Int) (g : Nat) : OpenOk enc l g 0 [] :=
 ⟨Nat.zero_le _, fun x h => absurd h (by simp), fun x h => absurd h (by simp), rfl, Nat.le_refl _, by simp [decL], rfl, fun x h => absurd h (by simp)⟩
def pcOf (enc : Int) (l : List Int) (g p m : Nat) : Pc := ⟨some ⟨g, p, none⟩, m, m, (p : Int), sumsOf (dec enc ((l.drop p).take m)), (l.drop p).take m⟩
theorem OpenOk.step {enc : Int} {l : List Int} {g p m k : Nat} {ps : List Pc} (h : OpenOk enc l g p ps) (hB : Byt l) (hm : (m : Int) = szs enc (l.drop p) k) (h0 : 0 < m) (hl : p + m <= l.length) (hn : l.length <= 1073741824) :
  OpenOk enc l g (p + m) (ps ++ [pcOf enc l g p m]) := by
 have hlen : ((l.drop p).take m).length = m := by simp; omega
 refine ⟨hl, ?_, ?_, ?_, ?_, ?_, ?_, ?_⟩
 ·intro x hx
  rcases List.mem_append.1 hx with hx | hx
  ·exact h.ok x hx
  ·rw [List.mem_singleton] at hx
   subst hx
   exact ⟨(hB.drop _).take _, hlen, h0, show m <= _ by omega, Nat.le_refl _, show (-1 : Int) <= (p : Int) by omega, show (p : Int) <= _ by omega, rfl⟩
 ·intro x hx
  rcases List.mem_append.1 hx with hx | hx
  ·exact h.in_ x hx
  ·rw [List.mem_singleton] at hx
   subst hx
   exact ⟨p, rfl, rfl, hl⟩
 ·rw [totB_app, h.tot, totB_cons]
  simp only [pcOf, sumsOf_bytes, hlen, totB, List.map_nil, List.sum_nil]
  omega
 ·have := h.len
  simp
  omega
 ·have e := dec_split enc k (l.drop p)
  rw [<- hm, List.drop_drop] at e
  simp only [Int.toNat_natCast] at e
  rw [<- h.all, <- e, decL_app, decL_cons, show decL enc [] = [] from rfl, List.append_nil, List.append_assoc]
  rfl
 ·have e1 : ((decL enc ps).map Prod.snd).sum = (p : Int) := by
   have h1 := (sumsOf_good' (decL_pos enc ps)).2.2
   rw [<- sumL_dec h.ok, (sumL_good (allGood_of h.ok)).2, h.tot] at h1
   exact h1.symm
  rw [atsL_app, atsL_one, decL_app, decL_cons, show decL enc [] = [] from rfl, List.append_nil, tagF_app, h.tg, e1, Int.zero_add]
  show _ ++ tagF (p : Int) 0 _ = _
  rw [tagF_shift (p := (p : Int)) _ (by omega), Int.add_zero]
 ·intro x hx
  rcases List.mem_append.1 hx with hx | hx
  ·exact h.tgn x hx
  ·rw [List.mem_singleton] at hx
   subst hx
   show (p : Int) + (m : Int) <= _
   omega
def U8s (w : World) (ps : List Pc) : Prop := ∀ p ∈ ps, ∀ ad, p.A = some ad -> ∃ cs, Blk w ad.block 5 cs
theorem U8s.below {w w' : World} {ps : List Pc} (h : U8s w ps) (hb : Below w.heap.size w w') : U8s w' ps := fun p hp ad e => by
 obtain ⟨cs, hc⟩ := h p hp ad e
 exact ⟨cs, hc.below hb⟩
def TextL (w : World) (D : Nat -> Prop) (g : Nat) (enc lim : Int) (ds ats : List (Int × Int)) : Prop := ∃ t a add, TextIn w D g enc lim t a add /\ U8s w t.list /\ decL enc t.list = ds /\ atsL enc t.list = ats /\ add = .slice none 0 0 /\ ∀ p ∈ t.list, p.tag + p.n <= 1073741824
theorem TextL.at_ {w : World} {D : Nat -> Prop} {g : Nat} {enc lim : Int} {ds ats : List (Int × Int)} (h : TextL w D g enc lim ds ats) : TextAt w D g enc ds := by
 obtain ⟨t, a, add, h, _, e, _⟩ := h
 exact ⟨lim, t, a, add, h, e⟩
theorem TextL.below {w w' : World} {D : Nat -> Prop} {g : Nat} {enc lim : Int} {ds ats : List (Int × Int)} (h : TextL w D g enc lim ds ats) (hb : Below w.heap.size w w') : TextL w' D g enc lim ds ats := by
 obtain ⟨t, a, add, h, hu, e⟩ := h
 exact ⟨t, a, add, h.below hb, hu.below hb, e⟩
theorem OpenOk.good {enc : Int} {l : List Int} {g p : Nat} {ps : List Pc} (h : OpenOk enc l g p ps) : AllGood ps := allGood_of h.ok
theorem OpenOk.text {enc lim : Int} {l : List Int} {g g2 : Nat} {ps : List Pc} {w : World} {D : Nat -> Prop} {a : Option Addr} (h : OpenOk enc l g l.length ps) (hl : l.length <= 1073741824)
  (he : enc = 1 \/ enc = 2 \/ enc = 3 \/ enc = 4) (hb : Blk w g 5 (l.map (Value.int .u8)).toArray) (hD : D g) (ht : Blk w g2 139 #[.int .i64 enc, .int .i64 lim, .pointer a, .slice none 0 0]) (hn : NodeAt w (btF ps.length ps) a) :
  TextL w D g2 enc lim (dec enc l) (tagF 0 0 (dec enc l)) := by
 have e := btF_list ps.length ps (Nat.le_refl _)
 have hall := h.all
 rw [List.drop_length, dec_nil, List.append_nil] at hall
 refine ⟨btF ps.length ps, a, .slice none 0 0, ⟨ht, he, hn, ?_, ?_, ?_, ?_⟩, ?_, ?_, ?_, rfl, ?_⟩
 ·rw [e]; have := h.len; omega
 ·rw [e, h.tot]; omega
 ·rw [e]; exact h.ok
 ·rw [e]
  intro p hp
  exact Reads.more ((h.in_ p hp).bts hb) (fun b hb _ => hb ▸ hD) (by decide)
 ·rw [e]
  intro p hp ad e
  obtain ⟨off, hA, _⟩ := h.in_ p hp
  rw [hA] at e
  injection e with e
  subst e
  exact ⟨_, hb⟩
 ·rw [e]
  exact hall
 ·rw [e, h.tg, hall]
 ·rw [e]
  intro p hp
  have := h.tgn p hp
  omega
theorem cells_new (w : World) (t : TypeId) (cs : Array Value) : ∀ j u, cs.toList[j]? = some u -> (w.alloc (.cells cs t)).cell? ((⟨w.heap.size, 0, none⟩ : Addr).add j) = some u := by
 intro j u hu
 have e : (⟨w.heap.size, 0, none⟩ : Addr).add j = ⟨w.heap.size, j, none⟩ := by
  by_cases hj : j = 0
  ·subst hj; rw [add_zero]
  ·rw [add_pos _ _ (by omega)]; simp
 rw [e, (Blk.new w t cs).cell]
 simpa using hu
theorem even_out {l r : Tr} {al ar : Option Addr} {x : Pc} {W w : World} (hb : Below W.heap.size W w) (hl : NodeAt w l al) (hr : NodeAt w r ar) (h : LstOk (l.list ++ x :: r.list)) :
  Calls Tryz.prog 213 #[.pointer al, .agg x.cells, .pointer ar] w fun e w' => ∃ v, e = .returned v /\ TrOut (l.list ++ x :: r.list) W v w' := by
 refine (even_any l r al ar x w hl hr h).mono ?_
 rintro e w' ⟨t, a, rfl, h1, h2, h3⟩
 exact ⟨_, rfl, t, a, rfl, h1, h2, bseq hb h3⟩
theorem join_any : ∀ (n : Nat) (l r : Tr) (al ar : Option Addr) (x : Pc) (w : World), l.list.length + r.list.length <= n -> NodeAt w l al -> NodeAt w r ar -> LstOk (l.list ++ x :: r.list) ->
  Calls Tryz.prog 208 #[.pointer al, .agg x.cells, .pointer ar] w fun e w' => TrPost (l.list ++ x :: r.list) w e w' := by
 intro n
 induction n with
 | zero =>
  intro l r al ar x w hn hl hr h
  have e1 : l = .nil := by cases l with | nil => rfl | node a b c => simp [Tr.list] at hn
  have e2 : r = .nil := by cases r with | nil => rfl | node a b c => simp [Tr.list] at hn
  subst e1
  subst e2
  cases hl
  cases hr
  have hW : Below w.heap.size w (w.alloc (.cells x.cells 142)) := balloc (Below.refl _ w)
  have hbx := BoxC.of (Blk.new w 142 x.cells) (Below.refl _ _)
  have kl := fun (w' : World) => tall_any .nil none w' rfl
  have hc := fun (w' : World) => of_list .nil .nil none none x w' rfl rfl h
  obtain ⟨x0, x1, x2, x3, x4, x5, x6⟩ := hbx
  have KL := Lib.hid kl
  have HC := Lib.hid hc
  clear kl hc hn h
  simp only [Pc.cells, partC, Tr.tall] at *
  go_enter Tryz.func208, Tryz.ntmps208
  go_wp2_with fail
  iterate 4
   refine (KL.out _).mono ?_
   rintro e w1 ⟨rfl, rfl⟩
   go_wp2_with fail
  refine (HC.out _).mono ?_
  rintro e w3 ⟨t, a, rfl, hn, hl, hb⟩
  go_wp2_with fail
  go_ret
  exact ⟨t, a, rfl, hn, hl, bseq hW hb⟩
 | succ n ih =>
  intro l r al ar x w hn hl hr h
  have hbox := Blk.new w 142 x.cells
  have hW : Below w.heap.size w (w.alloc (.cells x.cells 142)) := balloc (Below.refl _ w)
  have hlW := NodeAt.below hW l al hl
  have hrW := NodeAt.below hW r ar hr
  have sl := Tr.small_of h.left.len
  have sr := Tr.small_of h.right.tail.len
  obtain ⟨W, hWe⟩ : ∃ W, w.alloc (.cells x.cells 142) = W := ⟨_, rfl⟩
  rw [hWe] at hbox hW hlW hrW
  simp only [Pc.cells, partC] at hWe
  have fx := fun (w' : World) (hb : Below W.heap.size W w') => BoxC.of hbox hb
  have HWE := Lib.hid hWe
  have FX := Lib.hid fx
  have IH := Lib.hid ih
  clear hWe hl hr fx hbox ih
  obtain ⟨tl, htl⟩ : ∃ n, l.tall = n := ⟨_, rfl⟩
  obtain ⟨tr, htr⟩ : ∃ n, r.tall = n := ⟨_, rfl⟩
  have kl := tall_any l al W hlW
  have kr := tall_any r ar W hrW
  rw [htl] at kl
  rw [htr] at kr
  obtain ⟨_, _, l3, l4⟩ := sl
  obtain ⟨_, _, r3, r4⟩ := sr
  rw [htl] at l3 l4
  rw [htr] at r3 r4
  have KL := Lib.hid kl
  have KR := Lib.hid kr
  clear kl kr
  by_cases h1 : tr + 1 < tl
  ·cases l with
   | nil => exfalso; simp only [Tr.tall] at htl; omega
   | node ll lx lr =>
    obtain ⟨b, al', ar', rfl, hblk, hnl, hnr⟩ := hlW
    have fn := fun (w' : World) (hb : Below W.heap.size W w') => NodeC.of hblk hb
    have FN := Lib.hid fn
    have HL := Lib.hid hnl
    have HR := Lib.hid hnr
    have HRR := Lib.hid hrW
    have hlist : (Tr.node ll lx lr).list ++ x :: r.list = ll.list ++ lx :: (lr.list ++ x :: r.list) := by simp [Tr.list]
    have hlen : (Tr.node ll lx lr).list.length = ll.list.length + lr.list.length + 1 := by simp only [Tr.list, List.length_append, List.length_cons]; omega
    have hLK : LstOk (ll.list ++ lx :: (lr.list ++ x :: r.list)) := by rw [<- hlist]; exact h
    have hin := fun (w' : World) (hb : Below W.heap.size W w') => IH.out lr r ar' ar x w' (by omega) (NodeAt.below hb _ _ hnr) (NodeAt.below hb _ _ hrW) hLK.right.tail
    have HLIST := Lib.hid hlist
    have HLK := Lib.hid hLK
    have HIN := Lib.hid hin
    clear hlist hLK hin hrW h fn htl htr hblk hlen hn hnl hnr IH
    have g1 : (tr + 1 < tl) = True := by simp; omega
    simp only [Pc.cells, partC]
    go_enter Tryz.func208, Tryz.ntmps208
    go_wp2_with fail
    rw [HWE.out]
    refine (KL.out).mono ?_
    rintro e w1 ⟨rfl, rfl⟩
    go_wp2_with fail
    refine (KR.out).mono ?_
    rintro e w1 ⟨rfl, rfl⟩
    go_wp2_with fail
    refine wp_region_lin (fun w' => Below W.heap.size W w') (fun w' => Below W.heap.size W w') (fun k => k == 14 || k == 15) (fun _ => false) (fun _ => false) (by kernel_rfl) (by kernel_rfl) (Below.drew (Below.refl _ _)) (fun _ h => h) ?_
    repeat ((first
     | (refine wpL_read (v := ?_) (by rfl) (by rfl) (fun w6 hSw => ?_) ?_; rotate_left; (· (obtain ⟨n0, n1, n2, n3, n4, n5, n6, n7, n8⟩ := FN.out _ hSw; obtain ⟨x0, x1, x2, x3, x4, x5, x6⟩ := FX.out _ hSw; go_simp; try with_reducible rfl)))
     | (refine wpL_free (v := ?_) (by rfl) (fun w6 => ?_) ?_; rotate_left; (· (go_simp; try with_reducible rfl)))
     | refine wpL_not (by rfl) ?_); (try simp only [Act.put, pA, pB, pC]))
    refine wpL_call (f := ?_) (args := ?_) (TrOut (lr.list ++ x :: r.list) W) (by rfl) (by rfl) (fun w6 hSw => ?_) (fun w6 hSw => ?_) (.inr (fun v6 w6 hT6 => ?_)) (fun v6 hv6 => ?_)
    rotate_left 2
    ·(skip; go_simp; first | done | (constructor <;> with_reducible rfl) | with_reducible rfl)
    ·(refine (HIN.out _ hSw).mono ?_; rintro e w5 ⟨t5, a5, rfl, h51, h52, h53⟩; exact ⟨_, rfl, t5, a5, rfl, h51, h52, bseq hSw h53⟩)
    ·(exact hT6.bel)
    obtain ⟨w7, t7, a7, rfl, hc7⟩ := hv6; clear hc7
    (try simp only [Act.put, pA, pB, pC])
    repeat ((first
     | (refine wpL_read (v := ?_) (by rfl) (by rfl) (fun w6 hSw => ?_) ?_; rotate_left; (· (obtain ⟨n0, n1, n2, n3, n4, n5, n6, n7, n8⟩ := FN.out _ hSw; go_simp; try with_reducible rfl)))
     | (refine wpL_free (v := ?_) (by rfl) (fun w6 => ?_) ?_; rotate_left; (· (go_simp; try with_reducible rfl)))
     | refine wpL_not (by rfl) ?_); (try simp only [Act.put, pA, pB, pC]))
    refine wpL_call (f := ?_) (args := ?_) (TrOut (ll.list ++ lx :: (lr.list ++ x :: r.list)) W) (by rfl) (by rfl) (fun w6 hSw => ?_) (fun w6 hSw => ?_) (.inr (fun v6 w6 hT6 => ?_)) (fun v6 hv6 => ?_)
    rotate_left 2
    ·(skip; go_simp; first | done | (constructor <;> with_reducible rfl) | with_reducible rfl)
    ·(obtain ⟨t8, hn8, hl8, hb8⟩ := hSw.out; (have := even_out hb8 (NodeAt.below hb8 _ _ HL.out) hn8 (x := lx) (by rw [hl8]; exact HLK.out)); rw [hl8] at this; exact this)
    ·(exact hT6.bel)
    obtain ⟨w8, t8, a8, rfl, hc8⟩ := hv6; clear hc8
    (try simp only [Act.put, pA, pB, pC])
    repeat ((first
     | (refine wpL_read (v := ?_) (by rfl) (by rfl) (fun w6 hSw => ?_) ?_; rotate_left; (· (skip; go_simp; try with_reducible rfl)))
     | (refine wpL_free (v := ?_) (by rfl) (fun w6 => ?_) ?_; rotate_left; (· (go_simp; try with_reducible rfl)))
     | refine wpL_not (by rfl) ?_); (try simp only [Act.put, pA, pB, pC]))
    refine wpL_nil ?_
    intro w3 hw3
    obtain ⟨t9, hn9, hl9, hb9⟩ := hw3.out
    go_wp2_with fail
    go_ret
    rw [HLIST.out]
    exact ⟨t9, _, rfl, hn9, hl9, bseq hW hb9⟩
  ·by_cases h2 : tl + 1 < tr
   ·cases r with
    | nil => exfalso; simp only [Tr.tall] at htr; omega
    | node ll lx lr =>
     obtain ⟨b, al', ar', rfl, hblk, hnl, hnr⟩ := hrW
     have fn := fun (w' : World) (hb : Below W.heap.size W w') => NodeC.of hblk hb
     have FN := Lib.hid fn
     have HL := Lib.hid hnl
     have HR := Lib.hid hnr
     have HRR := Lib.hid hlW
     have hlist : l.list ++ x :: (Tr.node ll lx lr).list = (l.list ++ x :: ll.list) ++ lx :: lr.list := by simp [Tr.list]
     have hlen : (Tr.node ll lx lr).list.length = ll.list.length + lr.list.length + 1 := by simp only [Tr.list, List.length_append, List.length_cons]; omega
     have hLK : LstOk ((l.list ++ x :: ll.list) ++ lx :: lr.list) := by rw [<- hlist]; exact h
     have hin := fun (w' : World) (hb : Below W.heap.size W w') => IH.out l ll al al' x w' (by omega) (NodeAt.below hb _ _ hlW) (NodeAt.below hb _ _ hnl) hLK.left
     have HLIST := Lib.hid hlist
     have HLK := Lib.hid hLK
     have HIN := Lib.hid hin
     clear hlist hLK hin hlW h fn htl htr hblk hlen hn hnl hnr IH
     have g1 : (tr + 1 < tl) = False := by simp; omega
     have g3 : (tl + 1 < tr) = True := by simp; omega
     simp only [Pc.cells, partC]
     go_enter Tryz.func208, Tryz.ntmps208
     go_wp2_with fail
     rw [HWE.out]
     refine (KL.out).mono ?_
     rintro e w1 ⟨rfl, rfl⟩
     go_wp2_with fail
     refine (KR.out).mono ?_
     rintro e w1 ⟨rfl, rfl⟩
     go_wp2_with fail
     refine (KR.out).mono ?_
     rintro e w1 ⟨rfl, rfl⟩
     go_wp2_with fail
     refine (KL.out).mono ?_
     rintro e w1 ⟨rfl, rfl⟩
     go_wp2_with fail
     refine wp_region_lin (fun w' => Below W.heap.size W w') (fun w' => Below W.heap.size W w') (fun k => k == 6 || k == 15) (fun _ => false) (fun _ => false) (by kernel_rfl) (by kernel_rfl) (Below.drew (Below.refl _ _)) (fun _ h => h) ?_
     repeat ((first
      | (refine wpL_read (v := ?_) (by rfl) (by rfl) (fun w6 hSw => ?_) ?_; rotate_left; (· (obtain ⟨n0, n1, n2, n3, n4, n5, n6, n7, n8⟩ := FN.out _ hSw; obtain ⟨x0, x1, x2, x3, x4, x5, x6⟩ := FX.out _ hSw; go_simp; try with_reducible rfl)))
      | (refine wpL_free (v := ?_) (by rfl) (fun w6 => ?_) ?_; rotate_left; (· (go_simp; try with_reducible rfl)))
      | refine wpL_not (by rfl) ?_); (try simp only [Act.put, pA, pB, pC]))
     refine wpL_call (f := ?_) (args := ?_) (TrOut (l.list ++ x :: ll.list) W) (by rfl) (by rfl) (fun w6 hSw => ?_) (fun w6 hSw => ?_) (.inr (fun v6 w6 hT6 => ?_)) (fun v6 hv6 => ?_)
     rotate_left 2
     ·(skip; go_simp; first | done | (constructor <;> with_reducible rfl) | with_reducible rfl)
     ·(refine (HIN.out _ hSw).mono ?_; rintro e w5 ⟨t5, a5, rfl, h51, h52, h53⟩; exact ⟨_, rfl, t5, a5, rfl, h51, h52, bseq hSw h53⟩)
     ·(exact hT6.bel)
     obtain ⟨w7, t7, a7, rfl, hc7⟩ := hv6; clear hc7
     (try simp only [Act.put, pA, pB, pC])
     repeat ((first
      | (refine wpL_read (v := ?_) (by rfl) (by rfl) (fun w6 hSw => ?_) ?_; rotate_left; (· (obtain ⟨n0, n1, n2, n3, n4, n5, n6, n7, n8⟩ := FN.out _ hSw; go_simp; try with_reducible rfl)))
      | (refine wpL_free (v := ?_) (by rfl) (fun w6 => ?_) ?_; rotate_left; (· (go_simp; try with_reducible rfl)))
      | refine wpL_not (by rfl) ?_); (try simp only [Act.put, pA, pB, pC]))
     refine wpL_call (f := ?_) (args := ?_) (TrOut ((l.list ++ x :: ll.list) ++ lx :: lr.list) W) (by rfl) (by rfl) (fun w6 hSw => ?_) (fun w6 hSw => ?_) (.inr (fun v6 w6 hT6 => ?_)) (fun v6 hv6 => ?_)
     rotate_left 2
     ·(skip; go_simp; first | done | (constructor <;> with_reducible rfl) | with_reducible rfl)
     ·(obtain ⟨t8, hn8, hl8, hb8⟩ := hSw.out; (have := even_out hb8 hn8 (NodeAt.below hb8 _ _ HR.out) (x := lx) (by rw [hl8]; exact HLK.out)); rw [hl8] at this; exact this)
     ·(exact hT6.bel)
     obtain ⟨w8, t8, a8, rfl, hc8⟩ := hv6; clear hc8
     (try simp only [Act.put, pA, pB, pC])
     repeat ((first
      | (refine wpL_read (v := ?_) (by rfl) (by rfl) (fun w6 hSw => ?_) ?_; rotate_left; (· (skip; go_simp; try with_reducible rfl)))
      | (refine wpL_free (v := ?_) (by rfl) (fun w6 => ?_) ?_; rotate_left; (· (go_simp; try with_reducible rfl)))
      | refine wpL_not (by rfl) ?_); (try simp only [Act.put, pA, pB, pC]))
     refine wpL_nil ?_
     intro w3 hw3
     obtain ⟨t9, hn9, hl9, hb9⟩ := hw3.out
     go_wp2_with fail
     go_ret
     rw [HLIST.out]
     exact ⟨t9, _, rfl, hn9, hl9, bseq hW hb9⟩
   ·have g1 : (tr + 1 < tl) = False := by simp; omega
    have g2 : (tl + 1 < tr) = False := by simp; omega
    have hc := fun (w' : World) (hb : Below W.heap.size W w') => of_list l r al ar x w' (NodeAt.below hb _ _ hlW) (NodeAt.below hb _ _ hrW) h
    have HC := Lib.hid hc
    obtain ⟨x0, x1, x2, x3, x4, x5, x6⟩ := FX.out _ (Below.refl _ _)
    clear h1 h2 hc hlW hrW h htl htr hn IH
    simp only [Pc.cells, partC] at *
    go_enter Tryz.func208, Tryz.ntmps208
    go_wp2_with fail
    rw [HWE.out]
    refine (KL.out).mono ?_
    rintro e w1 ⟨rfl, rfl⟩
    go_wp2_with fail
    refine (KR.out).mono ?_
    rintro e w1 ⟨rfl, rfl⟩
    go_wp2_with fail
    refine (KR.out).mono ?_
    rintro e w1 ⟨rfl, rfl⟩
    go_wp2_with fail
    refine (KL.out).mono ?_
    rintro e w1 ⟨rfl, rfl⟩
    go_wp2_with fail
    refine (HC.out _ (Below.refl _ _)).mono ?_
    rintro e w3 ⟨t, a, rfl, hn, hl, hb⟩
    go_wp2_with fail
    go_ret
    exact ⟨t, a, rfl, hn, hl, bseq hW hb⟩
theorem join_outB {la : List Pc} {a : Option Addr} {l r : Tr} {al ar : Option Addr} {x : Pc} {W w : World} (hb : Below W.heap.size W w) (ha : ∃ t, NodeAt w t a /\ t.list = la) (hl : NodeAt w l al) (hr : NodeAt w r ar) (h : LstOk (l.list ++ x :: r.list)) :
  Calls Tryz.prog 208 #[.pointer al, .agg x.cells, .pointer ar] w fun e w' => ∃ v, e = .returned v /\ TrOut2 la (l.list ++ x :: r.list) a W v w' := by
 obtain ⟨t0, hn0, hl0⟩ := ha
 refine (join_any _ l r al ar x w (Nat.le_refl _) hl hr h).mono ?_
 rintro e w' ⟨t, a, rfl, h1, h2, h3⟩
 exact ⟨_, rfl, ⟨t0, NodeAt.below h3 _ _ hn0, hl0⟩, t, a, rfl, h1, h2, bseq hb h3⟩
def TCutPost (ls : List Pc) (i : Nat) (w : World) (e : Ending) (w' : World) : Prop :=
 ∃ t1 a1 t2 a2, e = .returned (.tuple #[.pointer a1, .pointer a2]) /\ NodeAt w' t1 a1 /\ NodeAt w' t2 a2 /\ t1.list = ls.take i /\ t2.list = ls.drop i /\ Below w.heap.size w w'
theorem take_mid {α : Type} (a : List α) (x : α) (b : List α) (k m : Nat) (h : a.length = k) : (a ++ x :: b).take (k + (m + 1)) = a ++ x :: b.take m := by
 subst h
 rw [List.take_append, List.take_of_length_le (by omega), Nat.add_sub_cancel_left, List.take_succ_cons]
theorem drop_mid {α : Type} (a : List α) (x : α) (b : List α) (k m : Nat) (h : a.length = k) : (a ++ x :: b).drop (k + (m + 1)) = b.drop m := by
 subst h
 rw [List.drop_append, List.drop_eq_nil_of_le (by omega), Nat.add_sub_cancel_left, List.drop_succ_cons, List.nil_append]
theorem tcut_any : ∀ (t : Tr) (a : Option Addr) (i : Int) (w : World), NodeAt w t a -> LstOk t.list -> -1073741826 <= i -> i <= 1073741826 ->
  Calls Tryz.prog 196 #[.pointer a, .int .i64 i] w fun e w' => TCutPost t.list i.toNat w e w' := by
 intro t
 induction t with
 | nil =>
  intro a i w h _ _ _
  cases h
  go_enter Tryz.func196, Tryz.ntmps196
  go_wp2_with fail
  go_ret2
  exact ⟨.nil, none, .nil, none, rfl, rfl, rfl, by simp [Tr.list], by simp [Tr.list], Below.refl _ _⟩
 | node l x r ihl ihr =>
  intro a i w hnode h i0 i1
  obtain ⟨b, al, ar, rfl, hblk, hnl, hnr⟩ := hnode
  have hsz := Tr.size_list l
  have hl2 := h.left.len
  have fn := fun (w' : World) (hb : Below w.heap.size w w') => NodeC.of hblk hb
  have hcnt := count_any l al w hnl
  have hlist : (Tr.node l x r).list = l.list ++ x :: r.list := rfl
  rw [hsz] at hcnt
  rw [hlist] at h ⊢
  obtain ⟨k, hk⟩ : ∃ k, l.list.length = k := ⟨_, rfl⟩
  rw [hk] at hcnt hl2
  obtain ⟨n0, n1, n2, n3, n4, n5, n6, n7, n8⟩ := fn w (Below.refl _ _)
  have FN := Lib.hid fn
  have HC := Lib.hid hcnt
  have HK := Lib.hid hk
  have HLK := Lib.hid h
  have HL := Lib.hid hnl
  have HR := Lib.hid hnr
  have IHL := Lib.hid (ihl al i w hnl h.left i0 i1)
  by_cases hik : i <= (k : Int)
  ·have g1 : (i <= (k : Int)) = True := by simp; omega
   clear ihl ihr hcnt hk h hnl hnr fn hsz hlist hblk hik
   go_enter Tryz.func196, Tryz.ntmps196
   go_wp2_with fail
   refine (HC.out).mono ?_
   rintro e w1 ⟨rfl, rfl⟩
   go_wp2_with fail
   refine (IHL.out).mono ?_
   rintro e w1 ⟨t1, a1, t2, a2, rfl, h1, h2, h3, h4, hb1⟩
   have hik : i <= (k : Int) := by simpa using g1
   have H1 := Lib.hid h1
   have H2 := Lib.hid h2
   have H3 := Lib.hid h3
   have H4 := Lib.hid h4
   clear n0 n1 n2 n3 n4 n5 n6 n7 n8 g1 h1 h2 h3 h4
   go_wp2_with fail
   refine wp_region_lin (fun w' => Below w1.heap.size w1 w') (fun w' => Below w1.heap.size w1 w') (fun k => k == 10) (fun _ => false) (fun _ => false) (by kernel_rfl) (by kernel_rfl) (Below.drew (Below.refl _ _)) (fun _ h => h) ?_
   repeat ((first
    | (refine wpL_read (v := ?_) (by rfl) (by rfl) (fun w6 hSw => ?_) ?_; rotate_left; (· (obtain ⟨n0, n1, n2, n3, n4, n5, n6, n7, n8⟩ := FN.out _ (bseq hb1 hSw); go_simp; try with_reducible rfl)))
    | (refine wpL_free (v := ?_) (by rfl) (fun w6 => ?_) ?_; rotate_left; (· (go_simp; try with_reducible rfl)))
    | refine wpL_not (by rfl) ?_); (try simp only [Act.put, pA, pB, pC]))
   refine wpL_call (f := ?_) (args := ?_) (TrOut2 (l.list.take i.toNat) (l.list.drop i.toNat ++ x :: r.list) a1 w1) (by rfl) (by rfl) (fun w6 hSw => ?_) (fun w6 hSw => ?_) (.inr (fun v6 w6 hT6 => ?_)) (fun v6 hv6 => ?_)
   rotate_left 2
   ·(skip; go_simp; first | done | (constructor <;> with_reducible rfl) | with_reducible rfl)
   ·((have := join_outB (la := l.list.take i.toNat) (a := a1) (x := x) hSw ⟨t1, NodeAt.below hSw _ _ H1.out, H3.out⟩ (NodeAt.below hSw _ _ H2.out) (NodeAt.below (bseq hb1 hSw) _ _ HR.out) (by rw [H4.out]; have := HLK.out; rw [<- List.take_append_drop i.toNat l.list, List.append_assoc] at this; exact this.right)); rw [H4.out] at this; exact this)
   ·(exact hT6.2.bel)
   obtain ⟨w7, hx7, t7, a7, rfl, hc7⟩ := hv6; clear hc7 hx7
   (try simp only [Act.put, pA, pB, pC])
   repeat ((first
    | (refine wpL_read (v := ?_) (by rfl) (by rfl) (fun w6 hSw => ?_) ?_; rotate_left; (· (skip; go_simp; try with_reducible rfl)))
    | (refine wpL_free (v := ?_) (by rfl) (fun w6 => ?_) ?_; rotate_left; (· (go_simp; try with_reducible rfl)))
    | refine wpL_not (by rfl) ?_); (try simp only [Act.put, pA, pB, pC]))
   refine wpL_nil ?_
   intro w3 hw3
   obtain ⟨⟨t9, hn9, hl9⟩, h10⟩ := hw3
   obtain ⟨t11, hn11, hl11, hb11⟩ := h10.out
   have hbw := bseq hb1 hb11
   clear h10
   go_wp2_with fail
   go_ret2
   refine ⟨t9, _, t11, _, rfl, hn9, hn11, ?_, ?_, hbw⟩
   ·rw [hl9, List.take_append_of_le_length (by rw [HK.out]; omega)]
   ·rw [hl11, List.drop_append_of_le_length (by rw [HK.out]; omega)]
  ·have g1 : (i <= (k : Int)) = False := by simp; omega
   have IHR := Lib.hid (ihr ar (i - k - 1) w hnr h.right.tail (by omega) (by omega))
   have k1 : IntKind.i64.wrap (i - (k : Int)) = i - k := IntWalk.i64_in _ (by omega)
   have k2 : IntKind.i64.wrap (i - (k : Int) - 1) = i - k - 1 := IntWalk.i64_in _ (by omega)
   clear ihl ihr hcnt hk h hnl hnr fn hsz hlist hblk hik IHL
   go_enter Tryz.func196, Tryz.ntmps196
   go_wp2_with fail
   refine (HC.out).mono ?_
   rintro e w1 ⟨rfl, rfl⟩
   go_wp2_with fail
   refine (IHR.out).mono ?_
   rintro e w1 ⟨t1, a1, t2, a2, rfl, h1, h2, h3, h4, hb1⟩
   have hik : (k : Int) < i := by simpa using g1
   have H1 := Lib.hid h1
   have H2 := Lib.hid h2
   have H3 := Lib.hid h3
   have H4 := Lib.hid h4
   clear n0 n1 n2 n3 n4 n5 n6 n7 n8 g1 h1 h2 h3 h4
   go_wp2_with fail
   refine wp_region_lin (fun w' => Below w1.heap.size w1 w') (fun w' => Below w1.heap.size w1 w') (fun k => k == 9) (fun _ => false) (fun _ => false) (by kernel_rfl) (by kernel_rfl) (Below.drew (Below.refl _ _)) (fun _ h => h) ?_
   repeat ((first
    | (refine wpL_read (v := ?_) (by rfl) (by rfl) (fun w6 hSw => ?_) ?_; rotate_left; (· (obtain ⟨n0, n1, n2, n3, n4, n5, n6, n7, n8⟩ := FN.out _ (bseq hb1 hSw); go_simp; try with_reducible rfl)))
    | (refine wpL_free (v := ?_) (by rfl) (fun w6 => ?_) ?_; rotate_left; (· (go_simp; try with_reducible rfl)))
    | refine wpL_not (by rfl) ?_); (try simp only [Act.put, pA, pB, pC]))
   refine wpL_call (f := ?_) (args := ?_) (TrOut2 (r.list.drop (i - k - 1).toNat) (l.list ++ x :: r.list.take (i - k - 1).toNat) a2 w1) (by rfl) (by rfl) (fun w6 hSw => ?_) (fun w6 hSw => ?_) (.inr (fun v6 w6 hT6 => ?_)) (fun v6 hv6 => ?_)
   rotate_left 2
   ·(skip; go_simp; first | done | (constructor <;> with_reducible rfl) | with_reducible rfl)
   ·((have := join_outB (la := r.list.drop (i - k - 1).toNat) (a := a2) (x := x) hSw ⟨t2, NodeAt.below hSw _ _ H2.out, H4.out⟩ (NodeAt.below (bseq hb1 hSw) _ _ HL.out) (NodeAt.below hSw _ _ H1.out) (by rw [H3.out]; have := HLK.out; rw [<- List.take_append_drop (i - k - 1).toNat r.list, <- List.cons_append, <- List.append_assoc] at this; exact this.left)); rw [H3.out] at this; exact this)
   ·(exact hT6.2.bel)
   obtain ⟨w7, hx7, t7, a7, rfl, hc7⟩ := hv6; clear hc7 hx7
   (try simp only [Act.put, pA, pB, pC])
   repeat ((first
    | (refine wpL_read (v := ?_) (by rfl) (by rfl) (fun w6 hSw => ?_) ?_; rotate_left; (· (skip; go_simp; try with_reducible rfl)))
    | (refine wpL_free (v := ?_) (by rfl) (fun w6 => ?_) ?_; rotate_left; (· (go_simp; try with_reducible rfl)))
    | refine wpL_not (by rfl) ?_); (try simp only [Act.put, pA, pB, pC]))
   refine wpL_nil ?_
   intro w3 hw3
   obtain ⟨⟨t9, hn9, hl9⟩, h10⟩ := hw3
   obtain ⟨t11, hn11, hl11, hb11⟩ := h10.out
   have hbw := bseq hb1 hb11
   clear h10
   go_wp2_with fail
   go_ret2
   have ek : i.toNat = k + ((i - k - 1).toNat + 1) := by omega
   refine ⟨t11, _, t9, _, rfl, hn11, hn9, ?_, ?_, hbw⟩
   ·rw [hl11, ek, take_mid _ _ _ _ _ HK.out]
   ·rw [hl9, ek, drop_mid _ _ _ _ _ HK.out]
def FirstPost (ls : List Pc) (w : World) (e : Ending) (w' : World) : Prop := ∃ x t a, e = .returned (.tuple #[.agg x.cells, .pointer a]) /\ NodeAt w' t a /\ ls = x :: t.list /\ Below w.heap.size w w'
def BoxS (w : World) (g : Nat) (cs : Array Value) (w' : World) : Prop := Below w.heap.size w w' /\ Blk w' g 142 cs
theorem setP_fr (w : World) (b : Nat) (A : Option Addr) (n c : Nat) (tag : Int) (s : Sums) : Fr (· = b) w (setP w b A n c tag s) :=
 (((((((Fr.refl _ w).set1 0 _).set1 1 _).set1 2 _).set1 3 _).set1 4 _).set1 5 _).set1 6 _
theorem setP_node {w : World} {b : Nat} {A : Option Addr} {n c : Nat} {tag : Int} {s : Sums} {cs : Array Value} (hk : Blk w b 142 cs) {t : Tr} {a : Option Addr} (h : NodeAt w t a) : NodeAt (setP w b A n c tag s) t a :=
 NodeAt.keepBut (KeepBut.of_fr (setP_fr w b A n c tag s) hk) (by decide) t a h
theorem part_facts' {w : World} {b : Nat} (h : Blk w b 142 (partC none 0 0 0 zeroS)) :
  (w.cell? ⟨b, 0, none⟩ = some (.slice none 0 0) /\ w.cell? ⟨b, 1, none⟩ = some (.int .i64 0) /\ w.cell? ⟨b, 2, none⟩ = some (.int .i64 0) /\ w.cell? ⟨b, 3, none⟩ = some (.int .i64 0) /\ w.cell? ⟨b, 4, none⟩ = some (.int .i64 0) /\ w.cell? ⟨b, 5, none⟩ = some (.bool false) /\ w.cell? ⟨b, 6, none⟩ = some (.bool false)) /\
  w.frozen? ⟨b, 0, none⟩ = false /\ w.frozen? ⟨b, 1, none⟩ = false /\ w.frozen? ⟨b, 2, none⟩ = false /\ w.frozen? ⟨b, 3, none⟩ = false /\ w.frozen? ⟨b, 4, none⟩ = false /\ w.frozen? ⟨b, 5, none⟩ = false /\ w.frozen? ⟨b, 6, none⟩ = false := part_facts h
theorem first_tree : ∀ (t : Tr) (a : Option Addr) (w : World), NodeAt w t a -> LstOk t.list -> t ≠ .nil ->
  Calls Tryz.prog 209 #[.pointer a] w fun e w' => FirstPost t.list w e w' := by
 intro t
 induction t with
 | nil => intro a w _ _ h; exact absurd rfl h
 | node l x r ihl ihr =>
  intro a w hnode h _
  obtain ⟨b, al, ar, rfl, hblk, hnl, hnr⟩ := hnode
  have fn := fun (w' : World) (hb : Below w.heap.size w w') => NodeC.of hblk hb
  have hW : Below w.heap.size w (w.alloc (.cells (partC none 0 0 0 zeroS) 142)) := balloc (Below.refl _ w)
  have hk0 := Blk.new w 142 (partC none 0 0 0 zeroS)
  have hlist : (Tr.node l x r).list = l.list ++ x :: r.list := rfl
  rw [hlist] at h ⊢
  have FN := Lib.hid fn
  have HLK := Lib.hid h
  have HR := Lib.hid hnr
  obtain ⟨n0, n1, n2, n3, n4, n5, n6, n7, n8⟩ := fn _ hW
  obtain ⟨W, hWe⟩ : ∃ W, w.alloc (.cells (partC none 0 0 0 zeroS) 142) = W := ⟨_, rfl⟩
  rw [hWe] at hW hk0
  simp only [partC, zeroS] at hWe n0 n1 n2 n3 n4 n5 n6 n7 n8
  have HWE := Lib.hid hWe
  have HK0 := Lib.hid hk0
  clear hWe hk0 ihr h hnr hlist hblk fn
  cases l with
  | nil =>
   cases hnl
   clear ihl
   go_enter Tryz.func209, Tryz.ntmps209
   go_wp2_with fail
   rw [HWE.out]
   refine wp_region_lin (fun w' => Below w.heap.size w w') (BoxS w w.heap.size (partC none 0 0 0 zeroS)) (fun k => k == 8) (fun _ => false) (fun _ => false) (by kernel_rfl) (by kernel_rfl) (⟨hW.drew, HK0.out.drew⟩) (fun _ h => h.1) ?_
   repeat ((first
    | (refine wpL_read (v := ?_) (by rfl) (by rfl) (fun w6 hSw => ?_) ?_; rotate_left; (· (obtain ⟨n0, n1, n2, n3, n4, n5, n6, n7, n8⟩ := FN.out _ hSw; go_simp; try with_reducible rfl)))
    | (refine wpL_free (v := ?_) (by rfl) (fun w6 => ?_) ?_; rotate_left; (· (go_simp; try with_reducible rfl)))
    | refine wpL_not (by rfl) ?_); (try simp only [Act.put, pA, pB, pC]))
   refine wpL_heavy (fun _ w'' => BoxS w w.heap.size x.cells w'') (by rfl) (by rfl) (fun w6 hSw => ?_) (.inr (fun v6 w6 hT6 => ?_)) (fun v6 hv6 => ?_)
   ·(obtain ⟨hb6, hk6⟩ := hSw; obtain ⟨⟨y0, y1, y2, y3, y4, y5, y6⟩, z0, z1, z2, z3, z4, z5, z6⟩ := part_facts hk6; simp only [zeroS] at y0 y1 y2 y3 y4 y5 y6; go_simp; exact ⟨setP_below hb6 (Nat.le_refl _), setP_own hk6⟩)
   ·(exact hT6.1)
   skip
   (try simp only [Act.put, pA, pB, pC])
   repeat ((first
    | (refine wpL_read (v := ?_) (by rfl) (by rfl) (fun w6 hSw => ?_) ?_; rotate_left; (· (obtain ⟨n0, n1, n2, n3, n4, n5, n6, n7, n8⟩ := FN.out _ hSw; go_simp; try with_reducible rfl)))
    | (refine wpL_free (v := ?_) (by rfl) (fun w6 => ?_) ?_; rotate_left; (· (go_simp; try with_reducible rfl)))
    | refine wpL_not (by rfl) ?_); (try simp only [Act.put, pA, pB, pC]))
   refine wpL_nil ?_
   rintro w3 ⟨hb3, hk3⟩
   obtain ⟨⟨y0, y1, y2, y3, y4, y5, y6⟩, -⟩ := part_facts (show Blk w3 _ _ (partC x.A x.n x.c x.tag x.sum) from hk3)
   go_wp2_with fail
   exact bodyPost_ret (v := .tuple #[.agg x.cells, .pointer ar]) (by simp [results, Tryz.results209, go_sem, y0, y1, y2, y3, y4, y5, y6, Pc.cells, partC]) rfl ⟨x, r, ar, rfl, NodeAt.below hb3 _ _ HR.out, rfl, hb3⟩
  | node ll lx lr =>
   have hnl' := hnl
   obtain ⟨lb, al', ar', rfl, _, _, _⟩ := hnl'
   have hih := ihl _ W (NodeAt.below hW _ _ hnl) HLK.out.left (by intro e; cases e)
   have HIH := Lib.hid hih
   clear ihl hih
   go_enter Tryz.func209, Tryz.ntmps209
   go_wp2_with fail
   rw [HWE.out]
   refine (HIH.out).mono ?_
   rintro e w1 ⟨y, t1, a1, rfl, h1, h2, hb1⟩
   clear n0 n1 n2 n3 n4 n5 n6 n7 n8
   simp only [Pc.cells, partC]
   go_wp2_with fail
   have hbw : Below w.heap.size w (w1.alloc (.cells (partC y.A y.n y.c y.tag y.sum) 142)) := balloc (bseq hW hb1)
   have hbx := Blk.new w1 142 (partC y.A y.n y.c y.tag y.sum)
   have hk1 := (HK0.out.below hb1).alloc (.cells (partC y.A y.n y.c y.tag y.sum) 142)
   have hn1 := NodeAt.below (balloc (Below.refl _ w1) (o := .cells (partC y.A y.n y.c y.tag y.sum) 142)) _ _ h1
   simp only [partC] at hbw hbx hk1 hn1
   obtain ⟨W2, hWe⟩ : ∃ W2, w1.alloc (.cells #[.slice y.A y.n y.c, .int .i64 y.tag, .int .i64 y.sum.atoms, .int .i64 y.sum.bytes, .int .i64 y.sum.breaks, .bool y.sum.lf, .bool y.sum.cr] 142) = W2 := ⟨_, rfl⟩
   rw [hWe] at hbw hbx hk1 hn1 ⊢
   have hlk : LstOk (t1.list ++ x :: r.list) := by
    have := HLK.out
    rw [h2] at this
    exact this.tail
   have fx := fun (w' : World) (hb : Below W2.heap.size W2 w') => BoxC.of (x := y) hbx hb
   have FX := Lib.hid fx
   have H1 := Lib.hid hn1
   have H2 := Lib.hid h2
   have HK := Lib.hid hlk
   have HK1 := Lib.hid hk1
   have HBW := Lib.hid hbw
   have HBX := Lib.hid hbx
   have hgne : w1.heap.size ≠ w.heap.size := by
    have := hb1.size
    have e : W.heap.size = w.heap.size + 1 := by rw [<- HWE.out]; simp
    omega
   clear hWe fx hn1 h1 h2 hlk hk1 hbx hbw
   refine wp_region_lin (fun w' => Below w.heap.size w w' /\ BoxC w' w1.heap.size y) (fun w' => Below W2.heap.size W2 w') (fun k => k == 10 || k == 11) (fun _ => false) (fun _ => false) (by kernel_rfl) (by kernel_rfl) (Below.drew (Below.refl _ _)) (fun w' h => ⟨bseq HBW.out h, FX.out w' h⟩) ?_
   repeat ((first
    | (refine wpL_read (v := ?_) (by rfl) (by rfl) (fun w6 hSw => ?_) ?_; rotate_left; (· (obtain ⟨hw6, x0, x1, x2, x3, x4, x5, x6⟩ := hSw; obtain ⟨n0, n1, n2, n3, n4, n5, n6, n7, n8⟩ := FN.out _ hw6; go_simp; try with_reducible rfl)))
    | (refine wpL_free (v := ?_) (by rfl) (fun w6 => ?_) ?_; rotate_left; (· (go_simp; try with_reducible rfl)))
    | refine wpL_not (by rfl) ?_); (try simp only [Act.put, pA, pB, pC]))
   refine wpL_call (f := ?_) (args := ?_) (TrOut (t1.list ++ x :: r.list) W2) (by rfl) (by rfl) (fun w6 hSw => ?_) (fun w6 hSw => ?_) (.inr (fun v6 w6 hT6 => ?_)) (fun v6 hv6 => ?_)
   rotate_left 2
   ·(skip; go_simp; first | done | (constructor <;> with_reducible rfl) | with_reducible rfl)
   ·(exact even_out hSw (NodeAt.below hSw _ _ H1.out) (NodeAt.below (bseq HBW.out hSw) _ _ HR.out) HK.out)
   ·(exact ⟨bseq HBW.out hT6.bel, FX.out _ hT6.bel⟩)
   obtain ⟨w7, t7, a7, rfl, hc7⟩ := hv6; clear hc7
   (try simp only [Act.put, pA, pB, pC])
   repeat ((first
    | (refine wpL_read (v := ?_) (by rfl) (by rfl) (fun w6 hSw => ?_) ?_; rotate_left; (· (obtain ⟨hw6, x0, x1, x2, x3, x4, x5, x6⟩ := hSw; go_simp; try with_reducible rfl)))
    | (refine wpL_free (v := ?_) (by rfl) (fun w6 => ?_) ?_; rotate_left; (· (go_simp; try with_reducible rfl)))
    | refine wpL_not (by rfl) ?_); (try simp only [Act.put, pA, pB, pC]))
   refine wpL_heavy (fun _ w'' => BoxS w w.heap.size y.cells w'' /\ BoxC w'' w1.heap.size y /\ ∃ t, NodeAt w'' t a7 /\ t.list = t1.list ++ x :: r.list) (by rfl) (by rfl) (fun w6 hSw => ?_) (.inr (fun v6 w6 hT6 => ?_)) (fun v6 hv6 => ?_)
   ·(obtain ⟨t8, hn8, hl8, hb8⟩ := hSw.out; have hk6 := HK1.out.below hb8; obtain ⟨⟨y0, y1, y2, y3, y4, y5, y6⟩, z0, z1, z2, z3, z4, z5, z6⟩ := part_facts' hk6; go_simp; exact ⟨⟨setP_below (bseq HBW.out hb8) (Nat.le_refl _), setP_own hk6⟩, BoxC.of (x := y) (setP_far (HBX.out.below hb8) hgne) (Below.refl _ _), t8, setP_node hk6 hn8, hl8⟩)
   ·(exact ⟨hT6.1.1, hT6.2.1⟩)
   skip
   (try simp only [Act.put, pA, pB, pC])
   repeat ((first
    | (refine wpL_read (v := ?_) (by rfl) (by rfl) (fun w6 hSw => ?_) ?_; rotate_left; (· (obtain ⟨hw6, x0, x1, x2, x3, x4, x5, x6⟩ := hSw; go_simp; try with_reducible rfl)))
    | (refine wpL_free (v := ?_) (by rfl) (fun w6 => ?_) ?_; rotate_left; (· (go_simp; try with_reducible rfl)))
    | refine wpL_not (by rfl) ?_); (try simp only [Act.put, pA, pB, pC]))
   refine wpL_nil ?_
   rintro w3 ⟨⟨hb3, hk3⟩, -, t9, hn9, hl9⟩
   obtain ⟨⟨y0, y1, y2, y3, y4, y5, y6⟩, -⟩ := part_facts (show Blk w3 _ _ (partC y.A y.n y.c y.tag y.sum) from hk3)
   go_wp2_with fail
   exact bodyPost_ret (v := .tuple #[.agg y.cells, .pointer a7]) (by simp [results, Tryz.results209, go_sem, y0, y1, y2, y3, y4, y5, y6, Pc.cells, partC]) rfl ⟨y, t9, a7, rfl, hn9, by rw [hl9, H2.out]; rfl, hb3⟩
theorem both_tree (l r : Tr) (al ar : Option Addr) (w : World) (hl : NodeAt w l al) (hr : NodeAt w r ar) (h : LstOk (l.list ++ r.list)) :
  Calls Tryz.prog 197 #[.pointer al, .pointer ar] w fun e w' => TrPost (l.list ++ r.list) w e w' := by
 cases r with
 | nil =>
  cases hr
  go_enter Tryz.func197, Tryz.ntmps197
  go_wp2_with fail
  go_ret
  exact ⟨l, al, rfl, hl, by simp [Tr.list], Below.refl _ _⟩
 | node ml mx mr =>
  have hf := first_tree _ ar w hr h.right (by intro e; cases e)
  obtain ⟨b, _, _, rfl, _, _, _⟩ := hr
  obtain ⟨rl, hrl⟩ : ∃ rl, (Tr.node ml mx mr).list = rl := ⟨_, rfl⟩
  rw [hrl] at hf h ⊢
  have HF := Lib.hid hf
  have HL := Lib.hid hl
  have HK := Lib.hid h
  clear hf hl h hrl
  go_enter Tryz.func197, Tryz.ntmps197
  go_wp2_with fail
  refine (HF.out).mono ?_
  rintro e w1 ⟨x, t, a, rfl, h1, h2, hb1⟩
  have hbw : Below w.heap.size w (w1.alloc (.cells x.cells 142)) := balloc hb1
  have hj := join_any _ l t al a x (w1.alloc (.cells x.cells 142)) (Nat.le_refl _) (NodeAt.below hbw _ _ HL.out) (NodeAt.below (balloc (Below.refl _ w1)) _ _ h1) (by rw [<- h2]; exact HK.out)
  obtain ⟨x0, x1, x2, x3, x4, x5, x6⟩ := BoxC.of (Blk.new w1 142 x.cells) (Below.refl _ _)
  rw [<- h2] at hj
  have HJ := Lib.hid hj
  clear hj h1 h2
  simp only [Pc.cells, partC] at *
  go_wp2_with fail
  refine (HJ.out).mono ?_
  rintro e w3 ⟨t3, a3, rfl, hn3, hl3, hb3⟩
  go_wp2_with fail
  go_ret
  exact ⟨t3, a3, rfl, hn3, hl3, bseq hbw hb3⟩
end Go.Proofs.YtkoakanpaehkmaaGreatDoor
