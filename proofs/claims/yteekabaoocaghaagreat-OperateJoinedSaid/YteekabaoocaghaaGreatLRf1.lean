/-
  The walks of the document's decoder (package copyistref1), first part: Scalar, eight, begins, meant.
-/
import Derived.Test.YteekabaoocaghaaGreatLRfCodec
import Derived.Test.YteekabaoocaghaaGreatLTree
import Derived.IntWalk
set_option linter.unusedSimpArgs false
set_option linter.unusedVariables false
namespace Go.Proofs.YteekabaoocaghaaGreat
open Go.RowKit

set_option maxRecDepth 100000 in
theorem rscalar_any (a : Int) (w : World) : Calls Tryz.prog 156 #[.int .i64 a] w fun e w' => e = .returned (.bool (scalarF a)) ∧ w = w' := by
  go_enter Tryz.func156, Tryz.ntmps156
  go_wp2
  all_goals
    go_light
    go_ret
    refine ⟨ret_b ?_, rfl⟩
    unfold scalarF
    rw [Bool.eq_iff_iff]
    simp
    (try omega)
/-- a new slice of bytes -/
def NewBytes (l : List Int) (w : World) (e : Ending) (w' : World) : Prop := ∃ v, e = .returned v ∧ w'.ownsRow w.heap.size 5 1 v l.length (l.map (Value.int .u8)) ∧ Below w.heap.size w w'
theorem newBytes_lit (l : List Int) (w : World) (h0 : l.length ≤ 16) : NewBytes l w (.returned (.slice (some ⟨w.heap.size, 0, none⟩) l.length l.length)) (w.alloc (.cells (l.map (Value.int .u8)).toArray 5)) := by
  have h1 : (l.map (Value.int .u8)).toArray.size = l.length * 1 := by rw [List.size_toArray, List.length_map, Nat.mul_one]
  have h2 : (l.map (Value.int .u8)).toArray.toList.take (l.length * 1) = l.map (Value.int .u8) := by
    show (l.map (Value.int .u8)).take (l.length * 1) = _
    exact List.take_of_length_le (by rw [List.length_map, Nat.mul_one]; exact Nat.le_refl _)
  exact ⟨_, rfl, ⟨by rw [List.length_map, Nat.mul_one], .inr ⟨w.heap.size, l.length, (l.map (Value.int .u8)).toArray, rfl, Nat.le_refl _, heap_alloc_new _ _, Nat.le_refl _, by unfold maxLen; omega, h1, h2⟩⟩, balloc (Below.refl _ _)⟩
theorem u8_in (x : Int) (h0 : 0 ≤ x) (h1 : x < 256) : IntKind.u8.wrap x = x := IntWalk.u8_in x (by omega)
set_option maxRecDepth 100000 in
set_option maxHeartbeats 1000000 in
theorem reight_any (a : Int) (w : World) (h0 : 0 ≤ a) (h1 : a ≤ 1114111) : Calls Tryz.prog 157 #[.int .i64 a] w fun e w' => NewBytes (eightL a) w e w' := by
  by_cases c1 : a < 128
  · have e1 : eightL a = [a] := by unfold eightL; rw [if_pos c1]
    have k1 := u8_in a h0 (by omega)
    have hn := newBytes_lit [a] w (by simp)
    rw [e1]
    have HN := Lib.hid hn
    clear hn e1
    go_enter Tryz.func157, Tryz.ntmps157
    go_wp2
    go_ret
    exact HN.out
  · by_cases c2 : a < 2048
    · have e1 : eightL a = [192 + a / 64, 128 + a % 64] := by unfold eightL; rw [if_neg c1, if_pos c2]
      have k1 := u8_in (192 + a / 64) (by omega) (by omega)
      have k2 := u8_in (128 + a % 64) (by omega) (by omega)
      have hn := newBytes_lit [192 + a / 64, 128 + a % 64] w (by simp)
      rw [e1]
      have HN := Lib.hid hn
      clear hn e1
      go_enter Tryz.func157, Tryz.ntmps157
      go_wp2
      go_ret
      exact HN.out
    · by_cases c3 : a < 65536
      · have e1 : eightL a = [224 + a / 4096, 128 + a / 64 % 64, 128 + a % 64] := by unfold eightL; rw [if_neg c1, if_neg c2, if_pos c3]
        have k1 := u8_in (224 + a / 4096) (by omega) (by omega)
        have k2 := u8_in (128 + a / 64 % 64) (by omega) (by omega)
        have k3 := u8_in (128 + a % 64) (by omega) (by omega)
        have hn := newBytes_lit [224 + a / 4096, 128 + a / 64 % 64, 128 + a % 64] w (by simp)
        rw [e1]
        have HN := Lib.hid hn
        clear hn e1
        go_enter Tryz.func157, Tryz.ntmps157
        go_wp2
        go_ret
        exact HN.out
      · have e1 : eightL a = [240 + a / 262144, 128 + a / 4096 % 64, 128 + a / 64 % 64, 128 + a % 64] := by unfold eightL; rw [if_neg c1, if_neg c2, if_neg c3]
        have k1 := u8_in (240 + a / 262144) (by omega) (by omega)
        have k2 := u8_in (128 + a / 4096 % 64) (by omega) (by omega)
        have k3 := u8_in (128 + a / 64 % 64) (by omega) (by omega)
        have k4 := u8_in (128 + a % 64) (by omega) (by omega)
        have hn := newBytes_lit [240 + a / 262144, 128 + a / 4096 % 64, 128 + a / 64 % 64, 128 + a % 64] w (by simp)
        rw [e1]
        have HN := Lib.hid hn
        clear hn e1
        go_enter Tryz.func157, Tryz.ntmps157
        go_wp2
        go_ret
        exact HN.out
/-- do the bytes from p on begin with x? -/
def begB (l : List Int) (p : Nat) (x : List Int) : Bool := decide (p + x.length ≤ l.length ∧ ∀ i, i < x.length → l.getD (p + i) 0 = x.getD i 0)
theorem begB_eq (l : List Int) (p : Nat) (x : List Int) (h : p + x.length ≤ l.length) : begB l p x = decide ((l.drop p).take x.length = x) := by
  unfold begB
  rw [Bool.eq_iff_iff]
  simp only [decide_eq_true_eq]
  constructor
  · rintro ⟨_, h2⟩
    apply List.ext_getElem?
    intro i
    rw [List.getElem?_take]
    by_cases hi : i < x.length
    · rw [if_pos hi, List.getElem?_drop]
      have := h2 i hi
      rw [List.getD_eq_getElem?_getD, List.getD_eq_getElem?_getD, List.getElem?_eq_getElem (by omega), List.getElem?_eq_getElem hi] at this
      simp at this
      rw [List.getElem?_eq_getElem (by omega), List.getElem?_eq_getElem hi, this]
    · rw [if_neg hi, List.getElem?_eq_none (by omega)]
  · intro h2
    refine ⟨h, fun i hi => ?_⟩
    have := congrArg (fun y => y.getD i 0) h2
    rw [List.getD_eq_getElem?_getD, List.getElem?_take, if_pos hi, List.getElem?_drop, ← List.getD_eq_getElem?_getD] at this
    exact this
def BegR (l x : List Int) (p : Nat) (w0 : World) (k : Nat) (q : Value) (wr : World) : Prop :=
  ∃ i : Nat, q = .int .i64 (i : Int) ∧ i ≤ x.length ∧ x.length - i ≤ k ∧ Hid (∀ j, j < i → l.getD (p + j) 0 = x.getD j 0) ∧ Below w0.heap.size w0 wr
set_option maxRecDepth 100000 in
set_option maxHeartbeats 2000000 in
theorem rbegins_any (D D' : Nat → Prop) (A A' : Option Addr) (n c m c' p : Nat) (l x : List Int) (w : World) (hl : Bts w D A n l) (hx : Bts w D' A' m x) (hn : n ≤ 2147483648) (hm : m ≤ 16) (hp : p ≤ n) :
    Calls Tryz.prog 158 #[.slice A n c, .int .i64 (p : Int), .slice A' m c'] w fun e w' => e = .returned (.bool (begB l p x)) ∧ Below w.heap.size w w' := by
  have hle := hl.len
  have hxe := hx.len
  by_cases h1 : p + m ≤ n
  · have q1 : ((n : Int) < (p : Int) + (m : Int)) = False := by simp; omega
    go_enter Tryz.func158, Tryz.ntmps158
    go_wp2_with fail
    go_loopg [7] m (fun k q wr => BegR l x p w k q wr)
    case atStart => exact ⟨0, rfl, Nat.zero_le _, by omega, Lib.hid (fun j hj => absurd hj (by omega)), Below.refl _ _⟩
    case round =>
      obtain ⟨i, rfl, hi, hk, hh, hb⟩ := hrel
      by_cases hlt : i < m
      · obtain ⟨ad, hA, _, c1⟩ := Bts.at_ (Reads.below hl hb) (show p + i < n by omega)
        obtain ⟨ad', hA', _, c2⟩ := Bts.at_ (Reads.below hx hb) hlt
        subst hA
        subst hA'
        obtain ⟨a, ha⟩ : ∃ a, l.getD (p + i) 0 = a := ⟨_, rfl⟩
        obtain ⟨b, hb'⟩ : ∃ b, x.getD i 0 = b := ⟨_, rfl⟩
        rw [ha] at c1
        rw [hb'] at c2
        have HA := Lib.hid ha
        have HB := Lib.hid hb'
        clear ha hb'
        have hs : IntKind.i64.wrap ((p : Int) + (i : Int)) = ((p + i : Nat) : Int) := by rw [IntWalk.i64_in _ (by omega)]; omega
        by_cases hab : a = b
        · have hne : (a != b) = false := by simp [hab]
          go_wp2_with fail
          go_quiet (fail)
          go_wp2_with fail
          go_roundg (m - (i + 1))
          case measure => omega
          case rel =>
            refine ⟨i + 1, by go_num, by omega, by omega, Lib.hid (fun j hj => ?_), below_drewN hb _⟩
            rcases Nat.lt_or_ge j i with h | h
            · exact hh.out j h
            · rw [show j = i by omega, HA.out, HB.out, hab]
        · have hne : (a != b) = true := by simp [hab]
          go_wp2_with fail
          go_quiet (fail)
          go_wp2_with fail
          go_ret
          refine ⟨ret_b ?_, below_drewN hb _⟩
          symm
          unfold begB
          rw [decide_eq_false_iff_not]
          rintro ⟨_, h2⟩
          apply hab
          rw [← HA.out, ← HB.out]
          exact h2 i (by omega)
      · go_wp2_with fail
        go_ret
        refine ⟨ret_b ?_, hb⟩
        symm
        unfold begB
        rw [decide_eq_true_eq]
        exact ⟨by omega, fun j hj => hh.out j (by omega)⟩
  · have q1 : ((n : Int) < (p : Int) + (m : Int)) = True := by simp; omega
    go_enter Tryz.func158, Tryz.ntmps158
    go_wp2_with fail
    go_ret
    refine ⟨ret_b ?_, Below.refl _ _⟩
    symm
    unfold begB
    rw [decide_eq_false_iff_not]
    rintro ⟨h2, _⟩
    omega
/-- the number that the first i bytes make -/
def accM (x0 : Int) (l : List Int) : Nat → Int
  | 0 => 0
  | 1 => x0
  | i + 2 => accM x0 l (i + 1) * 64 + l.getD (i + 1) 0 - 128
def leadN (n : Nat) : Int := if n = 2 then 192 else if n = 3 then 224 else if n = 4 then 240 else 0
theorem meantF_acc (l : List Int) {n : Nat} (h0 : 1 ≤ n) (h1 : n ≤ 4) : meantF l n = accM (l.getD 0 0 - leadN n) l n := by
  match n, h0, h1 with
  | 1, _, _ => simp [meantF, accM, leadN]
  | 2, _, _ => rfl
  | 3, _, _ => rfl
  | 4, _, _ => rfl
theorem accM_bd {x0 : Int} {l : List Int} (hb : Byt l) (hx : -256 ≤ x0 ∧ x0 ≤ 256) {i : Nat} (h : i ≤ 4) : -134217728 ≤ accM x0 l i ∧ accM x0 l i ≤ 134217728 := by
  have b1 := hb.at_ 1
  have b2 := hb.at_ 2
  have b3 := hb.at_ 3
  match i, h with
  | 0, _ => simp [accM]
  | 1, _ => simp only [accM]; omega
  | 2, _ => simp only [accM, Nat.reduceAdd]; omega
  | 3, _ => simp only [accM, Nat.reduceAdd]; omega
  | 4, _ => simp only [accM, Nat.reduceAdd]; omega
def MeantR (x0 : Int) (l : List Int) (n : Nat) (w0 : World) (k : Nat) (q8 q9 : Value) (wr : World) : Prop :=
  ∃ i : Nat, ∃ v : Int, q8 = .int .i64 v ∧ q9 = .int .i64 (i : Int) ∧ Hid (v = accM x0 l i) ∧ -134217728 ≤ v ∧ v ≤ 134217728 ∧ 1 ≤ i ∧ i ≤ n ∧ 4 - i ≤ k ∧ Below w0.heap.size w0 wr
set_option maxRecDepth 100000 in
set_option maxHeartbeats 4000000 in
theorem rmeant_any (D : Nat → Prop) (A : Option Addr) (N c p n : Nat) (l : List Int) (w : World) (hl : Bts w D A N l) (hB : Byt l) (hN : N ≤ 2147483648) (hn : n = 1 ∨ n = 2 ∨ n = 3 ∨ n = 4) (hp : p + n ≤ N) :
    Calls Tryz.prog 155 #[.slice A N c, .int .i64 (p : Int), .int .i64 (n : Int)] w fun e w' => e = .returned (.int .i64 (meantF (l.drop p) n)) ∧ Below w.heap.size w w' := by
  have hle := hl.len
  have hn14 : 1 ≤ n ∧ n ≤ 4 := by omega
  rw [meantF_acc _ hn14.1 hn14.2, getD_drop', Nat.add_zero]
  obtain ⟨ad, rfl, _, c0⟩ := hl.at_ (show p < N by omega)
  have hlt := lt_of_cell c0
  rw [block_of_add] at hlt
  have b0 := hB.at_ p
  obtain ⟨x, hx⟩ : ∃ x, l.getD p 0 = x := ⟨_, rfl⟩
  rw [hx] at c0 b0 ⊢
  have hbl : Below w.heap.size w (w.alloc (.cells #[.int .i64 0, .int .i64 0, .int .i64 192, .int .i64 224, .int .i64 240] 245)) := balloc (Below.refl _ _)
  have hBn := Blk.new w 245 #[.int .i64 0, .int .i64 0, .int .i64 192, .int .i64 224, .int .i64 240]
  have c0' := hbl.cell (p := ad.add p) (by rw [block_of_add]; exact hlt)
  rw [c0] at c0'
  have HX := Lib.hid hx
  obtain ⟨m, hm⟩ : ∃ m, n = m := ⟨_, rfl⟩
  have hpm : p + m ≤ N ∧ m ≤ 4 := by omega
  have hacc := fun (i : Nat) (h : i ≤ 4) => accM_bd (x0 := x - leadN m) (l := l.drop p) (hB.drop p) (by unfold leadN; (repeat' split) <;> omega) (i := i) h
  have HACC := Lib.hid hacc
  have h1 : (0 : Int) ≤ (p : Int) := by omega
  have h2 : (p : Int) < (N : Int) := by omega
  have HM := Lib.hid hm
  clear hx hacc hbl hm
  rcases hn with rfl | rfl | rfl | rfl
  all_goals
    go_enter Tryz.func155, Tryz.ntmps155
    go_wp2_with fail
    go_quiet (fail)
    go_wp2_with fail
    go_loopg [8, 9] 4 (fun k q8 q9 wr => MeantR (x - leadN m) (l.drop p) m w k q8 q9 wr)
    case atStart =>
      have hm := HM.out
      subst hm
      exact ⟨1, _, rfl, rfl, Lib.hid (by simp [accM, leadN]), by omega, by omega, by omega, by omega, by omega, below_drewN (balloc (Below.refl _ _)) _⟩
    case round =>
      obtain ⟨i, v, rfl, rfl, hv, hv0, hv1, hi0, hi1, hk, hb⟩ := hrel
      by_cases hlt : i < m
      · obtain ⟨ad', hA, _, c1⟩ := Bts.at_ (Reads.below hl hb) (show p + i < N by omega)
        obtain rfl : ad = ad' := by injection hA
        have by1 := hB.at_ (p + i)
        have e1 : accM (x - leadN m) (l.drop p) (i + 1) = accM (x - leadN m) (l.drop p) i * 64 + l.getD (p + i) 0 - 128 := by
          obtain ⟨j, rfl⟩ : ∃ j, i = j + 1 := ⟨i - 1, by omega⟩
          rw [accM, getD_drop']
        rw [← hv.out] at e1
        obtain ⟨y, hy⟩ : ∃ y, l.getD (p + i) 0 = y := ⟨_, rfl⟩
        rw [hy] at c1 by1 e1
        have hs : IntKind.i64.wrap ((p : Int) + (i : Int)) = ((p + i : Nat) : Int) := by rw [IntWalk.i64_in _ (by omega)]; omega
        have hbd := HACC.out (i + 1) (by omega)
        rw [e1] at hbd
        have hm := HM.out
        subst hm
        have HE := Lib.hid e1
        clear hy e1
        go_wp2_with fail
        all_goals
          clear hs
          go_roundg (4 - (i + 1))
          case measure => omega
          case rel => exact ⟨i + 1, _, rfl, by go_num, Lib.hid HE.out.symm, by omega, by omega, by omega, by omega, by omega, hb⟩
      · have hm := HM.out
        subst hm
        go_wp2_with fail
        go_ret
        refine ⟨ret_i ?_, hb⟩
        rw [hv.out]
        congr 1
        omega
end Go.Proofs.YteekabaoocaghaaGreat
