/-
  Bytes that are cut at an atom's end: their first atoms. (Plain.)
-/
import Derived.Test.YtcdhfmkfkhhnoaaGreatLText
set_option linter.unusedSimpArgs false
set_option linter.unusedVariables false
namespace Go.Proofs.YtcdhfmkfkhhnoaaGreat
open Go.RowKit

theorem take_getD (l : List Int) (m k : Nat) (h : k < m) : (l.take m).getD k 0 = l.getD k 0 := by
  rw [List.getD_eq_getElem?_getD, List.getD_eq_getElem?_getD, List.getElem?_take, if_pos h]
theorem contF_take_le (k : Nat) (l : List Int) (j : Nat) : contF k (l.take j) ≤ contF k l := by
  induction k generalizing l j with
  | zero => simp [contF]
  | succ k ih =>
    cases l with
    | nil => simp
    | cons c r =>
      cases j with
      | zero => simp [contF]
      | succ j =>
        simp only [List.take_succ_cons, contF]
        split
        · have := ih r j; omega
        · exact Nat.le_refl _
theorem contF_take (k : Nat) (l : List Int) (j : Nat) (h : k ≤ j) : contF k (l.take j) = contF k l := by
  induction k generalizing l j with
  | zero => simp [contF]
  | succ k ih =>
    cases l with
    | nil => simp
    | cons c r =>
      cases j with
      | zero => omega
      | succ j =>
        simp only [List.take_succ_cons, contF]
        rw [ih r j (by omega)]
theorem first8_take (l : List Int) (m : Nat) (h0 : 0 < l.length) (hz : size8 l ≤ m) : atom8 (l.take m) = atom8 l ∧ size8 (l.take m) = size8 l := by
  have hb := size8_bd l h0
  have e0 : (l.take m).getD 0 0 = l.getD 0 0 := take_getD l m 0 (by omega)
  have hm : (l.take m).length = min m l.length := List.length_take
  have hr : rawF (l.take m) = rawF l := by
    cases hraw : rawF l
    · have hs : size8 l = bdN (l.getD 0 0) := by unfold size8; rw [hraw]; rfl
      unfold rawF at hraw ⊢
      simp only [decide_eq_false_iff_not, not_or, Int.not_lt] at hraw ⊢
      rw [e0]
      refine ⟨hraw.1, ?_⟩
      have h2 := hraw.2
      have hl := rowHave_le l h0
      unfold rowHave at h2 ⊢
      rw [e0]
      by_cases hN : bdN (l.getD 0 0) < 2
      · rw [if_pos hN]; exact Int.le_refl _
      · rw [if_neg hN] at h2 ⊢
        by_cases hc : l.length < 2 ∨ l.getD 1 0 < bdLo (l.getD 0 0) ∨ bdHi (l.getD 0 0) < l.getD 1 0
        · rw [if_pos hc] at h2; omega
        · rw [if_neg hc] at h2
          rw [take_getD l m 1 (by omega), if_neg (by rw [hm]; omega), List.drop_take, contF_take _ _ _ (by omega)]
          exact h2
    · unfold rawF at hraw ⊢
      simp only [decide_eq_true_eq] at hraw ⊢
      rw [e0]
      rcases hraw with hraw | hraw
      · exact .inl hraw
      · refine .inr (Int.lt_of_le_of_lt ?_ hraw)
        unfold rowHave
        rw [e0]
        by_cases hN : bdN (l.getD 0 0) < 2
        · rw [if_pos hN, if_pos hN]; exact Int.le_refl _
        · rw [if_neg hN, if_neg hN]
          by_cases hc : (l.take m).length < 2 ∨ (l.take m).getD 1 0 < bdLo (l.getD 0 0) ∨ bdHi (l.getD 0 0) < (l.take m).getD 1 0
          · rw [if_pos hc]; split <;> omega
          · rw [if_neg hc]
            rw [hm] at hc
            rw [take_getD l m 1 (by omega)] at hc
            rw [if_neg (by omega), List.drop_take]
            have := contF_take_le (bdN (l.getD 0 0) - 2).toNat (l.drop 2) (m - 2)
            omega
  unfold atom8 size8
  rw [hr, e0]
  refine ⟨?_, rfl⟩
  split
  · rfl
  · rename_i hn
    have hs : size8 l = bdN (l.getD 0 0) := by unfold size8; rw [if_neg hn]
    unfold valF8
    rw [e0, List.drop_take, List.take_take, Nat.min_eq_left (by omega)]
theorem first16_take (o : Int) (l : List Int) (m : Nat) (h0 : 0 < l.length) (hz : size16 o l ≤ m) : atom16 o (l.take m) = atom16 o l ∧ size16 o (l.take m) = size16 o l := by
  have hm : (l.take m).length = min m l.length := List.length_take
  by_cases h1 : l.length = 1
  · have hs : size16 o l = 1 := by unfold size16; rw [if_pos h1]
    rw [List.take_of_length_le (by omega)]
    exact ⟨rfl, rfl⟩
  · have hu : 2 ≤ m → unitF o (l.take m) = unitF o l := fun h => by unfold unitF; rw [take_getD l m 0 (by omega), take_getD l m 1 (by omega)]
    have hu2 : 4 ≤ m → unitF o ((l.take m).drop 2) = unitF o (l.drop 2) := fun h => by
      unfold unitF
      rw [List.drop_take, take_getD _ _ 0 (by omega), take_getD _ _ 1 (by omega)]
    cases hp : pairF o l
    · have hs : size16 o l = 2 := by unfold size16; rw [if_neg h1, hp]; rfl
      have hp2 : pairF o (l.take m) = false := by
        unfold pairF at hp ⊢
        rw [hu (by omega)]
        by_cases h4 : 4 ≤ m
        · rw [hu2 h4, hm]
          rw [Bool.eq_false_iff] at hp ⊢
          intro hx
          apply hp
          simp only [Bool.and_eq_true, decide_eq_true_eq] at hx ⊢
          exact ⟨⟨hx.1.1, by omega⟩, hx.2⟩
        · rw [hm, show decide (4 ≤ min m l.length) = false from by rw [decide_eq_false_iff_not]; omega]
          simp
      unfold atom16 size16
      have hmm : ¬ min m l.length = 1 := by omega
      simp [hm, hmm, h1, hp, hp2, hu (by omega)]
    · have hs : size16 o l = 4 := by unfold size16; rw [if_neg h1, hp]; rfl
      have hp2 : pairF o (l.take m) = true := by
        unfold pairF at hp ⊢
        rw [hu (by omega), hu2 (by omega), hm]
        simp only [Bool.and_eq_true, decide_eq_true_eq] at hp ⊢
        exact ⟨⟨hp.1.1, by omega⟩, hp.2⟩
      have hl : 4 ≤ l.length := by
        unfold pairF at hp
        simp only [Bool.and_eq_true, decide_eq_true_eq] at hp
        exact hp.1.2
      unfold atom16 size16
      have hmm : ¬ min m l.length = 1 := by omega
      have hu3 := hu2 (by omega)
      simp only [hm, hmm, h1, hp, hp2, hu (show 2 ≤ m by omega), hu3, if_false, if_true]
      exact ⟨trivial, trivial⟩
theorem at_take (enc : Int) (l : List Int) (m : Nat) (h0 : 0 < l.length) (hz : sizeAt enc l ≤ m) : atomAt enc (l.take m) = atomAt enc l ∧ sizeAt enc (l.take m) = sizeAt enc l := by
  unfold sizeAt at hz
  unfold atomAt sizeAt
  by_cases h1 : enc = 1
  · simp only [if_pos h1] at hz ⊢; exact first8_take l m h0 hz
  · simp only [if_neg h1] at hz ⊢
    by_cases h2 : enc = 2
    · simp only [if_pos h2] at hz ⊢; exact first16_take 0 l m h0 hz
    · simp only [if_neg h2] at hz ⊢
      by_cases h3 : enc = 3
      · simp only [if_pos h3] at hz ⊢; exact first16_take 1 l m h0 hz
      · simp only [if_neg h3] at hz ⊢
        exact ⟨take_getD l m 0 (by omega), trivial⟩
/-- the bytes of the first n atoms -/
def szs (enc : Int) (l : List Int) (n : Nat) : Int := (((dec enc l).take n).map Prod.snd).sum
theorem szs_zero (enc : Int) (l : List Int) : szs enc l 0 = 0 := rfl
theorem szs_succ (enc : Int) (l : List Int) (n : Nat) (h : 0 < l.length) : szs enc l (n + 1) = sizeAt enc l + szs enc (l.drop (sizeAt enc l).toNat) n := by
  unfold szs
  rw [dec_cons enc l h]
  simp
theorem szs_nil (enc : Int) (n : Nat) : szs enc [] n = 0 := by unfold szs; rw [dec_nil]; simp
theorem szs_bd (enc : Int) (n : Nat) : ∀ l : List Int, 0 ≤ szs enc l n ∧ szs enc l n ≤ l.length := by
  induction n with
  | zero => intro l; rw [szs_zero]; omega
  | succ n ih =>
    intro l
    by_cases h : 0 < l.length
    · rw [szs_succ enc l n h]
      have h1 := ih (l.drop (sizeAt enc l).toNat)
      have h2 := sizeAt_bd enc l h
      rw [List.length_drop] at h1
      omega
    · rw [List.eq_nil_of_length_eq_zero (show l.length = 0 by omega), szs_nil]; simp
theorem dec_take (enc : Int) (n : Nat) : ∀ l : List Int, dec enc (l.take (szs enc l n).toNat) = (dec enc l).take n := by
  induction n with
  | zero => intro l; rw [szs_zero]; simp [dec_nil]
  | succ n ih =>
    intro l
    by_cases h : 0 < l.length
    · have h2 := sizeAt_bd enc l h
      have hb := szs_bd enc n (l.drop (sizeAt enc l).toNat)
      rw [List.length_drop] at hb
      have ht := at_take enc l (szs enc l (n + 1)).toNat h (by rw [szs_succ enc l n h]; omega)
      rw [szs_succ enc l n h] at ht ⊢
      rw [dec_cons enc l h, List.take_succ_cons, dec_cons enc (l.take _) (by rw [List.length_take]; omega), ht.1, ht.2, List.drop_take,
        show (sizeAt enc l + szs enc (l.drop (sizeAt enc l).toNat) n).toNat - (sizeAt enc l).toNat = (szs enc (l.drop (sizeAt enc l).toNat) n).toNat by omega, ih]
    · rw [List.eq_nil_of_length_eq_zero (show l.length = 0 by omega), szs_nil]; simp [dec_nil]
theorem dec_drop (enc : Int) (n : Nat) : ∀ l : List Int, dec enc (l.drop (szs enc l n).toNat) = (dec enc l).drop n := by
  induction n with
  | zero => intro l; rw [szs_zero]; simp
  | succ n ih =>
    intro l
    by_cases h : 0 < l.length
    · have h2 := sizeAt_bd enc l h
      have hb := szs_bd enc n (l.drop (sizeAt enc l).toNat)
      rw [szs_succ enc l n h, dec_cons enc l h, List.drop_succ_cons, ← ih, List.drop_drop]
      congr 2
      omega
    · rw [List.eq_nil_of_length_eq_zero (show l.length = 0 by omega), szs_nil]; simp [dec_nil]
end Go.Proofs.YtcdhfmkfkhhnoaaGreat
