/-
  The document's decoder (package copyistref1), in plain words: it answers as the program's.
-/
import Derived.Test.YteekabaoocaghaaGreatLCodec4
set_option linter.unusedSimpArgs false
set_option linter.unusedVariables false
namespace Go.Proofs.YteekabaoocaghaaGreat
open Go.RowKit

/-- the number that n bytes would be, were they the row of a scalar -/
def meantF (l : List Int) (n : Nat) : Int :=
  if n = 1 then l.getD 0 0 else if n = 2 then (l.getD 0 0 - 192) * 64 + l.getD 1 0 - 128 else if n = 3 then ((l.getD 0 0 - 224) * 64 + l.getD 1 0 - 128) * 64 + l.getD 2 0 - 128
  else (((l.getD 0 0 - 240) * 64 + l.getD 1 0 - 128) * 64 + l.getD 2 0 - 128) * 64 + l.getD 3 0 - 128
def scalarF (a : Int) : Bool := decide (0 ≤ a ∧ a < 55296) || decide (57343 < a ∧ a ≤ 1114111)
/-- the bytes of a scalar in UTF-8 -/
def eightL (a : Int) : List Int :=
  if a < 128 then [a] else if a < 2048 then [192 + a / 64, 128 + a % 64] else if a < 65536 then [224 + a / 4096, 128 + a / 64 % 64, 128 + a % 64] else [240 + a / 262144, 128 + a / 4096 % 64, 128 + a / 64 % 64, 128 + a % 64]
/-- do n bytes at the list's head make a scalar? -/
def okR (l : List Int) (n : Nat) : Bool := decide (n ≤ l.length) && scalarF (meantF l n) && (eightL (meantF l n) == l.take n)
def ref8 (l : List Int) : Int × Int := if okR l 1 = true then (meantF l 1, 1) else if okR l 2 = true then (meantF l 2, 2) else if okR l 3 = true then (meantF l 3, 3) else if okR l 4 = true then (meantF l 4, 4) else (-1 - l.getD 0 0, 1)
theorem okR1 {l : List Int} (hb : Byt l) (h0 : 0 < l.length) : okR l 1 = decide (l.getD 0 0 < 128) := by
  obtain ⟨x0, r, rfl⟩ : ∃ x r, l = x :: r := by cases l with | nil => simp at h0 | cons x r => exact ⟨x, r, rfl⟩
  have b0 := hb x0 (by simp)
  rw [Bool.eq_iff_iff]
  simp only [okR, meantF, scalarF, eightL, List.getD_cons_zero, Bool.and_eq_true, Bool.or_eq_true, decide_eq_true_eq, beq_iff_eq, List.length_cons, if_pos]
  constructor
  · rintro ⟨⟨_, h1⟩, h2⟩
    split at h2
    · assumption
    · exfalso
      (repeat' split at h2) <;> simp at h2
  · intro h
    rw [if_pos h]
    exact ⟨⟨by omega, by omega⟩, by simp⟩
theorem okR2 {l : List Int} (hb : Byt l) : okR l 2 = decide (2 ≤ l.length ∧ 194 ≤ l.getD 0 0 ∧ l.getD 0 0 < 224 ∧ 128 ≤ l.getD 1 0 ∧ l.getD 1 0 < 192) := by
  rcases Nat.lt_or_ge l.length 2 with h | h
  · rw [Bool.eq_iff_iff]
    simp only [okR, Bool.and_eq_true, decide_eq_true_eq]
    exact ⟨fun hh => absurd hh.1.1 (by omega), fun hh => absurd hh.1 (by omega)⟩
  obtain ⟨x0, x1, r, rfl⟩ : ∃ x y r, l = x :: y :: r := by
    match l, h with
    | x :: y :: r, _ => exact ⟨x, y, r, rfl⟩
  have b0 := hb x0 (by simp)
  have b1 := hb x1 (by simp)
  rw [Bool.eq_iff_iff]
  simp only [okR, meantF, scalarF, eightL, List.getD_cons_zero, List.getD_cons_succ, Bool.and_eq_true, Bool.or_eq_true, decide_eq_true_eq, beq_iff_eq, List.length_cons, List.take_succ_cons, List.take_zero]
  simp only [show (2 : Nat) = 1 ↔ False by decide, if_false, if_true]
  constructor
  · rintro ⟨⟨_, h1⟩, h2⟩
    (repeat' split at h2) <;> simp at h2
    omega
  · rintro ⟨h1, h2, h3, h4, h5⟩
    rw [if_neg (by omega), if_pos (by omega)]
    refine ⟨⟨by omega, by omega⟩, ?_⟩
    simp
    omega
theorem okR3 {l : List Int} (hb : Byt l) : okR l 3 = decide (3 ≤ l.length ∧ 224 ≤ l.getD 0 0 ∧ l.getD 0 0 < 240 ∧ 128 ≤ l.getD 1 0 ∧ l.getD 1 0 < 192 ∧ (l.getD 0 0 = 224 → 160 ≤ l.getD 1 0) ∧ (l.getD 0 0 = 237 → l.getD 1 0 < 160) ∧ 128 ≤ l.getD 2 0 ∧ l.getD 2 0 < 192) := by
  rcases Nat.lt_or_ge l.length 3 with h | h
  · rw [Bool.eq_iff_iff]
    simp only [okR, Bool.and_eq_true, decide_eq_true_eq]
    exact ⟨fun hh => absurd hh.1.1 (by omega), fun hh => absurd hh.1 (by omega)⟩
  obtain ⟨x0, x1, x2, r, rfl⟩ : ∃ x y z r, l = x :: y :: z :: r := by
    match l, h with
    | x :: y :: z :: r, _ => exact ⟨x, y, z, r, rfl⟩
  have b0 := hb x0 (by simp)
  have b1 := hb x1 (by simp)
  have b2 := hb x2 (by simp)
  rw [Bool.eq_iff_iff]
  simp only [okR, meantF, scalarF, eightL, List.getD_cons_zero, List.getD_cons_succ, Bool.and_eq_true, Bool.or_eq_true, decide_eq_true_eq, beq_iff_eq, List.length_cons, List.take_succ_cons, List.take_zero]
  simp only [show (3 : Nat) = 1 ↔ False by decide, show (3 : Nat) = 2 ↔ False by decide, if_false, if_true]
  constructor
  · rintro ⟨⟨_, h1⟩, h2⟩
    (repeat' split at h2) <;> simp at h2
    omega
  · rintro ⟨h1, h2, h3, h4, h5, h6, h7, h8, h9⟩
    rw [if_neg (by omega), if_neg (by omega), if_pos (by omega)]
    refine ⟨⟨by omega, by omega⟩, ?_⟩
    simp
    omega
theorem okR4 {l : List Int} (hb : Byt l) : okR l 4 = decide (4 ≤ l.length ∧ 240 ≤ l.getD 0 0 ∧ l.getD 0 0 ≤ 244 ∧ 128 ≤ l.getD 1 0 ∧ l.getD 1 0 < 192 ∧ (l.getD 0 0 = 240 → 144 ≤ l.getD 1 0) ∧ (l.getD 0 0 = 244 → l.getD 1 0 < 144) ∧ 128 ≤ l.getD 2 0 ∧ l.getD 2 0 < 192 ∧ 128 ≤ l.getD 3 0 ∧ l.getD 3 0 < 192) := by
  rcases Nat.lt_or_ge l.length 4 with h | h
  · rw [Bool.eq_iff_iff]
    simp only [okR, Bool.and_eq_true, decide_eq_true_eq]
    exact ⟨fun hh => absurd hh.1.1 (by omega), fun hh => absurd hh.1 (by omega)⟩
  obtain ⟨x0, x1, x2, x3, r, rfl⟩ : ∃ x y z u r, l = x :: y :: z :: u :: r := by
    match l, h with
    | x :: y :: z :: u :: r, _ => exact ⟨x, y, z, u, r, rfl⟩
  have b0 := hb x0 (by simp)
  have b1 := hb x1 (by simp)
  have b2 := hb x2 (by simp)
  have b3 := hb x3 (by simp)
  rw [Bool.eq_iff_iff]
  simp only [okR, meantF, scalarF, eightL, List.getD_cons_zero, List.getD_cons_succ, Bool.and_eq_true, Bool.or_eq_true, decide_eq_true_eq, beq_iff_eq, List.length_cons, List.take_succ_cons, List.take_zero]
  simp only [show (4 : Nat) = 1 ↔ False by decide, show (4 : Nat) = 2 ↔ False by decide, show (4 : Nat) = 3 ↔ False by decide, if_false]
  constructor
  · rintro ⟨⟨_, h1⟩, h2⟩
    (repeat' split at h2) <;> simp at h2
    omega
  · rintro ⟨h1, h2, h3, h4, h5, h6, h7, h8, h9, h10, h11⟩
    rw [if_neg (by omega), if_neg (by omega), if_neg (by omega)]
    refine ⟨⟨by omega, by omega⟩, ?_⟩
    simp
    omega
theorem contF_one (l : List Int) : contF 1 l = if 1 ≤ l.length ∧ 128 ≤ l.getD 0 0 ∧ l.getD 0 0 < 192 then 1 else 0 := by
  cases l with
  | nil => simp [contF]
  | cons c r => simp [contF]
theorem contF_two (l : List Int) : contF 2 l = if 2 ≤ l.length ∧ 128 ≤ l.getD 0 0 ∧ l.getD 0 0 < 192 ∧ 128 ≤ l.getD 1 0 ∧ l.getD 1 0 < 192 then 2 else if 1 ≤ l.length ∧ 128 ≤ l.getD 0 0 ∧ l.getD 0 0 < 192 then 1 else 0 := by
  match l with
  | [] => simp [contF]
  | [c] =>
    simp only [contF]
    split <;> simp_all
  | c :: d :: r =>
    simp only [contF, List.getD_cons_zero, List.getD_cons_succ, List.length_cons]
    by_cases h1 : 128 ≤ c ∧ c < 192 <;> by_cases h2 : 128 ≤ d ∧ d < 192
    · rw [if_pos h1, if_pos h2, if_pos ⟨by omega, by omega, by omega, by omega, by omega⟩]
    · rw [if_pos h1, if_neg h2, if_neg (by omega), if_pos ⟨by omega, by omega, by omega⟩]
    · rw [if_neg h1, if_neg (by omega), if_neg (by omega)]
    · rw [if_neg h1, if_neg (by omega), if_neg (by omega)]
theorem getD_drop' (l : List Int) (n k : Nat) : (l.drop n).getD k 0 = l.getD (n + k) 0 := by
  rw [List.getD_eq_getElem?_getD, List.getElem?_drop, List.getD_eq_getElem?_getD]
theorem ref8_eq {l : List Int} (hb : Byt l) (h0 : 0 < l.length) : ref8 l = (atom8 l, size8 l) := by
  have b0 := hb.at_ 0
  have b1 := hb.at_ 1
  have b2 := hb.at_ 2
  have b3 := hb.at_ 3
  have hv1 : bdN (l.getD 0 0) = 1 → valF8 l = l.getD 0 0 := fun h => by
    unfold valF8 leadF
    rw [h]
    simp
  have hv2 : bdN (l.getD 0 0) = 2 → 2 ≤ l.length → valF8 l = l.getD 0 0 % 32 * 64 + l.getD 1 0 % 64 := fun h hl => by
    unfold valF8 leadF
    rw [h, drop_getD' l 1 (by omega)]
    simp [goOn]
  have hv3 : bdN (l.getD 0 0) = 3 → 3 ≤ l.length → valF8 l = (l.getD 0 0 % 16 * 64 + l.getD 1 0 % 64) * 64 + l.getD 2 0 % 64 := fun h hl => by
    unfold valF8 leadF
    rw [h, drop_getD' l 1 (by omega), drop_getD' l 2 (by omega)]
    simp [goOn]
  have hv4 : bdN (l.getD 0 0) = 4 → 4 ≤ l.length → valF8 l = ((l.getD 0 0 % 8 * 64 + l.getD 1 0 % 64) * 64 + l.getD 2 0 % 64) * 64 + l.getD 3 0 % 64 := fun h hl => by
    unfold valF8 leadF
    rw [h, drop_getD' l 1 (by omega), drop_getD' l 2 (by omega), drop_getD' l 3 (by omega)]
    simp [goOn]
  have c1 := contF_one (l.drop 2)
  have c2 := contF_two (l.drop 2)
  rw [getD_drop'] at c1 c2
  rw [getD_drop', List.length_drop] at c2
  rw [List.length_drop] at c1
  simp only [Nat.add_zero] at c1 c2
  have k1 := okR1 hb h0
  have k2 := okR2 hb
  have k3 := okR3 hb
  have k4 := okR4 hb
  have m1 : meantF l 1 = l.getD 0 0 := rfl
  have m2 : meantF l 2 = (l.getD 0 0 - 192) * 64 + l.getD 1 0 - 128 := rfl
  have m3 : meantF l 3 = ((l.getD 0 0 - 224) * 64 + l.getD 1 0 - 128) * 64 + l.getD 2 0 - 128 := rfl
  have m4 : meantF l 4 = (((l.getD 0 0 - 240) * 64 + l.getD 1 0 - 128) * 64 + l.getD 2 0 - 128) * 64 + l.getD 3 0 - 128 := rfl
  unfold ref8 atom8 size8 rawF rowHave
  rw [k1, k2, k3, k4, m1, m2, m3, m4]
  clear m1 m2 m3 m4 k1 k2 k3 k4
  generalize valF8 l = V at *
  generalize hD1 : contF 1 (l.drop 2) = D1 at *
  generalize hD2 : contF 2 (l.drop 2) = D2 at *
  generalize l.getD 0 0 = x0 at *
  generalize l.getD 1 0 = x1 at *
  generalize l.getD (2 + 1) 0 = x3 at *
  generalize l.getD 2 0 = x2 at *
  generalize l.length = n at *
  simp only [decide_eq_true_eq]
  rcases Int.lt_or_le x0 128 with h1 | h1
  · have e : bdN x0 = 1 := by unfold bdN; (repeat' split) <;> omega
    rw [e, if_pos h1, hv1 e]
    simp
  · rcases Int.lt_or_le x0 194 with h2 | h2
    · have e : bdN x0 = 0 := by unfold bdN; (repeat' split) <;> omega
      rw [e, if_neg (by omega), if_neg (by omega), if_neg (by omega), if_neg (by omega)]
      simp
    · rcases Int.lt_or_le x0 224 with h3 | h3
      · have e : bdN x0 = 2 := by unfold bdN; (repeat' split) <;> omega
        have elo : bdLo x0 = 128 := by unfold bdLo; (repeat' split) <;> omega
        have ehi : bdHi x0 = 191 := by unfold bdHi; (repeat' split) <;> omega
        rw [e, elo, ehi, if_neg (show ¬ x0 < 128 by omega)]
        by_cases hc : 2 ≤ n ∧ 128 ≤ x1 ∧ x1 < 192
        · rw [if_pos ⟨hc.1, h2, h3, hc.2⟩, hv2 e hc.1]
          rw [if_neg (show ¬ ((2 : Int) < 2) by omega), if_neg (show ¬ (n < 2 ∨ x1 < 128 ∨ 191 < x1) by omega)]
          simp [contF]
          omega
        · rw [if_neg (by omega), if_neg (by omega), if_neg (by omega)]
          rw [if_neg (show ¬ ((2 : Int) < 2) by omega), if_pos (show (n < 2 ∨ x1 < 128 ∨ 191 < x1) by omega)]
          simp
      · rcases Int.lt_or_le x0 240 with h4 | h4
        · have e : bdN x0 = 3 := by unfold bdN; (repeat' split) <;> omega
          have hlo : (x0 = 224 ∧ bdLo x0 = 160) ∨ (x0 ≠ 224 ∧ bdLo x0 = 128) := by unfold bdLo; (repeat' split) <;> omega
          have hhi : (x0 = 237 ∧ bdHi x0 = 159) ∨ (x0 ≠ 237 ∧ bdHi x0 = 191) := by unfold bdHi; (repeat' split) <;> omega
          generalize bdLo x0 = lo at *
          generalize bdHi x0 = hi at *
          have hd : ((3 : Int) - 2).toNat = 1 := by decide
          rw [e, hd, hD1, if_neg (show ¬ x0 < 128 by omega), if_neg (show ¬ (2 ≤ n ∧ 194 ≤ x0 ∧ x0 < 224 ∧ 128 ≤ x1 ∧ x1 < 192) by omega)]
          by_cases hc : 3 ≤ n ∧ 224 ≤ x0 ∧ x0 < 240 ∧ 128 ≤ x1 ∧ x1 < 192 ∧ (x0 = 224 → 160 ≤ x1) ∧ (x0 = 237 → x1 < 160) ∧ 128 ≤ x2 ∧ x2 < 192
          · rw [if_pos hc, hv3 e hc.1]
            have hP : ¬ (n < 2 ∨ x1 < lo ∨ hi < x1) := by omega
            rw [if_neg (show ¬ ((3 : Int) < 2) by omega), if_neg hP]
            rw [if_pos (by omega)] at c1
            rw [c1, if_neg (by simp)]
            simp
            omega
          · rw [if_neg hc, if_neg (by omega)]
            have hraw : (if (3 : Int) < 2 then 3 else if n < 2 ∨ x1 < lo ∨ hi < x1 then 1 else 2 + (D1 : Int)) < 3 := by
              rw [if_neg (by omega)]
              by_cases hP : n < 2 ∨ x1 < lo ∨ hi < x1
              · rw [if_pos hP]; omega
              · rw [if_neg hP, c1, if_neg (by omega)]
                omega
            rw [if_pos (Or.inr hraw), if_pos (Or.inr hraw)]
        · rcases Int.lt_or_le 244 x0 with h5 | h5
          · have e : bdN x0 = 0 := by unfold bdN; (repeat' split) <;> omega
            rw [e, if_neg (by omega), if_neg (by omega), if_neg (by omega), if_neg (by omega)]
            simp
          · have e : bdN x0 = 4 := by unfold bdN; (repeat' split) <;> omega
            have hlo : (x0 = 240 ∧ bdLo x0 = 144) ∨ (x0 ≠ 240 ∧ bdLo x0 = 128) := by unfold bdLo; (repeat' split) <;> omega
            have hhi : (x0 = 244 ∧ bdHi x0 = 143) ∨ (x0 ≠ 244 ∧ bdHi x0 = 191) := by unfold bdHi; (repeat' split) <;> omega
            generalize bdLo x0 = lo at *
            generalize bdHi x0 = hi at *
            have hd : ((4 : Int) - 2).toNat = 2 := by decide
            rw [e, hd, hD2, if_neg (show ¬ x0 < 128 by omega), if_neg (show ¬ (2 ≤ n ∧ 194 ≤ x0 ∧ x0 < 224 ∧ 128 ≤ x1 ∧ x1 < 192) by omega), if_neg (show ¬ (3 ≤ n ∧ 224 ≤ x0 ∧ x0 < 240 ∧ 128 ≤ x1 ∧ x1 < 192 ∧ (x0 = 224 → 160 ≤ x1) ∧ (x0 = 237 → x1 < 160) ∧ 128 ≤ x2 ∧ x2 < 192) by omega)]
            by_cases hc : 4 ≤ n ∧ 240 ≤ x0 ∧ x0 ≤ 244 ∧ 128 ≤ x1 ∧ x1 < 192 ∧ (x0 = 240 → 144 ≤ x1) ∧ (x0 = 244 → x1 < 144) ∧ 128 ≤ x2 ∧ x2 < 192 ∧ 128 ≤ x3 ∧ x3 < 192
            · rw [if_pos hc, hv4 e hc.1]
              have hP : ¬ (n < 2 ∨ x1 < lo ∨ hi < x1) := by omega
              rw [if_neg (show ¬ ((4 : Int) < 2) by omega), if_neg hP]
              rw [if_pos (by omega)] at c2
              rw [c2, if_neg (by simp)]
              simp
              omega
            · rw [if_neg hc]
              have hraw : (if (4 : Int) < 2 then 4 else if n < 2 ∨ x1 < lo ∨ hi < x1 then 1 else 2 + (D2 : Int)) < 4 := by
                rw [if_neg (by omega)]
                by_cases hP : n < 2 ∨ x1 < lo ∨ hi < x1
                · rw [if_pos hP]; omega
                · rw [if_neg hP, c2, if_neg (by omega)]
                  split <;> omega
              rw [if_pos (Or.inr hraw), if_pos (Or.inr hraw)]
/-- the unit at the head; -1: there are not two bytes -/
def ref16u (o : Int) (l : List Int) : Int := if l.length < 2 then -1 else unitF o l
def ref16 (o : Int) (l : List Int) : Int × Int :=
  if ref16u o l < 0 then (-1 - l.getD 0 0, 1)
  else if 55296 ≤ ref16u o l ∧ ref16u o l < 56320 ∧ 56320 ≤ ref16u o (l.drop 2) ∧ ref16u o (l.drop 2) < 57344 then (65536 + (ref16u o l - 55296) * 1024 + ref16u o (l.drop 2) - 56320, 4) else (ref16u o l, 2)
theorem ref16_eq (o : Int) {l : List Int} (hb : Byt l) (h0 : 0 < l.length) : ref16 o l = (atom16 o l, size16 o l) := by
  have b1 := unitF_bd o l hb
  have b2 := unitF_bd o (l.drop 2) (hb.drop 2)
  unfold ref16 atom16 size16
  by_cases h1 : l.length = 1
  · have e : ref16u o l = -1 := by unfold ref16u; rw [if_pos (by omega)]
    rw [e, if_pos (by omega), if_pos h1, if_pos h1]
  · have e : ref16u o l = unitF o l := by unfold ref16u; rw [if_neg (by omega)]
    rw [e, if_neg (by omega), if_neg h1, if_neg h1]
    have hp : pairF o l = decide (55296 ≤ unitF o l ∧ unitF o l < 56320 ∧ 56320 ≤ ref16u o (l.drop 2) ∧ ref16u o (l.drop 2) < 57344) := by
      unfold pairF ref16u highF lowF
      rw [List.length_drop, Bool.eq_iff_iff]
      simp only [Bool.and_eq_true, decide_eq_true_eq]
      by_cases h4 : l.length - 2 < 2
      · rw [if_pos h4]
        omega
      · rw [if_neg h4]
        omega
    rw [hp]
    simp only [decide_eq_true_eq]
    split
    · rename_i hh
      have e2 : ref16u o (l.drop 2) = unitF o (l.drop 2) := by
        unfold ref16u at hh ⊢
        split
        · rename_i h3
          rw [if_pos h3] at hh
          omega
        · rfl
      rw [e2] at hh ⊢
      refine Prod.ext ?_ rfl
      dsimp only
      omega
    · rfl
/-- the document's answer: the atom at the head, and its bytes -/
def refAt (enc : Int) (l : List Int) : Int × Int := if enc = 1 then ref8 l else if enc = 4 then (l.getD 0 0, 1) else if enc = 2 then ref16 0 l else ref16 1 l
theorem refAt_eq {enc : Int} (he : enc = 1 ∨ enc = 2 ∨ enc = 3 ∨ enc = 4) {l : List Int} (hb : Byt l) (h0 : 0 < l.length) : refAt enc l = (atomAt enc l, sizeAt enc l) := by
  unfold refAt atomAt sizeAt
  rcases he with rfl | rfl | rfl | rfl
  · exact ref8_eq hb h0
  · exact ref16_eq 0 hb h0
  · exact ref16_eq 1 hb h0
  · rfl
end Go.Proofs.YteekabaoocaghaaGreat
