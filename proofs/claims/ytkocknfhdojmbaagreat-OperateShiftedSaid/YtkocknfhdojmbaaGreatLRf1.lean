/-
  The walks of the document's decoder (package copyistref1), first part: Scalar, eight, begins, meant.
-/
import Derived.Test.YtkocknfhdojmbaaGreatLCodec4
import Derived.Test.YtkocknfhdojmbaaGreatLTree
import Derived.IntWalk
set_option linter.unusedSimpArgs false
set_option linter.unusedVariables false
set_option maxRecDepth 100000
set_option maxHeartbeats 32000000
namespace Go.Proofs.YtkocknfhdojmbaaGreat
open Go.RowKit
def meantF (l : List Int) (n : Nat) : Int :=
 if n = 1 then l.getD 0 0 else if n = 2 then (l.getD 0 0 - 192) * 64 + l.getD 1 0 - 128 else if n = 3 then ((l.getD 0 0 - 224) * 64 + l.getD 1 0 - 128) * 64 + l.getD 2 0 - 128
 else (((l.getD 0 0 - 240) * 64 + l.getD 1 0 - 128) * 64 + l.getD 2 0 - 128) * 64 + l.getD 3 0 - 128
def scalarF (a : Int) : Bool := decide (0 <= a /\ a < 55296) || decide (57343 < a /\ a <= 1114111)
def eightL (a : Int) : List Int :=
 if a < 128 then [a] else if a < 2048 then [192 + a / 64, 128 + a % 64] else if a < 65536 then [224 + a / 4096, 128 + a / 64 % 64, 128 + a % 64] else [240 + a / 262144, 128 + a / 4096 % 64, 128 + a / 64 % 64, 128 + a % 64]
def okR (l : List Int) (n : Nat) : Bool := decide (n <= l.length) && scalarF (meantF l n) && (eightL (meantF l n) == l.take n)
def ref8 (l : List Int) : Int × Int := if okR l 1 = true then (meantF l 1, 1) else if okR l 2 = true then (meantF l 2, 2) else if okR l 3 = true then (meantF l 3, 3) else if okR l 4 = true then (meantF l 4, 4) else (-1 - l.getD 0 0, 1)
theorem okR1 {l : List Int} (hb : Byt l) (h0 : 0 < l.length) : okR l 1 = decide (l.getD 0 0 < 128) := by
 obtain ⟨x0, r, rfl⟩ : ∃ x r, l = x :: r := by cases l with | nil => simp at h0 | cons x r => exact ⟨x, r, rfl⟩
 have b0 := hb x0 (by simp)
 rw [Bool.eq_iff_iff]
 simp only [okR, meantF, scalarF, eightL, List.getD_cons_zero, Bool.and_eq_true, Bool.or_eq_true, decide_eq_true_eq, beq_iff_eq, List.length_cons, if_pos]
 constructor
 ·rintro ⟨⟨_, h1⟩, h2⟩
  split at h2
  ·assumption
  ·exfalso
   (repeat' split at h2) <;> simp at h2
 ·intro h
  rw [if_pos h]
  exact ⟨⟨by omega, by omega⟩, by simp⟩
theorem okR2 {l : List Int} (hb : Byt l) : okR l 2 = decide (2 <= l.length /\ 194 <= l.getD 0 0 /\ l.getD 0 0 < 224 /\ 128 <= l.getD 1 0 /\ l.getD 1 0 < 192) := by
 rcases Nat.lt_or_ge l.length 2 with h | h
 ·rw [Bool.eq_iff_iff]
  simp only [okR, Bool.and_eq_true, decide_eq_true_eq]
  exact ⟨fun hh => absurd hh.1.1 (by omega), fun hh => absurd hh.1 (by omega)⟩
 obtain ⟨x0, x1, r, rfl⟩ : ∃ x y r, l = x :: y :: r := by
  match l, h with
  | x :: y :: r, _ => exact ⟨x, y, r, rfl⟩
 have b0 := hb x0 (by simp)
 have b1 := hb x1 (by simp)
 rw [Bool.eq_iff_iff]
 simp only [okR, meantF, scalarF, eightL, List.getD_cons_zero, List.getD_cons_succ, Bool.and_eq_true, Bool.or_eq_true, decide_eq_true_eq, beq_iff_eq, List.length_cons, List.take_succ_cons, List.take_zero]
 simp only [show (2 : Nat) = 1 ↔ False by decide, if_false, if_true]
 constructor
 ·rintro ⟨⟨_, h1⟩, h2⟩
  (repeat' split at h2) <;> simp at h2
  omega
 ·rintro ⟨h1, h2, h3, h4, h5⟩
  rw [if_neg (by omega), if_pos (by omega)]
  refine ⟨⟨by omega, by omega⟩, ?_⟩
  simp
  omega
theorem okR3 {l : List Int} (hb : Byt l) : okR l 3 = decide (3 <= l.length /\ 224 <= l.getD 0 0 /\ l.getD 0 0 < 240 /\ 128 <= l.getD 1 0 /\ l.getD 1 0 < 192 /\ (l.getD 0 0 = 224 -> 160 <= l.getD 1 0) /\ (l.getD 0 0 = 237 -> l.getD 1 0 < 160) /\ 128 <= l.getD 2 0 /\ l.getD 2 0 < 192) := by
 rcases Nat.lt_or_ge l.length 3 with h | h
 ·rw [Bool.eq_iff_iff]
  simp only [okR, Bool.and_eq_true, decide_eq_true_eq]
  exact ⟨fun hh => absurd hh.1.1 (by omega), fun hh => absurd hh.1 (by omega)⟩
 obtain ⟨x0, x1, x2, r, rfl⟩ : ∃ x y z r, l = x :: y :: z :: r := by
  match l, h with
  | x :: y :: z :: r, _ => exact ⟨x, y, z, r, rfl⟩
 have b0 := hb x0 (by simp)
 have b1 := hb x1 (by simp)
 have b2 := hb x2 (by simp)
 rw [Bool.eq_iff_iff]
 simp only [okR, meantF, scalarF, eightL, List.getD_cons_zero, List.getD_cons_succ, Bool.and_eq_true, Bool.or_eq_true, decide_eq_true_eq, beq_iff_eq, List.length_cons, List.take_succ_cons, List.take_zero]
 simp only [show (3 : Nat) = 1 ↔ False by decide, show (3 : Nat) = 2 ↔ False by decide, if_false, if_true]
 constructor
 ·rintro ⟨⟨_, h1⟩, h2⟩
  (repeat' split at h2) <;> simp at h2
  omega
 ·rintro ⟨h1, h2, h3, h4, h5, h6, h7, h8, h9⟩
  rw [if_neg (by omega), if_neg (by omega), if_pos (by omega)]
  refine ⟨⟨by omega, by omega⟩, ?_⟩
  simp
  omega
theorem okR4 {l : List Int} (hb : Byt l) : okR l 4 = decide (4 <= l.length /\ 240 <= l.getD 0 0 /\ l.getD 0 0 <= 244 /\ 128 <= l.getD 1 0 /\ l.getD 1 0 < 192 /\ (l.getD 0 0 = 240 -> 144 <= l.getD 1 0) /\ (l.getD 0 0 = 244 -> l.getD 1 0 < 144) /\ 128 <= l.getD 2 0 /\ l.getD 2 0 < 192 /\ 128 <= l.getD 3 0 /\ l.getD 3 0 < 192) := by
 rcases Nat.lt_or_ge l.length 4 with h | h
 ·rw [Bool.eq_iff_iff]
  simp only [okR, Bool.and_eq_true, decide_eq_true_eq]
  exact ⟨fun hh => absurd hh.1.1 (by omega), fun hh => absurd hh.1 (by omega)⟩
 obtain ⟨x0, x1, x2, x3, r, rfl⟩ : ∃ x y z u r, l = x :: y :: z :: u :: r := by
  match l, h with
  | x :: y :: z :: u :: r, _ => exact ⟨x, y, z, u, r, rfl⟩
 have b0 := hb x0 (by simp)
 have b1 := hb x1 (by simp)
 have b2 := hb x2 (by simp)
 have b3 := hb x3 (by simp)
 rw [Bool.eq_iff_iff]
 simp only [okR, meantF, scalarF, eightL, List.getD_cons_zero, List.getD_cons_succ, Bool.and_eq_true, Bool.or_eq_true, decide_eq_true_eq, beq_iff_eq, List.length_cons, List.take_succ_cons, List.take_zero]
 simp only [show (4 : Nat) = 1 ↔ False by decide, show (4 : Nat) = 2 ↔ False by decide, show (4 : Nat) = 3 ↔ False by decide, if_false]
 constructor
 ·rintro ⟨⟨_, h1⟩, h2⟩
  (repeat' split at h2) <;> simp at h2
  omega
 ·rintro ⟨h1, h2, h3, h4, h5, h6, h7, h8, h9, h10, h11⟩
  rw [if_neg (by omega), if_neg (by omega), if_neg (by omega)]
  refine ⟨⟨by omega, by omega⟩, ?_⟩
  simp
  omega
theorem contF_one (l : List Int) : contF 1 l = if 1 <= l.length /\ 128 <= l.getD 0 0 /\ l.getD 0 0 < 192 then 1 else 0 := by
 cases l with
 | nil => simp [contF]
 | cons c r => simp [contF]
theorem contF_two (l : List Int) : contF 2 l = if 2 <= l.length /\ 128 <= l.getD 0 0 /\ l.getD 0 0 < 192 /\ 128 <= l.getD 1 0 /\ l.getD 1 0 < 192 then 2 else if 1 <= l.length /\ 128 <= l.getD 0 0 /\ l.getD 0 0 < 192 then 1 else 0 := by
 match l with
 | [] => simp [contF]
 | [c] =>
  simp only [contF]
  split <;> simp_all
 | c :: d :: r =>
  simp only [contF, List.getD_cons_zero, List.getD_cons_succ, List.length_cons]
  by_cases h1 : 128 <= c /\ c < 192 <;> by_cases h2 : 128 <= d /\ d < 192
  ·rw [if_pos h1, if_pos h2, if_pos ⟨by omega, by omega, by omega, by omega, by omega⟩]
  ·rw [if_pos h1, if_neg h2, if_neg (by omega), if_pos ⟨by omega, by omega, by omega⟩]
  ·rw [if_neg h1, if_neg (by omega), if_neg (by omega)]
  ·rw [if_neg h1, if_neg (by omega), if_neg (by omega)]
theorem getD_drop' (l : List Int) (n k : Nat) : (l.drop n).getD k 0 = l.getD (n + k) 0 := by
 rw [List.getD_eq_getElem?_getD, List.getElem?_drop, List.getD_eq_getElem?_getD]
theorem ref8_eq {l : List Int} (hb : Byt l) (h0 : 0 < l.length) : ref8 l = (atom8 l, size8 l) := by
 have b0 := hb.at_ 0
 have b1 := hb.at_ 1
 have b2 := hb.at_ 2
 have b3 := hb.at_ 3
 have hv1 : bdN (l.getD 0 0) = 1 -> valF8 l = l.getD 0 0 := fun h => by
  unfold valF8 leadF
  rw [h]
  simp
 have hv2 : bdN (l.getD 0 0) = 2 -> 2 <= l.length -> valF8 l = l.getD 0 0 % 32 * 64 + l.getD 1 0 % 64 := fun h hl => by
  unfold valF8 leadF
  rw [h, drop_getD' l 1 (by omega)]
  simp [goOn]
 have hv3 : bdN (l.getD 0 0) = 3 -> 3 <= l.length -> valF8 l = (l.getD 0 0 % 16 * 64 + l.getD 1 0 % 64) * 64 + l.getD 2 0 % 64 := fun h hl => by
  unfold valF8 leadF
  rw [h, drop_getD' l 1 (by omega), drop_getD' l 2 (by omega)]
  simp [goOn]
 have hv4 : bdN (l.getD 0 0) = 4 -> 4 <= l.length -> valF8 l = ((l.getD 0 0 % 8 * 64 + l.getD 1 0 % 64) * 64 + l.getD 2 0 % 64) * 64 + l.getD 3 0 % 64 := fun h hl => by
  unfold valF8 leadF
  rw [h, drop_getD' l 1 (by omega), drop_getD' l 2 (by omega), drop_getD' l 3 (by omega)]
  simp [goOn]
 have c1 := contF_one (l.drop 2)
 have c2 := contF_two (l.drop 2)
 rw [getD_drop'] at c1 c2
 rw [getD_drop', List.length_drop] at c2
 rw [List.length_drop] at c1
 simp only [Nat.add_zero] at c1 c2
 have k1 := okR1 hb h0
 have k2 := okR2 hb
 have k3 := okR3 hb
 have k4 := okR4 hb
 have m1 : meantF l 1 = l.getD 0 0 := rfl
 have m2 : meantF l 2 = (l.getD 0 0 - 192) * 64 + l.getD 1 0 - 128 := rfl
 have m3 : meantF l 3 = ((l.getD 0 0 - 224) * 64 + l.getD 1 0 - 128) * 64 + l.getD 2 0 - 128 := rfl
 have m4 : meantF l 4 = (((l.getD 0 0 - 240) * 64 + l.getD 1 0 - 128) * 64 + l.getD 2 0 - 128) * 64 + l.getD 3 0 - 128 := rfl
 unfold ref8 atom8 size8 rawF rowHave
 rw [k1, k2, k3, k4, m1, m2, m3, m4]
 clear m1 m2 m3 m4 k1 k2 k3 k4
 generalize valF8 l = V at *
 generalize hD1 : contF 1 (l.drop 2) = D1 at *
 generalize hD2 : contF 2 (l.drop 2) = D2 at *
 generalize l.getD 0 0 = x0 at *
 generalize l.getD 1 0 = x1 at *
 generalize l.getD (2 + 1) 0 = x3 at *
 generalize l.getD 2 0 = x2 at *
 generalize l.length = n at *
 simp only [decide_eq_true_eq]
 rcases Int.lt_or_le x0 128 with h1 | h1
 ·have e : bdN x0 = 1 := by unfold bdN; (repeat' split) <;> omega
  rw [e, if_pos h1, hv1 e]
  simp
 ·rcases Int.lt_or_le x0 194 with h2 | h2
  ·have e : bdN x0 = 0 := by unfold bdN; (repeat' split) <;> omega
   rw [e, if_neg (by omega), if_neg (by omega), if_neg (by omega), if_neg (by omega)]
   simp
  ·rcases Int.lt_or_le x0 224 with h3 | h3
   ·have e : bdN x0 = 2 := by unfold bdN; (repeat' split) <;> omega
    have elo : bdLo x0 = 128 := by unfold bdLo; (repeat' split) <;> omega
    have ehi : bdHi x0 = 191 := by unfold bdHi; (repeat' split) <;> omega
    rw [e, elo, ehi, if_neg (show ¬ x0 < 128 by omega)]
    by_cases hc : 2 <= n /\ 128 <= x1 /\ x1 < 192
    ·rw [if_pos ⟨hc.1, h2, h3, hc.2⟩, hv2 e hc.1]
     rw [if_neg (show ¬ ((2 : Int) < 2) by omega), if_neg (show ¬ (n < 2 \/ x1 < 128 \/ 191 < x1) by omega)]
     simp [contF]
     omega
    ·rw [if_neg (by omega), if_neg (by omega), if_neg (by omega)]
     rw [if_neg (show ¬ ((2 : Int) < 2) by omega), if_pos (show (n < 2 \/ x1 < 128 \/ 191 < x1) by omega)]
     simp
   ·rcases Int.lt_or_le x0 240 with h4 | h4
    ·have e : bdN x0 = 3 := by unfold bdN; (repeat' split) <;> omega
     have hlo : (x0 = 224 /\ bdLo x0 = 160) \/ (x0 ≠ 224 /\ bdLo x0 = 128) := by unfold bdLo; (repeat' split) <;> omega
     have hhi : (x0 = 237 /\ bdHi x0 = 159) \/ (x0 ≠ 237 /\ bdHi x0 = 191) := by unfold bdHi; (repeat' split) <;> omega
     generalize bdLo x0 = lo at *
     generalize bdHi x0 = hi at *
     have hd : ((3 : Int) - 2).toNat = 1 := by decide
     rw [e, hd, hD1, if_neg (show ¬ x0 < 128 by omega), if_neg (show ¬ (2 <= n /\ 194 <= x0 /\ x0 < 224 /\ 128 <= x1 /\ x1 < 192) by omega)]
     by_cases hc : 3 <= n /\ 224 <= x0 /\ x0 < 240 /\ 128 <= x1 /\ x1 < 192 /\ (x0 = 224 -> 160 <= x1) /\ (x0 = 237 -> x1 < 160) /\ 128 <= x2 /\ x2 < 192
     ·rw [if_pos hc, hv3 e hc.1]
      have hP : ¬ (n < 2 \/ x1 < lo \/ hi < x1) := by omega
      rw [if_neg (show ¬ ((3 : Int) < 2) by omega), if_neg hP]
      rw [if_pos (by omega)] at c1
      rw [c1, if_neg (by simp)]
      simp
      omega
     ·rw [if_neg hc, if_neg (by omega)]
      have hraw : (if (3 : Int) < 2 then 3 else if n < 2 \/ x1 < lo \/ hi < x1 then 1 else 2 + (D1 : Int)) < 3 := by
       rw [if_neg (by omega)]
       by_cases hP : n < 2 \/ x1 < lo \/ hi < x1
       ·rw [if_pos hP]; omega
       ·rw [if_neg hP, c1, if_neg (by omega)]
        omega
      rw [if_pos (Or.inr hraw), if_pos (Or.inr hraw)]
    ·rcases Int.lt_or_le 244 x0 with h5 | h5
     ·have e : bdN x0 = 0 := by unfold bdN; (repeat' split) <;> omega
      rw [e, if_neg (by omega), if_neg (by omega), if_neg (by omega), if_neg (by omega)]
      simp
     ·have e : bdN x0 = 4 := by unfold bdN; (repeat' split) <;> omega
      have hlo : (x0 = 240 /\ bdLo x0 = 144) \/ (x0 ≠ 240 /\ bdLo x0 = 128) := by unfold bdLo; (repeat' split) <;> omega
      have hhi : (x0 = 244 /\ bdHi x0 = 143) \/ (x0 ≠ 244 /\ bdHi x0 = 191) := by unfold bdHi; (repeat' split) <;> omega
      generalize bdLo x0 = lo at *
      generalize bdHi x0 = hi at *
      have hd : ((4 : Int) - 2).toNat = 2 := by decide
      rw [e, hd, hD2, if_neg (show ¬ x0 < 128 by omega), if_neg (show ¬ (2 <= n /\ 194 <= x0 /\ x0 < 224 /\ 128 <= x1 /\ x1 < 192) by omega), if_neg (show ¬ (3 <= n /\ 224 <= x0 /\ x0 < 240 /\ 128 <= x1 /\ x1 < 192 /\ (x0 = 224 -> 160 <= x1) /\ (x0 = 237 -> x1 < 160) /\ 128 <= x2 /\ x2 < 192) by omega)]
      by_cases hc : 4 <= n /\ 240 <= x0 /\ x0 <= 244 /\ 128 <= x1 /\ x1 < 192 /\ (x0 = 240 -> 144 <= x1) /\ (x0 = 244 -> x1 < 144) /\ 128 <= x2 /\ x2 < 192 /\ 128 <= x3 /\ x3 < 192
      ·rw [if_pos hc, hv4 e hc.1]
       have hP : ¬ (n < 2 \/ x1 < lo \/ hi < x1) := by omega
       rw [if_neg (show ¬ ((4 : Int) < 2) by omega), if_neg hP]
       rw [if_pos (by omega)] at c2
       rw [c2, if_neg (by simp)]
       simp
       omega
      ·rw [if_neg hc]
       have hraw : (if (4 : Int) < 2 then 4 else if n < 2 \/ x1 < lo \/ hi < x1 then 1 else 2 + (D2 : Int)) < 4 := by
        rw [if_neg (by omega)]
        by_cases hP : n < 2 \/ x1 < lo \/ hi < x1
        ·rw [if_pos hP]; omega
        ·rw [if_neg hP, c2, if_neg (by omega)]
         split <;> omega
       rw [if_pos (Or.inr hraw), if_pos (Or.inr hraw)]
def ref16u (o : Int) (l : List Int) : Int := if l.length < 2 then -1 else unitF o l
def ref16 (o : Int) (l : List Int) : Int × Int :=
 if ref16u o l < 0 then (-1 - l.getD 0 0, 1)
 else if 55296 <= ref16u o l /\ ref16u o l < 56320 /\ 56320 <= ref16u o (l.drop 2) /\ ref16u o (l.drop 2) < 57344 then (65536 + (ref16u o l - 55296) * 1024 + ref16u o (l.drop 2) - 56320, 4) else (ref16u o l, 2)
theorem ref16_eq (o : Int) {l : List Int} (hb : Byt l) (h0 : 0 < l.length) : ref16 o l = (atom16 o l, size16 o l) := by
 have b1 := unitF_bd o l hb
 have b2 := unitF_bd o (l.drop 2) (hb.drop 2)
 unfold ref16 atom16 size16
 by_cases h1 : l.length = 1
 ·have e : ref16u o l = -1 := by unfold ref16u; rw [if_pos (by omega)]
  rw [e, if_pos (by omega), if_pos h1, if_pos h1]
 ·have e : ref16u o l = unitF o l := by unfold ref16u; rw [if_neg (by omega)]
  rw [e, if_neg (by omega), if_neg h1, if_neg h1]
  have hp : pairF o l = decide (55296 <= unitF o l /\ unitF o l < 56320 /\ 56320 <= ref16u o (l.drop 2) /\ ref16u o (l.drop 2) < 57344) := by
   unfold pairF ref16u highF lowF
   rw [List.length_drop, Bool.eq_iff_iff]
   simp only [Bool.and_eq_true, decide_eq_true_eq]
   by_cases h4 : l.length - 2 < 2
   ·rw [if_pos h4]
    omega
   ·rw [if_neg h4]
    omega
  rw [hp]
  simp only [decide_eq_true_eq]
  split
  ·rename_i hh
   have e2 : ref16u o (l.drop 2) = unitF o (l.drop 2) := by
    unfold ref16u at hh ⊢
    split
    ·rename_i h3
     rw [if_pos h3] at hh
     omega
    ·rfl
   rw [e2] at hh ⊢
   refine Prod.ext ?_ rfl
   dsimp only
   omega
  ·rfl
def refAt (enc : Int) (l : List Int) : Int × Int := if enc = 1 then ref8 l else if enc = 4 then (l.getD 0 0, 1) else if enc = 2 then ref16 0 l else ref16 1 l
theorem refAt_eq {enc : Int} (he : enc = 1 \/ enc = 2 \/ enc = 3 \/ enc = 4) {l : List Int} (hb : Byt l) (h0 : 0 < l.length) : refAt enc l = (atomAt enc l, sizeAt enc l) := by
 unfold refAt atomAt sizeAt
 rcases he with rfl | rfl | rfl | rfl
 ·exact ref8_eq hb h0
 ·exact ref16_eq 0 hb h0
 ·exact ref16_eq 1 hb h0
 ·rfl
theorem rscalar_any (a : Int) (w : World) : Calls Tryz.prog 189 #[.int .i64 a] w fun e w' => e = .returned (.bool (scalarF a)) /\ w = w' := by
 go_enter Tryz.func189, Tryz.ntmps189
 go_wp2
 all_goals
  go_light
  go_ret
  refine ⟨ret_b ?_, rfl⟩
  unfold scalarF
  rw [Bool.eq_iff_iff]
  simp
  (try omega)
def NewBytes (l : List Int) (w : World) (e : Ending) (w' : World) : Prop := ∃ v, e = .returned v /\ w'.ownsRow w.heap.size 5 1 v l.length (l.map (Value.int .u8)) /\ Below w.heap.size w w'
theorem newBytes_lit (l : List Int) (w : World) (h0 : l.length <= 16) : NewBytes l w (.returned (.slice (some ⟨w.heap.size, 0, none⟩) l.length l.length)) (w.alloc (.cells (l.map (Value.int .u8)).toArray 5)) := by
 have h1 : (l.map (Value.int .u8)).toArray.size = l.length * 1 := by rw [List.size_toArray, List.length_map, Nat.mul_one]
 have h2 : (l.map (Value.int .u8)).toArray.toList.take (l.length * 1) = l.map (Value.int .u8) := by
  show (l.map (Value.int .u8)).take (l.length * 1) = _
  exact List.take_of_length_le (by rw [List.length_map, Nat.mul_one]; exact Nat.le_refl _)
 exact ⟨_, rfl, ⟨by rw [List.length_map, Nat.mul_one], .inr ⟨w.heap.size, l.length, (l.map (Value.int .u8)).toArray, rfl, Nat.le_refl _, heap_alloc_new _ _, Nat.le_refl _, by unfold maxLen; omega, h1, h2⟩⟩, balloc (Below.refl _ _)⟩
theorem u8_in (x : Int) (h0 : 0 <= x) (h1 : x < 256) : IntKind.u8.wrap x = x := IntWalk.u8_in x (by omega)
theorem reight_any (a : Int) (w : World) (h0 : 0 <= a) (h1 : a <= 1114111) : Calls Tryz.prog 190 #[.int .i64 a] w fun e w' => NewBytes (eightL a) w e w' := by
 by_cases c1 : a < 128
 ·have e1 : eightL a = [a] := by unfold eightL; rw [if_pos c1]
  have k1 := u8_in a h0 (by omega)
  have hn := newBytes_lit [a] w (by simp)
  rw [e1]
  have HN := Lib.hid hn
  clear hn e1
  go_enter Tryz.func190, Tryz.ntmps190
  go_wp2
  go_ret
  exact HN.out
 ·by_cases c2 : a < 2048
  ·have e1 : eightL a = [192 + a / 64, 128 + a % 64] := by unfold eightL; rw [if_neg c1, if_pos c2]
   have k1 := u8_in (192 + a / 64) (by omega) (by omega)
   have k2 := u8_in (128 + a % 64) (by omega) (by omega)
   have hn := newBytes_lit [192 + a / 64, 128 + a % 64] w (by simp)
   rw [e1]
   have HN := Lib.hid hn
   clear hn e1
   go_enter Tryz.func190, Tryz.ntmps190
   go_wp2
   go_ret
   exact HN.out
  ·by_cases c3 : a < 65536
   ·have e1 : eightL a = [224 + a / 4096, 128 + a / 64 % 64, 128 + a % 64] := by unfold eightL; rw [if_neg c1, if_neg c2, if_pos c3]
    have k1 := u8_in (224 + a / 4096) (by omega) (by omega)
    have k2 := u8_in (128 + a / 64 % 64) (by omega) (by omega)
    have k3 := u8_in (128 + a % 64) (by omega) (by omega)
    have hn := newBytes_lit [224 + a / 4096, 128 + a / 64 % 64, 128 + a % 64] w (by simp)
    rw [e1]
    have HN := Lib.hid hn
    clear hn e1
    go_enter Tryz.func190, Tryz.ntmps190
    go_wp2
    go_ret
    exact HN.out
   ·have e1 : eightL a = [240 + a / 262144, 128 + a / 4096 % 64, 128 + a / 64 % 64, 128 + a % 64] := by unfold eightL; rw [if_neg c1, if_neg c2, if_neg c3]
    have k1 := u8_in (240 + a / 262144) (by omega) (by omega)
    have k2 := u8_in (128 + a / 4096 % 64) (by omega) (by omega)
    have k3 := u8_in (128 + a / 64 % 64) (by omega) (by omega)
    have k4 := u8_in (128 + a % 64) (by omega) (by omega)
    have hn := newBytes_lit [240 + a / 262144, 128 + a / 4096 % 64, 128 + a / 64 % 64, 128 + a % 64] w (by simp)
    rw [e1]
    have HN := Lib.hid hn
    clear hn e1
    go_enter Tryz.func190, Tryz.ntmps190
    go_wp2
    go_ret
    exact HN.out
def begB (l : List Int) (p : Nat) (x : List Int) : Bool := decide (p + x.length <= l.length /\ ∀ i, i < x.length -> l.getD (p + i) 0 = x.getD i 0)
theorem begB_eq (l : List Int) (p : Nat) (x : List Int) (h : p + x.length <= l.length) : begB l p x = decide ((l.drop p).take x.length = x) := by
 unfold begB
 rw [Bool.eq_iff_iff]
 simp only [decide_eq_true_eq]
 constructor
 ·rintro ⟨_, h2⟩
  apply List.ext_getElem?
  intro i
  rw [List.getElem?_take]
  by_cases hi : i < x.length
  ·rw [if_pos hi, List.getElem?_drop]
   have := h2 i hi
   rw [List.getD_eq_getElem?_getD, List.getD_eq_getElem?_getD, List.getElem?_eq_getElem (by omega), List.getElem?_eq_getElem hi] at this
   simp at this
   rw [List.getElem?_eq_getElem (by omega), List.getElem?_eq_getElem hi, this]
  ·rw [if_neg hi, List.getElem?_eq_none (by omega)]
 ·intro h2
  refine ⟨h, fun i hi => ?_⟩
  have := congrArg (fun y => y.getD i 0) h2
  rw [List.getD_eq_getElem?_getD, List.getElem?_take, if_pos hi, List.getElem?_drop, <- List.getD_eq_getElem?_getD] at this
  exact this
def BegR (l x : List Int) (p : Nat) (w0 : World) (k : Nat) (q : Value) (wr : World) : Prop :=
 ∃ i : Nat, q = .int .i64 (i : Int) /\ i <= x.length /\ x.length - i <= k /\ Hid (∀ j, j < i -> l.getD (p + j) 0 = x.getD j 0) /\ Below w0.heap.size w0 wr
theorem rbegins_any (D D' : Nat -> Prop) (A A' : Option Addr) (n c m c' p : Nat) (l x : List Int) (w : World) (hl : Bts w D A n l) (hx : Bts w D' A' m x) (hn : n <= 2147483648) (hm : m <= 16) (hp : p <= n) :
  Calls Tryz.prog 191 #[.slice A n c, .int .i64 (p : Int), .slice A' m c'] w fun e w' => e = .returned (.bool (begB l p x)) /\ Below w.heap.size w w' := by
 have hle := hl.len
 have hxe := hx.len
 by_cases h1 : p + m <= n
 ·have q1 : ((n : Int) < (p : Int) + (m : Int)) = False := by simp; omega
  go_enter Tryz.func191, Tryz.ntmps191
  go_wp2_with fail
  go_loopg [7] m (fun k q wr => BegR l x p w k q wr)
  case atStart => exact ⟨0, rfl, Nat.zero_le _, by omega, Lib.hid (fun j hj => absurd hj (by omega)), Below.refl _ _⟩
  case round =>
   obtain ⟨i, rfl, hi, hk, hh, hb⟩ := hrel
   by_cases hlt : i < m
   ·obtain ⟨ad, hA, _, c1⟩ := Bts.at_ (Reads.below hl hb) (show p + i < n by omega)
    obtain ⟨ad', hA', _, c2⟩ := Bts.at_ (Reads.below hx hb) hlt
    subst hA
    subst hA'
    obtain ⟨a, ha⟩ : ∃ a, l.getD (p + i) 0 = a := ⟨_, rfl⟩
    obtain ⟨b, hb'⟩ : ∃ b, x.getD i 0 = b := ⟨_, rfl⟩
    rw [ha] at c1
    rw [hb'] at c2
    have HA := Lib.hid ha
    have HB := Lib.hid hb'
    clear ha hb'
    have hs : IntKind.i64.wrap ((p : Int) + (i : Int)) = ((p + i : Nat) : Int) := by rw [IntWalk.i64_in _ (by omega)]; omega
    by_cases hab : a = b
    ·have hne : (a != b) = false := by simp [hab]
     go_wp2_with fail
     go_quiet (fail)
     go_wp2_with fail
     go_roundg (m - (i + 1))
     case measure => omega
     case rel =>
      refine ⟨i + 1, by go_num, by omega, by omega, Lib.hid (fun j hj => ?_), below_drewN hb _⟩
      rcases Nat.lt_or_ge j i with h | h
      ·exact hh.out j h
      ·rw [show j = i by omega, HA.out, HB.out, hab]
    ·have hne : (a != b) = true := by simp [hab]
     go_wp2_with fail
     go_quiet (fail)
     go_wp2_with fail
     go_ret
     refine ⟨ret_b ?_, below_drewN hb _⟩
     symm
     unfold begB
     rw [decide_eq_false_iff_not]
     rintro ⟨_, h2⟩
     apply hab
     rw [<- HA.out, <- HB.out]
     exact h2 i (by omega)
   ·go_wp2_with fail
    go_ret
    refine ⟨ret_b ?_, hb⟩
    symm
    unfold begB
    rw [decide_eq_true_eq]
    exact ⟨by omega, fun j hj => hh.out j (by omega)⟩
 ·have q1 : ((n : Int) < (p : Int) + (m : Int)) = True := by simp; omega
  go_enter Tryz.func191, Tryz.ntmps191
  go_wp2_with fail
  go_ret
  refine ⟨ret_b ?_, Below.refl _ _⟩
  symm
  unfold begB
  rw [decide_eq_false_iff_not]
  rintro ⟨h2, _⟩
  omega
def accM (x0 : Int) (l : List Int) : Nat -> Int
 | 0 => 0
 | 1 => x0
 | i + 2 => accM x0 l (i + 1) * 64 + l.getD (i + 1) 0 - 128
def leadN (n : Nat) : Int := if n = 2 then 192 else if n = 3 then 224 else if n = 4 then 240 else 0
theorem meantF_acc (l : List Int) {n : Nat} (h0 : 1 <= n) (h1 : n <= 4) : meantF l n = accM (l.getD 0 0 - leadN n) l n := by
 match n, h0, h1 with
 | 1, _, _ => simp [meantF, accM, leadN]
 | 2, _, _ => rfl
 | 3, _, _ => rfl
 | 4, _, _ => rfl
theorem accM_bd {x0 : Int} {l : List Int} (hb : Byt l) (hx : -256 <= x0 /\ x0 <= 256) {i : Nat} (h : i <= 4) : -134217728 <= accM x0 l i /\ accM x0 l i <= 134217728 := by
 have b1 := hb.at_ 1
 have b2 := hb.at_ 2
 have b3 := hb.at_ 3
 match i, h with
 | 0, _ => simp [accM]
 | 1, _ => simp only [accM]; omega
 | 2, _ => simp only [accM, Nat.reduceAdd]; omega
 | 3, _ => simp only [accM, Nat.reduceAdd]; omega
 | 4, _ => simp only [accM, Nat.reduceAdd]; omega
def MeantR (x0 : Int) (l : List Int) (n : Nat) (w0 : World) (k : Nat) (q8 q9 : Value) (wr : World) : Prop :=
 ∃ i : Nat, ∃ v : Int, q8 = .int .i64 v /\ q9 = .int .i64 (i : Int) /\ Hid (v = accM x0 l i) /\ -134217728 <= v /\ v <= 134217728 /\ 1 <= i /\ i <= n /\ 4 - i <= k /\ Below w0.heap.size w0 wr
theorem rmeant_any (D : Nat -> Prop) (A : Option Addr) (N c p n : Nat) (l : List Int) (w : World) (hl : Bts w D A N l) (hB : Byt l) (hN : N <= 2147483648) (hn : n = 1 \/ n = 2 \/ n = 3 \/ n = 4) (hp : p + n <= N) :
  Calls Tryz.prog 188 #[.slice A N c, .int .i64 (p : Int), .int .i64 (n : Int)] w fun e w' => e = .returned (.int .i64 (meantF (l.drop p) n)) /\ Below w.heap.size w w' := by
 have hle := hl.len
 have hn14 : 1 <= n /\ n <= 4 := by omega
 rw [meantF_acc _ hn14.1 hn14.2, getD_drop', Nat.add_zero]
 obtain ⟨ad, rfl, _, c0⟩ := hl.at_ (show p < N by omega)
 have hlt := lt_of_cell c0
 rw [block_of_add] at hlt
 have b0 := hB.at_ p
 obtain ⟨x, hx⟩ : ∃ x, l.getD p 0 = x := ⟨_, rfl⟩
 rw [hx] at c0 b0 ⊢
 have hbl : Below w.heap.size w (w.alloc (.cells #[.int .i64 0, .int .i64 0, .int .i64 192, .int .i64 224, .int .i64 240] 272)) := balloc (Below.refl _ _)
 have hBn := Blk.new w 272 #[.int .i64 0, .int .i64 0, .int .i64 192, .int .i64 224, .int .i64 240]
 have c0' := hbl.cell (p := ad.add p) (by rw [block_of_add]; exact hlt)
 rw [c0] at c0'
 have HX := Lib.hid hx
 obtain ⟨m, hm⟩ : ∃ m, n = m := ⟨_, rfl⟩
 have hpm : p + m <= N /\ m <= 4 := by omega
 have hacc := fun (i : Nat) (h : i <= 4) => accM_bd (x0 := x - leadN m) (l := l.drop p) (hB.drop p) (by unfold leadN; (repeat' split) <;> omega) (i := i) h
 have HACC := Lib.hid hacc
 have h1 : (0 : Int) <= (p : Int) := by omega
 have h2 : (p : Int) < (N : Int) := by omega
 have HM := Lib.hid hm
 clear hx hacc hbl hm
 rcases hn with rfl | rfl | rfl | rfl
 all_goals
  go_enter Tryz.func188, Tryz.ntmps188
  go_wp2_with fail
  go_quiet (fail)
  go_wp2_with fail
  go_loopg [8, 9] 4 (fun k q8 q9 wr => MeantR (x - leadN m) (l.drop p) m w k q8 q9 wr)
  case atStart =>
   have hm := HM.out
   subst hm
   exact ⟨1, _, rfl, rfl, Lib.hid (by simp [accM, leadN]), by omega, by omega, by omega, by omega, by omega, below_drewN (balloc (Below.refl _ _)) _⟩
  case round =>
   obtain ⟨i, v, rfl, rfl, hv, hv0, hv1, hi0, hi1, hk, hb⟩ := hrel
   by_cases hlt : i < m
   ·obtain ⟨ad', hA, _, c1⟩ := Bts.at_ (Reads.below hl hb) (show p + i < N by omega)
    obtain rfl : ad = ad' := by injection hA
    have by1 := hB.at_ (p + i)
    have e1 : accM (x - leadN m) (l.drop p) (i + 1) = accM (x - leadN m) (l.drop p) i * 64 + l.getD (p + i) 0 - 128 := by
     obtain ⟨j, rfl⟩ : ∃ j, i = j + 1 := ⟨i - 1, by omega⟩
     rw [accM, getD_drop']
    rw [<- hv.out] at e1
    obtain ⟨y, hy⟩ : ∃ y, l.getD (p + i) 0 = y := ⟨_, rfl⟩
    rw [hy] at c1 by1 e1
    have hs : IntKind.i64.wrap ((p : Int) + (i : Int)) = ((p + i : Nat) : Int) := by rw [IntWalk.i64_in _ (by omega)]; omega
    have hbd := HACC.out (i + 1) (by omega)
    rw [e1] at hbd
    have hm := HM.out
    subst hm
    have HE := Lib.hid e1
    clear hy e1
    go_wp2_with fail
    all_goals
     clear hs
     go_roundg (4 - (i + 1))
     case measure => omega
     case rel => exact ⟨i + 1, _, rfl, by go_num, Lib.hid HE.out.symm, by omega, by omega, by omega, by omega, by omega, hb⟩
   ·have hm := HM.out
    subst hm
    go_wp2_with fail
    go_ret
    refine ⟨ret_i ?_, hb⟩
    rw [hv.out]
    congr 1
    omega
end Go.Proofs.YtkocknfhdojmbaaGreat
