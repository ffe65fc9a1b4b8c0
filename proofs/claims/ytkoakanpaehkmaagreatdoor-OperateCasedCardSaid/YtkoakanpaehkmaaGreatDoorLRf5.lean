/-
  The walk of the document's text: copyistref5.Open.
-/
import Derived.Test.YtkoakanpaehkmaaGreatDoorLSums
import Derived.Test.YtkoakanpaehkmaaGreatDoorLSized
import Derived.IntWalk
import Derived.Test.YtkoakanpaehkmaaGreatDoorLRfLines
set_option linter.unusedSimpArgs false
set_option linter.unusedVariables false
set_option maxRecDepth 100000
set_option maxHeartbeats 32000000
namespace Go.Proofs.YtkoakanpaehkmaaGreatDoor
open Go.RowKit
def meantF (l : List Int) (n : Nat) : Int :=
 if n = 1 then l.getD 0 0 else if n = 2 then (l.getD 0 0 - 192) * 64 + l.getD 1 0 - 128 else if n = 3 then ((l.getD 0 0 - 224) * 64 + l.getD 1 0 - 128) * 64 + l.getD 2 0 - 128
 else (((l.getD 0 0 - 240) * 64 + l.getD 1 0 - 128) * 64 + l.getD 2 0 - 128) * 64 + l.getD 3 0 - 128
def scalarF (a : Int) : Bool := decide (0 <= a /\ a < 55296) || decide (57343 < a /\ a <= 1114111)
def eightL (a : Int) : List Int :=
 if a < 128 then [a] else if a < 2048 then [192 + a / 64, 128 + a % 64] else if a < 65536 then [224 + a / 4096, 128 + a / 64 % 64, 128 + a % 64] else [240 + a / 262144, 128 + a / 4096 % 64, 128 + a / 64 % 64, 128 + a % 64]
def okR (l : List Int) (n : Nat) : Bool := decide (n <= l.length) && scalarF (meantF l n) && (eightL (meantF l n) == l.take n)
def ref8 (l : List Int) : Int × Int := if okR l 1 = true then (meantF l 1, 1) else if okR l 2 = true then (meantF l 2, 2) else if okR l 3 = true then (meantF l 3, 3) else if okR l 4 = true then (meantF l 4, 4) else (-1 - l.getD 0 0, 1)
theorem okR1 {l : List Int} (hb : Byt l) (h0 : 0 < l.length) : okR l 1 = decide (l.getD 0 0 < 128) := by
 obtain ⟨x0, r, rfl⟩ : ∃ x r, l = x :: r := by cases l with | nil => simp at h0 | cons x r => exact ⟨x, r, rfl⟩
 have b0 := hb x0 (by simp)
 rw [Bool.eq_iff_iff]
 simp only [okR, meantF, scalarF, eightL, List.getD_cons_zero, Bool.and_eq_true, Bool.or_eq_true, decide_eq_true_eq, beq_iff_eq, List.length_cons, if_pos]
 constructor
 ·rintro ⟨⟨_, h1⟩, h2⟩
  split at h2
  ·assumption
  ·exfalso
   (repeat' split at h2) <;> simp at h2
 ·intro h
  rw [if_pos h]
  exact ⟨⟨by omega, by omega⟩, by simp⟩
theorem okR2 {l : List Int} (hb : Byt l) : okR l 2 = decide (2 <= l.length /\ 194 <= l.getD 0 0 /\ l.getD 0 0 < 224 /\ 128 <= l.getD 1 0 /\ l.getD 1 0 < 192) := by
 rcases Nat.lt_or_ge l.length 2 with h | h
 ·rw [Bool.eq_iff_iff]
  simp only [okR, Bool.and_eq_true, decide_eq_true_eq]
  exact ⟨fun hh => absurd hh.1.1 (by omega), fun hh => absurd hh.1 (by omega)⟩
 obtain ⟨x0, x1, r, rfl⟩ : ∃ x y r, l = x :: y :: r := by
  match l, h with
  | x :: y :: r, _ => exact ⟨x, y, r, rfl⟩
 have b0 := hb x0 (by simp)
 have b1 := hb x1 (by simp)
 rw [Bool.eq_iff_iff]
 simp only [okR, meantF, scalarF, eightL, List.getD_cons_zero, List.getD_cons_succ, Bool.and_eq_true, Bool.or_eq_true, decide_eq_true_eq, beq_iff_eq, List.length_cons, List.take_succ_cons, List.take_zero]
 simp only [show (2 : Nat) = 1 ↔ False by decide, if_false, if_true]
 constructor
 ·rintro ⟨⟨_, h1⟩, h2⟩
  (repeat' split at h2) <;> simp at h2
  omega
 ·rintro ⟨h1, h2, h3, h4, h5⟩
  rw [if_neg (by omega), if_pos (by omega)]
  refine ⟨⟨by omega, by omega⟩, ?_⟩
  simp
  omega
theorem okR3 {l : List Int} (hb : Byt l) : okR l 3 = decide (3 <= l.length /\ 224 <= l.getD 0 0 /\ l.getD 0 0 < 240 /\ 128 <= l.getD 1 0 /\ l.getD 1 0 < 192 /\ (l.getD 0 0 = 224 -> 160 <= l.getD 1 0) /\ (l.getD 0 0 = 237 -> l.getD 1 0 < 160) /\ 128 <= l.getD 2 0 /\ l.getD 2 0 < 192) := by
 rcases Nat.lt_or_ge l.length 3 with h | h
 ·rw [Bool.eq_iff_iff]
  simp only [okR, Bool.and_eq_true, decide_eq_true_eq]
  exact ⟨fun hh => absurd hh.1.1 (by omega), fun hh => absurd hh.1 (by omega)⟩
 obtain ⟨x0, x1, x2, r, rfl⟩ : ∃ x y z r, l = x :: y :: z :: r := by
  match l, h with
  | x :: y :: z :: r, _ => exact ⟨x, y, z, r, rfl⟩
 have b0 := hb x0 (by simp)
 have b1 := hb x1 (by simp)
 have b2 := hb x2 (by simp)
 rw [Bool.eq_iff_iff]
 simp only [okR, meantF, scalarF, eightL, List.getD_cons_zero, List.getD_cons_succ, Bool.and_eq_true, Bool.or_eq_true, decide_eq_true_eq, beq_iff_eq, List.length_cons, List.take_succ_cons, List.take_zero]
 simp only [show (3 : Nat) = 1 ↔ False by decide, show (3 : Nat) = 2 ↔ False by decide, if_false, if_true]
 constructor
 ·rintro ⟨⟨_, h1⟩, h2⟩
  (repeat' split at h2) <;> simp at h2
  omega
 ·rintro ⟨h1, h2, h3, h4, h5, h6, h7, h8, h9⟩
  rw [if_neg (by omega), if_neg (by omega), if_pos (by omega)]
  refine ⟨⟨by omega, by omega⟩, ?_⟩
  simp
  omega
theorem okR4 {l : List Int} (hb : Byt l) : okR l 4 = decide (4 <= l.length /\ 240 <= l.getD 0 0 /\ l.getD 0 0 <= 244 /\ 128 <= l.getD 1 0 /\ l.getD 1 0 < 192 /\ (l.getD 0 0 = 240 -> 144 <= l.getD 1 0) /\ (l.getD 0 0 = 244 -> l.getD 1 0 < 144) /\ 128 <= l.getD 2 0 /\ l.getD 2 0 < 192 /\ 128 <= l.getD 3 0 /\ l.getD 3 0 < 192) := by
 rcases Nat.lt_or_ge l.length 4 with h | h
 ·rw [Bool.eq_iff_iff]
  simp only [okR, Bool.and_eq_true, decide_eq_true_eq]
  exact ⟨fun hh => absurd hh.1.1 (by omega), fun hh => absurd hh.1 (by omega)⟩
 obtain ⟨x0, x1, x2, x3, r, rfl⟩ : ∃ x y z u r, l = x :: y :: z :: u :: r := by
  match l, h with
  | x :: y :: z :: u :: r, _ => exact ⟨x, y, z, u, r, rfl⟩
 have b0 := hb x0 (by simp)
 have b1 := hb x1 (by simp)
 have b2 := hb x2 (by simp)
 have b3 := hb x3 (by simp)
 rw [Bool.eq_iff_iff]
 simp only [okR, meantF, scalarF, eightL, List.getD_cons_zero, List.getD_cons_succ, Bool.and_eq_true, Bool.or_eq_true, decide_eq_true_eq, beq_iff_eq, List.length_cons, List.take_succ_cons, List.take_zero]
 simp only [show (4 : Nat) = 1 ↔ False by decide, show (4 : Nat) = 2 ↔ False by decide, show (4 : Nat) = 3 ↔ False by decide, if_false]
 constructor
 ·rintro ⟨⟨_, h1⟩, h2⟩
  (repeat' split at h2) <;> simp at h2
  omega
 ·rintro ⟨h1, h2, h3, h4, h5, h6, h7, h8, h9, h10, h11⟩
  rw [if_neg (by omega), if_neg (by omega), if_neg (by omega)]
  refine ⟨⟨by omega, by omega⟩, ?_⟩
  simp
  omega
theorem contF_one (l : List Int) : contF 1 l = if 1 <= l.length /\ 128 <= l.getD 0 0 /\ l.getD 0 0 < 192 then 1 else 0 := by
 cases l with
 | nil => simp [contF]
 | cons c r => simp [contF]
theorem contF_two (l : List Int) : contF 2 l = if 2 <= l.length /\ 128 <= l.getD 0 0 /\ l.getD 0 0 < 192 /\ 128 <= l.getD 1 0 /\ l.getD 1 0 < 192 then 2 else if 1 <= l.length /\ 128 <= l.getD 0 0 /\ l.getD 0 0 < 192 then 1 else 0 := by
 match l with
 | [] => simp [contF]
 | [c] =>
  simp only [contF]
  split <;> simp_all
 | c :: d :: r =>
  simp only [contF, List.getD_cons_zero, List.getD_cons_succ, List.length_cons]
  by_cases h1 : 128 <= c /\ c < 192 <;> by_cases h2 : 128 <= d /\ d < 192
  ·rw [if_pos h1, if_pos h2, if_pos ⟨by omega, by omega, by omega, by omega, by omega⟩]
  ·rw [if_pos h1, if_neg h2, if_neg (by omega), if_pos ⟨by omega, by omega, by omega⟩]
  ·rw [if_neg h1, if_neg (by omega), if_neg (by omega)]
  ·rw [if_neg h1, if_neg (by omega), if_neg (by omega)]
theorem getD_drop' (l : List Int) (n k : Nat) : (l.drop n).getD k 0 = l.getD (n + k) 0 := by
 rw [List.getD_eq_getElem?_getD, List.getElem?_drop, List.getD_eq_getElem?_getD]
theorem ref8_eq {l : List Int} (hb : Byt l) (h0 : 0 < l.length) : ref8 l = (atom8 l, size8 l) := by
 have b0 := hb.at_ 0
 have b1 := hb.at_ 1
 have b2 := hb.at_ 2
 have b3 := hb.at_ 3
 have hv1 : bdN (l.getD 0 0) = 1 -> valF8 l = l.getD 0 0 := fun h => by
  unfold valF8 leadF
  rw [h]
  simp
 have hv2 : bdN (l.getD 0 0) = 2 -> 2 <= l.length -> valF8 l = l.getD 0 0 % 32 * 64 + l.getD 1 0 % 64 := fun h hl => by
  unfold valF8 leadF
  rw [h, drop_getD' l 1 (by omega)]
  simp [goOn]
 have hv3 : bdN (l.getD 0 0) = 3 -> 3 <= l.length -> valF8 l = (l.getD 0 0 % 16 * 64 + l.getD 1 0 % 64) * 64 + l.getD 2 0 % 64 := fun h hl => by
  unfold valF8 leadF
  rw [h, drop_getD' l 1 (by omega), drop_getD' l 2 (by omega)]
  simp [goOn]
 have hv4 : bdN (l.getD 0 0) = 4 -> 4 <= l.length -> valF8 l = ((l.getD 0 0 % 8 * 64 + l.getD 1 0 % 64) * 64 + l.getD 2 0 % 64) * 64 + l.getD 3 0 % 64 := fun h hl => by
  unfold valF8 leadF
  rw [h, drop_getD' l 1 (by omega), drop_getD' l 2 (by omega), drop_getD' l 3 (by omega)]
  simp [goOn]
 have c1 := contF_one (l.drop 2)
 have c2 := contF_two (l.drop 2)
 rw [getD_drop'] at c1 c2
 rw [getD_drop', List.length_drop] at c2
 rw [List.length_drop] at c1
 simp only [Nat.add_zero] at c1 c2
 have k1 := okR1 hb h0
 have k2 := okR2 hb
 have k3 := okR3 hb
 have k4 := okR4 hb
 have m1 : meantF l 1 = l.getD 0 0 := rfl
 have m2 : meantF l 2 = (l.getD 0 0 - 192) * 64 + l.getD 1 0 - 128 := rfl
 have m3 : meantF l 3 = ((l.getD 0 0 - 224) * 64 + l.getD 1 0 - 128) * 64 + l.getD 2 0 - 128 := rfl
 have m4 : meantF l 4 = (((l.getD 0 0 - 240) * 64 + l.getD 1 0 - 128) * 64 + l.getD 2 0 - 128) * 64 + l.getD 3 0 - 128 := rfl
 unfold ref8 atom8 size8 rawF rowHave
 rw [k1, k2, k3, k4, m1, m2, m3, m4]
 clear m1 m2 m3 m4 k1 k2 k3 k4
 generalize valF8 l = V at *
 generalize hD1 : contF 1 (l.drop 2) = D1 at *
 generalize hD2 : contF 2 (l.drop 2) = D2 at *
 generalize l.getD 0 0 = x0 at *
 generalize l.getD 1 0 = x1 at *
 generalize l.getD (2 + 1) 0 = x3 at *
 generalize l.getD 2 0 = x2 at *
 generalize l.length = n at *
 simp only [decide_eq_true_eq]
 rcases Int.lt_or_le x0 128 with h1 | h1
 ·have e : bdN x0 = 1 := by unfold bdN; (repeat' split) <;> omega
  rw [e, if_pos h1, hv1 e]
  simp
 ·rcases Int.lt_or_le x0 194 with h2 | h2
  ·have e : bdN x0 = 0 := by unfold bdN; (repeat' split) <;> omega
   rw [e, if_neg (by omega), if_neg (by omega), if_neg (by omega), if_neg (by omega)]
   simp
  ·rcases Int.lt_or_le x0 224 with h3 | h3
   ·have e : bdN x0 = 2 := by unfold bdN; (repeat' split) <;> omega
    have elo : bdLo x0 = 128 := by unfold bdLo; (repeat' split) <;> omega
    have ehi : bdHi x0 = 191 := by unfold bdHi; (repeat' split) <;> omega
    rw [e, elo, ehi, if_neg (show ¬ x0 < 128 by omega)]
    by_cases hc : 2 <= n /\ 128 <= x1 /\ x1 < 192
    ·rw [if_pos ⟨hc.1, h2, h3, hc.2⟩, hv2 e hc.1]
     rw [if_neg (show ¬ ((2 : Int) < 2) by omega), if_neg (show ¬ (n < 2 \/ x1 < 128 \/ 191 < x1) by omega)]
     simp [contF]
     omega
    ·rw [if_neg (by omega), if_neg (by omega), if_neg (by omega)]
     rw [if_neg (show ¬ ((2 : Int) < 2) by omega), if_pos (show (n < 2 \/ x1 < 128 \/ 191 < x1) by omega)]
     simp
   ·rcases Int.lt_or_le x0 240 with h4 | h4
    ·have e : bdN x0 = 3 := by unfold bdN; (repeat' split) <;> omega
     have hlo : (x0 = 224 /\ bdLo x0 = 160) \/ (x0 ≠ 224 /\ bdLo x0 = 128) := by unfold bdLo; (repeat' split) <;> omega
     have hhi : (x0 = 237 /\ bdHi x0 = 159) \/ (x0 ≠ 237 /\ bdHi x0 = 191) := by unfold bdHi; (repeat' split) <;> omega
     generalize bdLo x0 = lo at *
     generalize bdHi x0 = hi at *
     have hd : ((3 : Int) - 2).toNat = 1 := by decide
     rw [e, hd, hD1, if_neg (show ¬ x0 < 128 by omega), if_neg (show ¬ (2 <= n /\ 194 <= x0 /\ x0 < 224 /\ 128 <= x1 /\ x1 < 192) by omega)]
     by_cases hc : 3 <= n /\ 224 <= x0 /\ x0 < 240 /\ 128 <= x1 /\ x1 < 192 /\ (x0 = 224 -> 160 <= x1) /\ (x0 = 237 -> x1 < 160) /\ 128 <= x2 /\ x2 < 192
     ·rw [if_pos hc, hv3 e hc.1]
      have hP : ¬ (n < 2 \/ x1 < lo \/ hi < x1) := by omega
      rw [if_neg (show ¬ ((3 : Int) < 2) by omega), if_neg hP]
      rw [if_pos (by omega)] at c1
      rw [c1, if_neg (by simp)]
      simp
      omega
     ·rw [if_neg hc, if_neg (by omega)]
      have hraw : (if (3 : Int) < 2 then 3 else if n < 2 \/ x1 < lo \/ hi < x1 then 1 else 2 + (D1 : Int)) < 3 := by
       rw [if_neg (by omega)]
       by_cases hP : n < 2 \/ x1 < lo \/ hi < x1
       ·rw [if_pos hP]; omega
       ·rw [if_neg hP, c1, if_neg (by omega)]
        omega
      rw [if_pos (Or.inr hraw), if_pos (Or.inr hraw)]
    ·rcases Int.lt_or_le 244 x0 with h5 | h5
     ·have e : bdN x0 = 0 := by unfold bdN; (repeat' split) <;> omega
      rw [e, if_neg (by omega), if_neg (by omega), if_neg (by omega), if_neg (by omega)]
      simp
     ·have e : bdN x0 = 4 := by unfold bdN; (repeat' split) <;> omega
      have hlo : (x0 = 240 /\ bdLo x0 = 144) \/ (x0 ≠ 240 /\ bdLo x0 = 128) := by unfold bdLo; (repeat' split) <;> omega
      have hhi : (x0 = 244 /\ bdHi x0 = 143) \/ (x0 ≠ 244 /\ bdHi x0 = 191) := by unfold bdHi; (repeat' split) <;> omega
      generalize bdLo x0 = lo at *
      generalize bdHi x0 = hi at *
      have hd : ((4 : Int) - 2).toNat = 2 := by decide
      rw [e, hd, hD2, if_neg (show ¬ x0 < 128 by omega), if_neg (show ¬ (2 <= n /\ 194 <= x0 /\ x0 < 224 /\ 128 <= x1 /\ x1 < 192) by omega), if_neg (show ¬ (3 <= n /\ 224 <= x0 /\ x0 < 240 /\ 128 <= x1 /\ x1 < 192 /\ (x0 = 224 -> 160 <= x1) /\ (x0 = 237 -> x1 < 160) /\ 128 <= x2 /\ x2 < 192) by omega)]
      by_cases hc : 4 <= n /\ 240 <= x0 /\ x0 <= 244 /\ 128 <= x1 /\ x1 < 192 /\ (x0 = 240 -> 144 <= x1) /\ (x0 = 244 -> x1 < 144) /\ 128 <= x2 /\ x2 < 192 /\ 128 <= x3 /\ x3 < 192
      ·rw [if_pos hc, hv4 e hc.1]
       have hP : ¬ (n < 2 \/ x1 < lo \/ hi < x1) := by omega
       rw [if_neg (show ¬ ((4 : Int) < 2) by omega), if_neg hP]
       rw [if_pos (by omega)] at c2
       rw [c2, if_neg (by simp)]
       simp
       omega
      ·rw [if_neg hc]
       have hraw : (if (4 : Int) < 2 then 4 else if n < 2 \/ x1 < lo \/ hi < x1 then 1 else 2 + (D2 : Int)) < 4 := by
        rw [if_neg (by omega)]
        by_cases hP : n < 2 \/ x1 < lo \/ hi < x1
        ·rw [if_pos hP]; omega
        ·rw [if_neg hP, c2, if_neg (by omega)]
         split <;> omega
       rw [if_pos (Or.inr hraw), if_pos (Or.inr hraw)]
def ref16u (o : Int) (l : List Int) : Int := if l.length < 2 then -1 else unitF o l
def ref16 (o : Int) (l : List Int) : Int × Int :=
 if ref16u o l < 0 then (-1 - l.getD 0 0, 1)
 else if 55296 <= ref16u o l /\ ref16u o l < 56320 /\ 56320 <= ref16u o (l.drop 2) /\ ref16u o (l.drop 2) < 57344 then (65536 + (ref16u o l - 55296) * 1024 + ref16u o (l.drop 2) - 56320, 4) else (ref16u o l, 2)
theorem ref16_eq (o : Int) {l : List Int} (hb : Byt l) (h0 : 0 < l.length) : ref16 o l = (atom16 o l, size16 o l) := by
 have b1 := unitF_bd o l hb
 have b2 := unitF_bd o (l.drop 2) (hb.drop 2)
 unfold ref16 atom16 size16
 by_cases h1 : l.length = 1
 ·have e : ref16u o l = -1 := by unfold ref16u; rw [if_pos (by omega)]
  rw [e, if_pos (by omega), if_pos h1, if_pos h1]
 ·have e : ref16u o l = unitF o l := by unfold ref16u; rw [if_neg (by omega)]
  rw [e, if_neg (by omega), if_neg h1, if_neg h1]
  have hp : pairF o l = decide (55296 <= unitF o l /\ unitF o l < 56320 /\ 56320 <= ref16u o (l.drop 2) /\ ref16u o (l.drop 2) < 57344) := by
   unfold pairF ref16u highF lowF
   rw [List.length_drop, Bool.eq_iff_iff]
   simp only [Bool.and_eq_true, decide_eq_true_eq]
   by_cases h4 : l.length - 2 < 2
   ·rw [if_pos h4]
    omega
   ·rw [if_neg h4]
    omega
  rw [hp]
  simp only [decide_eq_true_eq]
  split
  ·rename_i hh
   have e2 : ref16u o (l.drop 2) = unitF o (l.drop 2) := by
    unfold ref16u at hh ⊢
    split
    ·rename_i h3
     rw [if_pos h3] at hh
     omega
    ·rfl
   rw [e2] at hh ⊢
   refine Prod.ext ?_ rfl
   dsimp only
   omega
  ·rfl
def refAt (enc : Int) (l : List Int) : Int × Int := if enc = 1 then ref8 l else if enc = 4 then (l.getD 0 0, 1) else if enc = 2 then ref16 0 l else ref16 1 l
theorem refAt_eq {enc : Int} (he : enc = 1 \/ enc = 2 \/ enc = 3 \/ enc = 4) {l : List Int} (hb : Byt l) (h0 : 0 < l.length) : refAt enc l = (atomAt enc l, sizeAt enc l) := by
 unfold refAt atomAt sizeAt
 rcases he with rfl | rfl | rfl | rfl
 ·exact ref8_eq hb h0
 ·exact ref16_eq 0 hb h0
 ·exact ref16_eq 1 hb h0
 ·rfl
theorem rscalar_any (a : Int) (w : World) : Calls Tryz.prog 204 #[.int .i64 a] w fun e w' => e = .returned (.bool (scalarF a)) /\ w = w' := by
 go_enter Tryz.func204, Tryz.ntmps204
 go_wp2
 all_goals
  go_light
  go_ret
  refine ⟨ret_b ?_, rfl⟩
  unfold scalarF
  rw [Bool.eq_iff_iff]
  simp
  (try omega)
def NewBytes (l : List Int) (w : World) (e : Ending) (w' : World) : Prop := ∃ v, e = .returned v /\ w'.ownsRow w.heap.size 5 1 v l.length (l.map (Value.int .u8)) /\ Below w.heap.size w w'
theorem newBytes_lit (l : List Int) (w : World) (h0 : l.length <= 16) : NewBytes l w (.returned (.slice (some ⟨w.heap.size, 0, none⟩) l.length l.length)) (w.alloc (.cells (l.map (Value.int .u8)).toArray 5)) := by
 have h1 : (l.map (Value.int .u8)).toArray.size = l.length * 1 := by rw [List.size_toArray, List.length_map, Nat.mul_one]
 have h2 : (l.map (Value.int .u8)).toArray.toList.take (l.length * 1) = l.map (Value.int .u8) := by
  show (l.map (Value.int .u8)).take (l.length * 1) = _
  exact List.take_of_length_le (by rw [List.length_map, Nat.mul_one]; exact Nat.le_refl _)
 exact ⟨_, rfl, ⟨by rw [List.length_map, Nat.mul_one], .inr ⟨w.heap.size, l.length, (l.map (Value.int .u8)).toArray, rfl, Nat.le_refl _, heap_alloc_new _ _, Nat.le_refl _, by unfold maxLen; omega, h1, h2⟩⟩, balloc (Below.refl _ _)⟩
theorem u8_in (x : Int) (h0 : 0 <= x) (h1 : x < 256) : IntKind.u8.wrap x = x := IntWalk.u8_in x (by omega)
theorem reight_any (a : Int) (w : World) (h0 : 0 <= a) (h1 : a <= 1114111) : Calls Tryz.prog 205 #[.int .i64 a] w fun e w' => NewBytes (eightL a) w e w' := by
 by_cases c1 : a < 128
 ·have e1 : eightL a = [a] := by unfold eightL; rw [if_pos c1]
  have k1 := u8_in a h0 (by omega)
  have hn := newBytes_lit [a] w (by simp)
  rw [e1]
  have HN := Lib.hid hn
  clear hn e1
  go_enter Tryz.func205, Tryz.ntmps205
  go_wp2
  go_ret
  exact HN.out
 ·by_cases c2 : a < 2048
  ·have e1 : eightL a = [192 + a / 64, 128 + a % 64] := by unfold eightL; rw [if_neg c1, if_pos c2]
   have k1 := u8_in (192 + a / 64) (by omega) (by omega)
   have k2 := u8_in (128 + a % 64) (by omega) (by omega)
   have hn := newBytes_lit [192 + a / 64, 128 + a % 64] w (by simp)
   rw [e1]
   have HN := Lib.hid hn
   clear hn e1
   go_enter Tryz.func205, Tryz.ntmps205
   go_wp2
   go_ret
   exact HN.out
  ·by_cases c3 : a < 65536
   ·have e1 : eightL a = [224 + a / 4096, 128 + a / 64 % 64, 128 + a % 64] := by unfold eightL; rw [if_neg c1, if_neg c2, if_pos c3]
    have k1 := u8_in (224 + a / 4096) (by omega) (by omega)
    have k2 := u8_in (128 + a / 64 % 64) (by omega) (by omega)
    have k3 := u8_in (128 + a % 64) (by omega) (by omega)
    have hn := newBytes_lit [224 + a / 4096, 128 + a / 64 % 64, 128 + a % 64] w (by simp)
    rw [e1]
    have HN := Lib.hid hn
    clear hn e1
    go_enter Tryz.func205, Tryz.ntmps205
    go_wp2
    go_ret
    exact HN.out
   ·have e1 : eightL a = [240 + a / 262144, 128 + a / 4096 % 64, 128 + a / 64 % 64, 128 + a % 64] := by unfold eightL; rw [if_neg c1, if_neg c2, if_neg c3]
    have k1 := u8_in (240 + a / 262144) (by omega) (by omega)
    have k2 := u8_in (128 + a / 4096 % 64) (by omega) (by omega)
    have k3 := u8_in (128 + a / 64 % 64) (by omega) (by omega)
    have k4 := u8_in (128 + a % 64) (by omega) (by omega)
    have hn := newBytes_lit [240 + a / 262144, 128 + a / 4096 % 64, 128 + a / 64 % 64, 128 + a % 64] w (by simp)
    rw [e1]
    have HN := Lib.hid hn
    clear hn e1
    go_enter Tryz.func205, Tryz.ntmps205
    go_wp2
    go_ret
    exact HN.out
def begB (l : List Int) (p : Nat) (x : List Int) : Bool := decide (p + x.length <= l.length /\ ∀ i, i < x.length -> l.getD (p + i) 0 = x.getD i 0)
theorem begB_eq (l : List Int) (p : Nat) (x : List Int) (h : p + x.length <= l.length) : begB l p x = decide ((l.drop p).take x.length = x) := by
 unfold begB
 rw [Bool.eq_iff_iff]
 simp only [decide_eq_true_eq]
 constructor
 ·rintro ⟨_, h2⟩
  apply List.ext_getElem?
  intro i
  rw [List.getElem?_take]
  by_cases hi : i < x.length
  ·rw [if_pos hi, List.getElem?_drop]
   have := h2 i hi
   rw [List.getD_eq_getElem?_getD, List.getD_eq_getElem?_getD, List.getElem?_eq_getElem (by omega), List.getElem?_eq_getElem hi] at this
   simp at this
   rw [List.getElem?_eq_getElem (by omega), List.getElem?_eq_getElem hi, this]
  ·rw [if_neg hi, List.getElem?_eq_none (by omega)]
 ·intro h2
  refine ⟨h, fun i hi => ?_⟩
  have := congrArg (fun y => y.getD i 0) h2
  rw [List.getD_eq_getElem?_getD, List.getElem?_take, if_pos hi, List.getElem?_drop, <- List.getD_eq_getElem?_getD] at this
  exact this
def BegR (l x : List Int) (p : Nat) (w0 : World) (k : Nat) (q : Value) (wr : World) : Prop :=
 ∃ i : Nat, q = .int .i64 (i : Int) /\ i <= x.length /\ x.length - i <= k /\ Hid (∀ j, j < i -> l.getD (p + j) 0 = x.getD j 0) /\ Below w0.heap.size w0 wr
theorem rbegins_any (D D' : Nat -> Prop) (A A' : Option Addr) (n c m c' p : Nat) (l x : List Int) (w : World) (hl : Bts w D A n l) (hx : Bts w D' A' m x) (hn : n <= 2147483648) (hm : m <= 16) (hp : p <= n) :
  Calls Tryz.prog 206 #[.slice A n c, .int .i64 (p : Int), .slice A' m c'] w fun e w' => e = .returned (.bool (begB l p x)) /\ Below w.heap.size w w' := by
 have hle := hl.len
 have hxe := hx.len
 by_cases h1 : p + m <= n
 ·have q1 : ((n : Int) < (p : Int) + (m : Int)) = False := by simp; omega
  go_enter Tryz.func206, Tryz.ntmps206
  go_wp2_with fail
  go_loopg [7] m (fun k q wr => BegR l x p w k q wr)
  case atStart => exact ⟨0, rfl, Nat.zero_le _, by omega, Lib.hid (fun j hj => absurd hj (by omega)), Below.refl _ _⟩
  case round =>
   obtain ⟨i, rfl, hi, hk, hh, hb⟩ := hrel
   by_cases hlt : i < m
   ·obtain ⟨ad, hA, _, c1⟩ := Bts.at_ (Reads.below hl hb) (show p + i < n by omega)
    obtain ⟨ad', hA', _, c2⟩ := Bts.at_ (Reads.below hx hb) hlt
    subst hA
    subst hA'
    obtain ⟨a, ha⟩ : ∃ a, l.getD (p + i) 0 = a := ⟨_, rfl⟩
    obtain ⟨b, hb'⟩ : ∃ b, x.getD i 0 = b := ⟨_, rfl⟩
    rw [ha] at c1
    rw [hb'] at c2
    have HA := Lib.hid ha
    have HB := Lib.hid hb'
    clear ha hb'
    have hs : IntKind.i64.wrap ((p : Int) + (i : Int)) = ((p + i : Nat) : Int) := by rw [IntWalk.i64_in _ (by omega)]; omega
    by_cases hab : a = b
    ·have hne : (a != b) = false := by simp [hab]
     go_wp2_with fail
     go_quiet (fail)
     go_wp2_with fail
     go_roundg (m - (i + 1))
     case measure => omega
     case rel =>
      refine ⟨i + 1, by go_num, by omega, by omega, Lib.hid (fun j hj => ?_), below_drewN hb _⟩
      rcases Nat.lt_or_ge j i with h | h
      ·exact hh.out j h
      ·rw [show j = i by omega, HA.out, HB.out, hab]
    ·have hne : (a != b) = true := by simp [hab]
     go_wp2_with fail
     go_quiet (fail)
     go_wp2_with fail
     go_ret
     refine ⟨ret_b ?_, below_drewN hb _⟩
     symm
     unfold begB
     rw [decide_eq_false_iff_not]
     rintro ⟨_, h2⟩
     apply hab
     rw [<- HA.out, <- HB.out]
     exact h2 i (by omega)
   ·go_wp2_with fail
    go_ret
    refine ⟨ret_b ?_, hb⟩
    symm
    unfold begB
    rw [decide_eq_true_eq]
    exact ⟨by omega, fun j hj => hh.out j (by omega)⟩
 ·have q1 : ((n : Int) < (p : Int) + (m : Int)) = True := by simp; omega
  go_enter Tryz.func206, Tryz.ntmps206
  go_wp2_with fail
  go_ret
  refine ⟨ret_b ?_, Below.refl _ _⟩
  symm
  unfold begB
  rw [decide_eq_false_iff_not]
  rintro ⟨h2, _⟩
  omega
def accM (x0 : Int) (l : List Int) : Nat -> Int
 | 0 => 0
 | 1 => x0
 | i + 2 => accM x0 l (i + 1) * 64 + l.getD (i + 1) 0 - 128
def leadN (n : Nat) : Int := if n = 2 then 192 else if n = 3 then 224 else if n = 4 then 240 else 0
theorem meantF_acc (l : List Int) {n : Nat} (h0 : 1 <= n) (h1 : n <= 4) : meantF l n = accM (l.getD 0 0 - leadN n) l n := by
 match n, h0, h1 with
 | 1, _, _ => simp [meantF, accM, leadN]
 | 2, _, _ => rfl
 | 3, _, _ => rfl
 | 4, _, _ => rfl
theorem accM_bd {x0 : Int} {l : List Int} (hb : Byt l) (hx : -256 <= x0 /\ x0 <= 256) {i : Nat} (h : i <= 4) : -134217728 <= accM x0 l i /\ accM x0 l i <= 134217728 := by
 have b1 := hb.at_ 1
 have b2 := hb.at_ 2
 have b3 := hb.at_ 3
 match i, h with
 | 0, _ => simp [accM]
 | 1, _ => simp only [accM]; omega
 | 2, _ => simp only [accM, Nat.reduceAdd]; omega
 | 3, _ => simp only [accM, Nat.reduceAdd]; omega
 | 4, _ => simp only [accM, Nat.reduceAdd]; omega
def MeantR (x0 : Int) (l : List Int) (n : Nat) (w0 : World) (k : Nat) (q8 q9 : Value) (wr : World) : Prop :=
 ∃ i : Nat, ∃ v : Int, q8 = .int .i64 v /\ q9 = .int .i64 (i : Int) /\ Hid (v = accM x0 l i) /\ -134217728 <= v /\ v <= 134217728 /\ 1 <= i /\ i <= n /\ 4 - i <= k /\ Below w0.heap.size w0 wr
theorem rmeant_any (D : Nat -> Prop) (A : Option Addr) (N c p n : Nat) (l : List Int) (w : World) (hl : Bts w D A N l) (hB : Byt l) (hN : N <= 2147483648) (hn : n = 1 \/ n = 2 \/ n = 3 \/ n = 4) (hp : p + n <= N) :
  Calls Tryz.prog 203 #[.slice A N c, .int .i64 (p : Int), .int .i64 (n : Int)] w fun e w' => e = .returned (.int .i64 (meantF (l.drop p) n)) /\ Below w.heap.size w w' := by
 have hle := hl.len
 have hn14 : 1 <= n /\ n <= 4 := by omega
 rw [meantF_acc _ hn14.1 hn14.2, getD_drop', Nat.add_zero]
 obtain ⟨ad, rfl, _, c0⟩ := hl.at_ (show p < N by omega)
 have hlt := lt_of_cell c0
 rw [block_of_add] at hlt
 have b0 := hB.at_ p
 obtain ⟨x, hx⟩ : ∃ x, l.getD p 0 = x := ⟨_, rfl⟩
 rw [hx] at c0 b0 ⊢
 have hbl : Below w.heap.size w (w.alloc (.cells #[.int .i64 0, .int .i64 0, .int .i64 192, .int .i64 224, .int .i64 240] 280)) := balloc (Below.refl _ _)
 have hBn := Blk.new w 280 #[.int .i64 0, .int .i64 0, .int .i64 192, .int .i64 224, .int .i64 240]
 have c0' := hbl.cell (p := ad.add p) (by rw [block_of_add]; exact hlt)
 rw [c0] at c0'
 have HX := Lib.hid hx
 obtain ⟨m, hm⟩ : ∃ m, n = m := ⟨_, rfl⟩
 have hpm : p + m <= N /\ m <= 4 := by omega
 have hacc := fun (i : Nat) (h : i <= 4) => accM_bd (x0 := x - leadN m) (l := l.drop p) (hB.drop p) (by unfold leadN; (repeat' split) <;> omega) (i := i) h
 have HACC := Lib.hid hacc
 have h1 : (0 : Int) <= (p : Int) := by omega
 have h2 : (p : Int) < (N : Int) := by omega
 have HM := Lib.hid hm
 clear hx hacc hbl hm
 rcases hn with rfl | rfl | rfl | rfl
 all_goals
  go_enter Tryz.func203, Tryz.ntmps203
  go_wp2_with fail
  go_quiet (fail)
  go_wp2_with fail
  go_loopg [8, 9] 4 (fun k q8 q9 wr => MeantR (x - leadN m) (l.drop p) m w k q8 q9 wr)
  case atStart =>
   have hm := HM.out
   subst hm
   exact ⟨1, _, rfl, rfl, Lib.hid (by simp [accM, leadN]), by omega, by omega, by omega, by omega, by omega, below_drewN (balloc (Below.refl _ _)) _⟩
  case round =>
   obtain ⟨i, v, rfl, rfl, hv, hv0, hv1, hi0, hi1, hk, hb⟩ := hrel
   by_cases hlt : i < m
   ·obtain ⟨ad', hA, _, c1⟩ := Bts.at_ (Reads.below hl hb) (show p + i < N by omega)
    obtain rfl : ad = ad' := by injection hA
    have by1 := hB.at_ (p + i)
    have e1 : accM (x - leadN m) (l.drop p) (i + 1) = accM (x - leadN m) (l.drop p) i * 64 + l.getD (p + i) 0 - 128 := by
     obtain ⟨j, rfl⟩ : ∃ j, i = j + 1 := ⟨i - 1, by omega⟩
     rw [accM, getD_drop']
    rw [<- hv.out] at e1
    obtain ⟨y, hy⟩ : ∃ y, l.getD (p + i) 0 = y := ⟨_, rfl⟩
    rw [hy] at c1 by1 e1
    have hs : IntKind.i64.wrap ((p : Int) + (i : Int)) = ((p + i : Nat) : Int) := by rw [IntWalk.i64_in _ (by omega)]; omega
    have hbd := HACC.out (i + 1) (by omega)
    rw [e1] at hbd
    have hm := HM.out
    subst hm
    have HE := Lib.hid e1
    clear hy e1
    go_wp2_with fail
    all_goals
     clear hs
     go_roundg (4 - (i + 1))
     case measure => omega
     case rel => exact ⟨i + 1, _, rfl, by go_num, Lib.hid HE.out.symm, by omega, by omega, by omega, by omega, by omega, hb⟩
   ·have hm := HM.out
    subst hm
    go_wp2_with fail
    go_ret
    refine ⟨ret_i ?_, hb⟩
    rw [hv.out]
    congr 1
    omega
theorem meantF_bd {l : List Int} (hb : Byt l) {n : Nat} (h0 : 1 <= n) (h1 : n <= 4) : -134217728 <= meantF l n /\ meantF l n <= 134217728 := by
 rw [meantF_acc l h0 h1]
 have := hb.at_ 0
 exact accM_bd hb (by unfold leadN; (repeat' split) <;> omega) h1
theorem ref8_at {l : List Int} {n : Nat} (h0 : 1 <= n) (h1 : n <= 4) (hok : okR l n = true) (hno : ∀ k, 1 <= k -> k < n -> okR l k = false) : ref8 l = (meantF l n, (n : Int)) := by
 unfold ref8
 match n, h0, h1 with
 | 1, _, _ => rw [if_pos hok]; rfl
 | 2, _, _ => rw [if_neg (by rw [hno 1 (by omega) (by omega)]; decide), if_pos hok]; rfl
 | 3, _, _ => rw [if_neg (by rw [hno 1 (by omega) (by omega)]; decide), if_neg (by rw [hno 2 (by omega) (by omega)]; decide), if_pos hok]; rfl
 | 4, _, _ => rw [if_neg (by rw [hno 1 (by omega) (by omega)]; decide), if_neg (by rw [hno 2 (by omega) (by omega)]; decide), if_neg (by rw [hno 3 (by omega) (by omega)]; decide), if_pos hok]; rfl
theorem ref8_none {l : List Int} (hno : ∀ k, 1 <= k -> k <= 4 -> okR l k = false) : ref8 l = (-1 - l.getD 0 0, 1) := by
 unfold ref8
 rw [if_neg (by rw [hno 1 (by omega) (by omega)]; decide), if_neg (by rw [hno 2 (by omega) (by omega)]; decide), if_neg (by rw [hno 3 (by omega) (by omega)]; decide), if_neg (by rw [hno 4 (by omega) (by omega)]; decide)]
theorem scalarF_bd {a : Int} (h : scalarF a = true) : 0 <= a /\ a <= 1114111 := by
 unfold scalarF at h
 rw [Bool.or_eq_true, decide_eq_true_eq, decide_eq_true_eq] at h
 omega
theorem eightL_len (a : Int) : 1 <= (eightL a).length /\ (eightL a).length <= 4 := by unfold eightL; (repeat' split) <;> simp
def E8R (L : List Int) (w0 : World) (k : Nat) (q : Value) (wr : World) : Prop :=
 ∃ n : Nat, q = .int .i64 (n : Int) /\ 1 <= n /\ n <= 5 /\ 5 - n <= k /\ Hid (∀ k, 1 <= k -> k < n -> okR L k = false) /\ Below w0.heap.size w0 wr
theorem reightAt_any (D : Nat -> Prop) (A : Option Addr) (N c p : Nat) (l : List Int) (w : World) (hl : Bts w D A N l) (hB : Byt l) (hN : N <= 2147483648) (hp : p < N) :
  Calls Tryz.prog 191 #[.slice A N c, .int .i64 (p : Int)] w fun e w' => e = .returned (.tuple #[.int .i64 (ref8 (l.drop p)).1, .int .i64 (ref8 (l.drop p)).2]) /\ Below w.heap.size w w' := by
 have hle := hl.len
 have hL : (l.drop p).length = N - p := by rw [List.length_drop, hle]
 have hL0 : (l.drop p).getD 0 0 = l.getD p 0 := by rw [getD_drop', Nat.add_zero]
 have hBL := hB.drop p
 have hm := fun (n : Nat) (w' : World) (h : n = 1 \/ n = 2 \/ n = 3 \/ n = 4) (h2 : p + n <= N) (hb : Below w.heap.size w w') => rmeant_any D A N c p n l w' (Reads.below hl hb) hB hN h h2
 have hg := fun (m c' : Nat) (A' : Option Addr) (x : List Int) (w' : World) (hx : Bts w' Any A' m x) (hm : m <= 16) (hb : Below w.heap.size w w') => rbegins_any D Any A A' N c m c' p l x w' (Reads.below hl hb) hx hN hm (Nat.le_of_lt hp)
 have hbe := fun (x : List Int) (h : p + x.length <= N) => begB_eq l p x (by rw [hle]; exact h)
 obtain ⟨L, hLL⟩ : ∃ L, l.drop p = L := ⟨_, rfl⟩
 rw [hLL] at hm hL hL0 hBL hbe
 rw [hLL]
 have HM := Lib.hid hm
 have HG := Lib.hid hg
 have HBE := Lib.hid hbe
 have HL := Lib.hid hL
 have HL0 := Lib.hid hL0
 clear hm hg hbe hL hL0 hLL
 go_enter Tryz.func191, Tryz.ntmps191
 go_wp2_with fail
 go_loopg [6] 5 (fun k q wr => E8R L w k q wr)
 case atStart => exact ⟨1, rfl, by omega, by omega, by omega, Lib.hid (fun k h1 h2 => absurd h2 (by omega)), Below.refl _ _⟩
 case round =>
  obtain ⟨n, rfl, hn1, hn5, hk, hno, hb⟩ := hrel
  by_cases hgo : n <= 4 /\ p + n <= N
  ·obtain ⟨hg4, hgN⟩ := hgo
   have q1 : ((p : Int) + (n : Int) <= (N : Int)) = True := by simp; omega
   have hmb := meantF_bd hBL hn1 hg4
   have HM2 := HM.out n wr (by omega) hgN hb
   have hokd : okR L n = (decide (n <= L.length) && scalarF (meantF L n) && (eightL (meantF L n) == L.take n)) := rfl
   have hr8 := fun (h : okR L n = true) => ref8_at hn1 hg4 h hno.out
   obtain ⟨M, hM⟩ : ∃ M, meantF L n = M := ⟨_, rfl⟩
   rw [hM] at hmb HM2 hokd hr8
   have hlenL := HL.out
   have hle1 : decide (n <= L.length) = true := by simp; omega
   rw [hle1, Bool.true_and] at hokd
   have HM3 := Lib.hid HM2
   have HR := Lib.hid hr8
   have HOK := Lib.hid hokd
   clear HM2 hr8 hokd hle1 hM
   go_wp2_with fail
   refine (HM3.out).mono ?_
   rintro e w1 ⟨rfl, hb1⟩
   have hw1 := bseq hb hb1
   cases hsc : scalarF M with
   | false =>
    have hs := rscalar_any M w1
    rw [hsc] at hs
    have HS := Lib.hid hs
    have HSC := Lib.hid hsc
    clear hs hsc
    go_wp2_with fail
    refine (HS.out).mono ?_
    rintro e w2 ⟨rfl, rfl⟩
    go_wp2_with fail
    go_roundg (5 - (n + 1))
    case measure => omega
    case rel =>
     refine ⟨n + 1, by go_num, by omega, by omega, by omega, Lib.hid (fun k h1 h2 => ?_), hw1⟩
     rcases Nat.lt_or_ge k n with h | h
     ·exact hno.out k h1 h
     ·rw [show k = n by omega, HOK.out, HSC.out]; rfl
   | true =>
    have hs := rscalar_any M w1
    rw [hsc] at hs
    have hMb := scalarF_bd hsc
    have HS := Lib.hid hs
    have HSC := Lib.hid hsc
    clear hs hsc
    go_wp2_with fail
    refine (HS.out).mono ?_
    rintro e w2 ⟨rfl, rfl⟩
    go_wp2_with fail
    refine (reight_any M w1 hMb.1 hMb.2).mono ?_
    rintro e w3 ⟨v, rfl, hown, hb3⟩
    obtain ⟨A', c', rfl, _⟩ := own_slice hown
    have hxl := eightL_len M
    obtain ⟨X, hX⟩ : ∃ X, eightL M = X := ⟨_, rfl⟩
    rw [hX] at hown hxl
    rw [hX]
    have hw3 := bseq hw1 hb3
    have hbg := HG.out X.length c' A' X w3 (Reads.more (Reads.of_own hown) (fun _ _ _ => trivial) (by decide)) (by omega) hw3
    have hbe : X.length = n -> begB l p X = decide (L.take X.length = X) := fun h => HBE.out X (by omega)
    obtain ⟨m, hm⟩ : ∃ m, X.length = m := ⟨_, rfl⟩
    rw [hm] at hbg hxl hbe
    rw [hm]
    obtain ⟨b, hbb⟩ : ∃ b, begB l p X = b := ⟨_, rfl⟩
    rw [hbb] at hbg hbe
    have HBG := Lib.hid hbg
    have HB2 := Lib.hid hbe
    have HX := Lib.hid hX
    have HMM := Lib.hid hm
    clear hbg hbe hbb hX hm hown
    by_cases hok : okR L n = true
    ·have hxx := HOK.out
     rw [hok, HSC.out, HX.out, Bool.true_and] at hxx
     have hx3 : X = L.take n := by rw [eq_comm, beq_iff_eq] at hxx; exact hxx
     have hmn : m = n := by
      have := congrArg List.length hx3
      rw [List.length_take, HMM.out] at this
      omega
     have hbt : b = true := by
      rw [HB2.out hmn, decide_eq_true_eq, hmn]
      exact hx3.symm
     subst hmn
     subst hbt
     have HOK2 := Lib.hid hok
     clear hok hxx hx3
     go_wp2_with fail
     refine (HBG.out).mono ?_
     rintro e w4 ⟨rfl, hb4⟩
     have q2 : ((m : Int) == (m : Int)) = true := by simp
     go_wp2_with fail
     go_ret2
     exact ⟨by rw [HR.out HOK2.out]; rfl, bseq hw3 hb4⟩
    ·have hok' : okR L n = false := by
      cases h : okR L n with
      | true => exact absurd h hok
      | false => rfl
     have hnext : Hid (∀ k, 1 <= k -> k < n + 1 -> okR L k = false) := Lib.hid (fun k h1 h2 => by
      rcases Nat.lt_or_ge k n with h | h
      ·exact hno.out k h1 h
      ·rw [show k = n by omega]; exact hok')
     by_cases hmn : m = n
     ·have hbf : b = false := by
       cases hb0 : b with
       | false => rfl
       | true =>
        exfalso
        apply hok
        have h1 := HB2.out hmn
        rw [hb0, eq_comm, decide_eq_true_eq, hmn] at h1
        rw [HOK.out, HSC.out, HX.out, Bool.true_and, beq_iff_eq]
        exact h1.symm
      subst hmn
      subst hbf
      clear hok hok'
      go_wp2_with fail
      refine (HBG.out).mono ?_
      rintro e w4 ⟨rfl, hb4⟩
      have q2 : ((m : Int) == (m : Int)) = true := by simp
      go_wp2_with fail
      go_roundg (5 - (m + 1))
      case measure => omega
      case rel => exact ⟨m + 1, by go_num, by omega, by omega, by omega, hnext, bseq hw3 hb4⟩
     ·clear hok hok'
      go_wp2_with fail
      refine (HBG.out).mono ?_
      rintro e w4 ⟨rfl, hb4⟩
      have q2 : ((m : Int) == (n : Int)) = false := by rw [beq_eq_false_iff_ne]; omega
      go_wp2_with fail
      go_roundg (5 - (n + 1))
      case measure => omega
      case rel => exact ⟨n + 1, by go_num, by omega, by omega, by omega, hnext, bseq hw3 hb4⟩
  ·have hfin : ref8 L = (-1 - L.getD 0 0, 1) := ref8_none (fun k h1 h2 => by
    rcases Nat.lt_or_ge k n with h | h
    ·exact hno.out k h1 h
    ·unfold okR
     have := HL.out
     rw [show decide (k <= L.length) = false by rw [decide_eq_false_iff_not]; omega]
     rfl)
   rw [HL0.out] at hfin
   obtain ⟨ad, rfl, _, c0⟩ := Bts.at_ (Reads.below hl hb) hp
   obtain ⟨x, hx⟩ : ∃ x, l.getD p 0 = x := ⟨_, rfl⟩
   have bx := hB.at_ p
   rw [hx] at c0 hfin bx
   have HF := Lib.hid hfin
   clear hfin hx
   have hx' : ((n : Int) <= 4) = False \/ (((n : Int) <= 4) = True /\ ((p : Int) + (n : Int) <= (N : Int)) = False) := by simp; omega
   rcases hx' with q1 | ⟨q1, q2⟩
   all_goals
    go_wp2_with fail
    go_ret2
    exact ⟨by rw [HF.out]; rfl, hb⟩
theorem runitAt_any (o : Int) (D : Nat -> Prop) (A : Option Addr) (N c p : Nat) (l : List Int) (w : World) (ho : o = 0 \/ o = 1) (hl : Bts w D A N l) (hB : Byt l) (hN : N <= 2147483648) (hp : p <= N + 2) :
  Calls Tryz.prog 192 #[.int .i64 (o + 2), .slice A N c, .int .i64 (p : Int)] w fun e w' => e = .returned (.int .i64 (ref16u o (l.drop p))) /\ Below w.heap.size w w' := by
 have hle := hl.len
 by_cases h2 : p + 2 <= N
 ·obtain ⟨ad, rfl, _, c0⟩ := hl.at_ (show p < N by omega)
  obtain ⟨ad', hA, _, c1⟩ := hl.at_ (show p + 1 < N by omega)
  obtain rfl : ad = ad' := by injection hA
  have b0 := hB.at_ p
  have b1 := hB.at_ (p + 1)
  have hfin : ref16u o (l.drop p) = if o = 0 then l.getD p 0 + l.getD (p + 1) 0 * 256 else l.getD (p + 1) 0 + l.getD p 0 * 256 := by
   unfold ref16u unitF
   rw [if_neg (by rw [List.length_drop]; omega), getD_drop', getD_drop', Nat.add_zero]
  obtain ⟨x, hx⟩ : ∃ x, l.getD p 0 = x := ⟨_, rfl⟩
  obtain ⟨y, hy⟩ : ∃ x, l.getD (p + 1) 0 = x := ⟨_, rfl⟩
  rw [hx] at c0 b0 hfin
  rw [hy] at c1 b1 hfin
  have q1 : ((N : Int) < (p : Int) + 2) = False := by simp; omega
  have HF := Lib.hid hfin
  clear hfin hx hy hA
  have g1 : (0 : Int) <= (p : Int) := by omega
  have g2 : (p : Int) < (N : Int) := by omega
  have g3 : (0 : Int) <= (p : Int) + 1 := by omega
  have g4 : (p : Int) + 1 < (N : Int) := by omega
  have g5 : ((p : Int) + 1).toNat = p + 1 := by omega
  rw [add_pos ad (p + 1) (by omega)] at c1
  have m1 : IntKind.i64.wrap x = x := IntWalk.i64_in _ (by omega)
  have m2 : IntKind.i64.wrap y = y := IntWalk.i64_in _ (by omega)
  have m3 : IntKind.i64.wrap (256 * x) = 256 * x := IntWalk.i64_in _ (by omega)
  have m4 : IntKind.i64.wrap (256 * y) = 256 * y := IntWalk.i64_in _ (by omega)
  have m5 : IntKind.i64.wrap (x + 256 * y) = x + 256 * y := IntWalk.i64_in _ (by omega)
  have m6 : IntKind.i64.wrap (256 * x + y) = 256 * x + y := IntWalk.i64_in _ (by omega)
  have hs : IntKind.i64.wrap ((p : Int) + 1) = (p : Int) + 1 := IntWalk.i64_in _ (by omega)
  rcases ho with rfl | rfl
  ·go_enter Tryz.func192, Tryz.ntmps192
   go_wp2_with fail
   go_quiet (fail)
   go_wp2_with fail
   go_ret
   exact ⟨ret_i (by rw [HF.out]; simp; omega), below_drewN (Below.refl _ _) _⟩
  ·go_enter Tryz.func192, Tryz.ntmps192
   go_wp2_with fail
   go_quiet (fail)
   go_wp2_with fail
   go_ret
   exact ⟨ret_i (by rw [HF.out]; simp; omega), below_drewN (Below.refl _ _) _⟩
 ·have q1 : ((N : Int) < (p : Int) + 2) = True := by simp; omega
  have hfin : ref16u o (l.drop p) = -1 := by unfold ref16u; rw [if_pos (by rw [List.length_drop]; omega)]
  rw [hfin]
  clear hfin
  rcases ho with rfl | rfl
  all_goals
   go_enter Tryz.func192, Tryz.ntmps192
   go_wp2_with fail
   go_ret
   exact ⟨rfl, Below.refl _ _⟩
theorem ref16u_bd (o : Int) (l : List Int) (h : Byt l) : -1 <= ref16u o l /\ ref16u o l < 65536 := by
 unfold ref16u
 have := unitF_bd o l h
 split <;> omega
theorem rat_any (enc : Int) (D : Nat -> Prop) (A : Option Addr) (N c p : Nat) (l : List Int) (w : World) (he : enc = 1 \/ enc = 2 \/ enc = 3 \/ enc = 4) (hl : Bts w D A N l) (hB : Byt l) (hN : N <= 2147483648) (hp : p < N) :
  Calls Tryz.prog 172 #[.int .i64 enc, .slice A N c, .int .i64 (p : Int)] w fun e w' => e = .returned (.tuple #[.int .i64 (refAt enc (l.drop p)).1, .int .i64 (refAt enc (l.drop p)).2]) /\ Below w.heap.size w w' := by
 have hL0 : (l.drop p).getD 0 0 = l.getD p 0 := by rw [getD_drop', Nat.add_zero]
 have bx := hB.at_ p
 obtain ⟨ad, rfl, _, c0⟩ := hl.at_ hp
 obtain ⟨x, hx⟩ : ∃ x, l.getD p 0 = x := ⟨_, rfl⟩
 rw [hx] at hL0 c0 bx
 have h16 : ∀ o : Int, o = 0 \/ o = 1 -> Calls Tryz.prog 172 #[.int .i64 (o + 2), .slice (some ad) N c, .int .i64 (p : Int)] w fun e w' => e = .returned (.tuple #[.int .i64 (ref16 o (l.drop p)).1, .int .i64 (ref16 o (l.drop p)).2]) /\ Below w.heap.size w w' := by
  intro o ho
  have hu := ref16u_bd o (l.drop p) (hB.drop p)
  have hv := ref16u_bd o (l.drop (p + 2)) (hB.drop _)
  have hd : ref16 o (l.drop p) = if ref16u o (l.drop p) < 0 then (-1 - x, 1) else if 55296 <= ref16u o (l.drop p) /\ ref16u o (l.drop p) < 56320 /\ 56320 <= ref16u o (l.drop (p + 2)) /\ ref16u o (l.drop (p + 2)) < 57344 then (65536 + (ref16u o (l.drop p) - 55296) * 1024 + ref16u o (l.drop (p + 2)) - 56320, 4) else (ref16u o (l.drop p), 2) := by
   unfold ref16
   rw [hL0, List.drop_drop]
  have k1 := fun (w' : World) (hb : Below w.heap.size w w') => runitAt_any o D (some ad) N c p l w' ho (Reads.below hl hb) hB hN (by omega)
  have k2 := fun (w' : World) (hb : Below w.heap.size w w') => runitAt_any o D (some ad) N c (p + 2) l w' ho (Reads.below hl hb) hB hN (by omega)
  obtain ⟨U, hU⟩ : ∃ x, ref16u o (l.drop p) = x := ⟨_, rfl⟩
  obtain ⟨V, hV⟩ : ∃ x, ref16u o (l.drop (p + 2)) = x := ⟨_, rfl⟩
  rw [hU] at k1 hd hu
  rw [hV] at k2 hd hv
  have HD := Lib.hid hd
  have K1 := Lib.hid k1
  have K2 := Lib.hid k2
  clear hd k1 k2 hU hV hx hL0
  have c0' := fun (w' : World) (hb : Below w.heap.size w w') => cell_keep hb c0
  have C0 := Lib.hid c0'
  clear c0 c0'
  have hs : ((p + 2 : Nat) : Int) = (p : Int) + 2 := by omega
  have HS := Lib.hid hs
  clear hs
  rcases ho with rfl | rfl
  all_goals
   go_enter Tryz.func172, Tryz.ntmps172
   go_wp2_with fail
   refine (K1.out _ (Below.refl _ _)).mono ?_
   rintro e w1 ⟨rfl, hb1⟩
   by_cases h1 : U < 0
   ·have c1 := C0.out w1 hb1
    go_wp2_with fail
    go_ret2
    exact ⟨by rw [HD.out, if_pos h1]; rfl, hb1⟩
   ·go_wp2_with fail
    have k2 := K2.out w1 hb1
    rw [HS.out] at k2
    refine (k2).mono ?_
    rintro e w2 ⟨rfl, hb2⟩
    clear k2
    go_wp2_with fail
    all_goals
     go_light
     go_ret2
     refine ⟨?_, bseq hb1 hb2⟩
     rw [HD.out, if_neg (by omega)]
     first
     | (rw [if_pos (by omega)]; rfl)
     | (rw [if_neg (by omega)]; rfl)
 rcases he with rfl | rfl | rfl | rfl
 ·have h8 := reightAt_any D (some ad) N c p l w hl hB hN hp
  have e1 : refAt 1 (l.drop p) = ref8 (l.drop p) := rfl
  rw [e1]
  obtain ⟨a, z, haz⟩ : ∃ a z, ref8 (l.drop p) = (a, z) := ⟨_, _, rfl⟩
  rw [haz] at h8 ⊢
  have H8 := Lib.hid h8
  clear h8 haz e1 c0 hx hL0 h16
  go_enter Tryz.func172, Tryz.ntmps172
  go_wp2_with fail
  refine (H8.out).mono ?_
  rintro e w1 ⟨rfl, hb1⟩
  go_wp2_with fail
  go_ret2
  exact ⟨rfl, hb1⟩
 ·exact h16 0 (.inl rfl)
 ·exact h16 1 (.inr rfl)
 ·have e1 : refAt 4 (l.drop p) = (x, 1) := by unfold refAt; rw [hL0]; rfl
  rw [e1]
  clear e1 hx hL0 h16
  go_enter Tryz.func172, Tryz.ntmps172
  go_wp2_with fail
  go_ret2
  exact ⟨rfl, Below.refl _ _⟩
theorem rknown_any (enc : Int) (w : World) : Calls Tryz.prog 171 #[.int .i64 enc] w fun e w' => e = .returned (.bool (decide (1 <= enc /\ enc <= 4))) /\ w = w' := by
 go_enter Tryz.func171, Tryz.ntmps171
 go_wp2
 all_goals
  go_light
  go_ret
  refine ⟨ret_b ?_, rfl⟩
  rw [Bool.eq_iff_iff]
  simp
  (try omega)
theorem rnext_any (enc : Int) (D : Nat -> Prop) (A : Option Addr) (N c p : Nat) (l : List Int) (w : World) (he : enc = 1 \/ enc = 2 \/ enc = 3 \/ enc = 4) (hl : Bts w D A N l) (hB : Byt l) (hN : N <= 2147483648) (hc : N <= c) (hp : p < N) :
  Calls Tryz.prog 146 #[.int .i64 enc, .slice A N c, .int .i64 (p : Int)] w fun e w' => e = .returned (.tuple #[.int .i64 (atomAt enc (l.drop p)), .int .i64 (sizeAt enc (l.drop p))]) /\ Below w.heap.size w w' := by
 have hle := hl.len
 have hcut := Reads.cut hl (Nat.le_of_lt hp) hc
 rw [if_neg (by omega), Nat.mul_one, <- List.map_drop] at hcut
 obtain ⟨ad, rfl, _, c0⟩ := hl.at_ hp
 have hat := fun (w' : World) (hb : Below w.heap.size w w') => rat_any enc D (some (ad.add p)) (N - p) (c - p) 0 (l.drop p) w' he (Reads.below hcut hb) (hB.drop _) (by omega) (by omega)
 rw [List.drop_zero, refAt_eq he (hB.drop p) (by rw [List.length_drop]; omega)] at hat
 have hk := rknown_any enc w
 rw [show decide (1 <= enc /\ enc <= 4) = true by rw [decide_eq_true_eq]; omega] at hk
 have HK := Lib.hid hk
 have HA := Lib.hid hat
 have q1 : ¬ c = p := by omega
 have q2 : (0 : Int) <= (p : Int) := by omega
 have q3 : (p : Int) <= (N : Int) := by omega
 have q4 : (p : Int) <= (c : Int) := by omega
 clear hk hat hcut c0 he
 go_enter Tryz.func146, Tryz.ntmps146
 go_wp2_with fail
 refine (HK.out).mono ?_
 rintro e w1 ⟨rfl, rfl⟩
 go_wp2_with fail
 refine (HA.out _ (Below.refl _ _)).mono ?_
 rintro e w1 ⟨rfl, hb1⟩
 go_wp2_with fail
 go_ret2
 exact ⟨rfl, hb1⟩
def Apart (u v : Value) : Prop := ∀ b, u.ownBlock = some b -> v.ownBlock ≠ some b
theorem Apart.symm {u v : Value} (h : Apart u v) : Apart v u := fun b h1 h2 => h b h2 h1
theorem own_lt {w : World} {base r : Nat} {e : TypeId} {size n : Nat} {v : Value} {xs : List Value} (h : w.ownsRow base e size v n xs) (hr : v.ownBlock = some r) : r < w.heap.size := by
 rcases h.2 with ⟨rfl, _⟩ | ⟨g', cap, cur, rfl, hb, hg, _⟩
 ·simp [Value.ownBlock] at hr
 ·have : g' = r := by simpa [Value.ownBlock] using hr
  subst this
  exact (Array.getElem?_eq_some_iff.1 hg).1
theorem Apart.grow {w : World} {base e size n : Nat} {u v u' : Value} {xs : List Value} (h : Apart u v) (hv : w.ownsRow base e size v n xs) (hu : u'.ownBlock = u.ownBlock \/ ∃ H, u'.ownBlock = some H /\ w.heap.size <= H) : Apart u' v := by
 intro b h1 h2
 rcases hu with hu | ⟨H, hu, hH⟩
 ·exact h b (hu ▸ h1) h2
 ·rw [hu] at h1
  injection h1 with h1
  have := own_lt hv h2
  omega
theorem ownsRow_grown {w w' : World} {row : Option Nat} {base e size n : Nat} {v : Value} {xs : List Value} (h : w.ownsRow base e size v n xs) (hg : w.grownBy w' row) (hne : ∀ b, v.ownBlock = some b -> row ≠ some b) : w'.ownsRow base e size v n xs := by
 refine ⟨h.1, ?_⟩
 rcases h.2 with h0 | ⟨g, cap, cur, rfl, h1, h2, h3⟩
 ·exact .inl h0
 ·refine .inr ⟨g, cap, cur, rfl, h1, ?_, h3⟩
  rw [hg.block g (Array.getElem?_eq_some_iff.1 h2).1 (fun e => hne g rfl e.symm)]
  exact h2
def RTx (w : World) (g : Nat) (enc lim : Int) (va vt : Value) : Prop := Blk w g 115 #[.int .i64 enc, .int .i64 lim, va, vt, .slice none 0 0]
def R5R (enc lim : Int) (l : List Int) (w : World) (k : Nat) (q9 : Value) (wr : World) : Prop :=
 ∃ (p : Nat) (pre : List (Int × Int)) (va vt : Value), q9 = .int .i64 (p : Int) /\ Hid (dec enc l = pre ++ dec enc (l.drop p) /\ (pre.map Prod.snd).sum = (p : Int)) /\ p <= l.length /\ pre.length <= p /\ l.length - p <= k /\ RTx wr w.heap.size enc lim va vt /\
  Hid (wr.ownsRow (w.heap.size + 1) 3 1 va pre.length ((pre.map Prod.fst).map (Value.int .i64))) /\ Hid (wr.ownsRow (w.heap.size + 1) 3 1 vt pre.length (((tagF 0 0 pre).map Prod.snd).map (Value.int .i64))) /\ Apart va vt /\ Below w.heap.size w wr /\ w.heap.size + 1 <= wr.heap.size
def RText (w : World) (B g : Nat) (enc lim : Int) (ats tgs : List Int) : Prop :=
 ∃ va vt, RTx w g enc lim va vt /\ w.ownsRow B 3 1 va ats.length (ats.map (Value.int .i64)) /\ w.ownsRow B 3 1 vt tgs.length (tgs.map (Value.int .i64))
def R5Post (enc lim : Int) (l : List Int) (w : World) (e : Ending) (w' : World) : Prop :=
 e = .returned (.tuple #[.pointer (some ⟨w.heap.size, 0, none⟩), .int .i64 0]) /\ RText w' w.heap.size w.heap.size enc lim ((dec enc l).map Prod.fst) ((tagF 0 0 (dec enc l)).map Prod.snd) /\ Below w.heap.size w w'
theorem ownsRow_le {w : World} {B B' e size n : Nat} {v : Value} {xs : List Value} (h : w.ownsRow B e size v n xs) (hB : B' <= B) : w.ownsRow B' e size v n xs := by
 refine ⟨h.1, ?_⟩
 rcases h.2 with h0 | ⟨g, cap, cur, rfl, h1, h2⟩
 ·exact .inl h0
 ·exact .inr ⟨g, cap, cur, rfl, Nat.le_trans hB h1, h2⟩
theorem own_set_other {w : World} {B e size n g i : Nat} {t : TypeId} {cs : Array Value} {v u : Value} {xs : List Value} (h : w.ownsRow B e size v n xs) (hg : Blk w g t cs) (hne : e ≠ t) : (w.setCell ⟨g, i, none⟩ u).ownsRow B e size v n xs :=
 ownsRow_setCell_other h (own_blk_ne h hg hne) _
theorem cell_one_new' (w : World) (v : Value) (T : TypeId) {H : Nat} (hH : w.heap.size = H) : ∀ j u, [v][j]? = some u -> (w.alloc (.cells #[v] T)).cell? ((⟨H, 0, none⟩ : Addr).add j) = some u := by
 subst hH
 exact cell_one_new _ _ _
theorem r5open_any (enc lim : Int) (D : Nat -> Prop) (A : Option Addr) (n c : Nat) (l : List Int) (w : World) (he : enc = 1 \/ enc = 2 \/ enc = 3 \/ enc = 4) (hl : Bts w D A n l) (hB : Byt l) (hlim : (n : Int) <= lim /\ lim <= 65536) (hcap : n <= c) :
  Calls Tryz.prog 113 #[.int .i64 enc, .slice A n c, .int .i64 lim] w fun e w' => R5Post enc lim l w e w' := by
 have hle := hl.len
 have hn : n <= 65536 := by omega
 have q2 : (lim < 0) = False := by simp; omega
 have q3 : (65536 < lim) = False := by simp; omega
 have q4 : (lim < (n : Int)) = False := by simp; omega
 have q0 : (enc < 1) = False := by simp; omega
 have q1 : (4 < enc) = False := by simp; omega
 obtain ⟨i0, hi, hz0, hz1, hz2⟩ := info_parts int_info
 have HE := Lib.hid he
 clear he
 go_enter Tryz.func113, Tryz.ntmps113
 go_wp2_with fail
 go_loopg [9] n (fun k q wr => R5R enc lim l w k q wr)
 case atStart =>
  refine ⟨0, [], .slice none 0 0, .slice none 0 0, rfl, Lib.hid ⟨by simp, rfl⟩, Nat.zero_le _, Nat.le_refl _, by omega, Blk.new w _ _, Lib.hid (World.ownsRow_nil _ _ _ _), Lib.hid (World.ownsRow_nil _ _ _ _), fun b h => by simp [Value.ownBlock] at h, balloc (Below.refl _ _), by simp⟩
 case round =>
  obtain ⟨p, pre, va, vt, rfl, hpre, hpl, hprel, hk, hT, hoA, hoT, hap, hb, hsz⟩ := hrel
  by_cases hlt : p < n
  ·have hz := sizeAt_bd enc (l.drop p) (by rw [List.length_drop]; omega)
   have hcn := rnext_any enc D A n c p l wr HE.out (Reads.below hl hb) hB (by omega) hcap hlt
   have hdc := dec_cons enc (l.drop p) (by rw [List.length_drop]; omega)
   obtain ⟨a, ha⟩ : ∃ a, atomAt enc (l.drop p) = a := ⟨_, rfl⟩
   obtain ⟨z, hzz⟩ : ∃ z : Nat, sizeAt enc (l.drop p) = (z : Int) := ⟨(sizeAt enc (l.drop p)).toNat, by omega⟩
   rw [ha, hzz] at hcn hdc
   rw [hzz, List.length_drop] at hz
   rw [List.drop_drop, Int.toNat_natCast] at hdc
   have HC := Lib.hid hcn
   have HD := Lib.hid hdc
   clear hcn hdc ha hzz
   go_wp2_with fail
   refine (HC.out).mono ?_
   rintro e w3 ⟨rfl, hb3⟩
   have hT3 := hT.below hb3
   have hA3 := ownsRow_below hoA.out hb3
   have hT3' := ownsRow_below hoT.out hb3
   have hs3 := hb3.size
   have hb13 := bseq hb hb3
   have c2 := hT3.cell 2
   have f2 := hT3.frozen 2
   have c3 := hT3.cell 3
   simp at c2 c3
   have q5 : ((z : Int) < 1) = False := by simp; omega
   have HA3 := Lib.hid hA3
   have HT3 := Lib.hid hT3'
   clear hA3 hT3'
   have hglt := hT3.lt
   go_wp2_with (at_builtin; refine wpList_append_own_at _ rfl (.tmp 49) (.tmp 51) 34 rfl (w.heap.size + 1) 3 i0 (.int .i64 0) 1 8 Tryz.underlying34 hi hz0 hz1 hz2 rfl (by decide) va pre.length _ rfl (HA3.out.alloc _) ⟨w3.heap.size, 0, none⟩ 1 1 [.int .i64 a] rfl rfl (cell_one_new _ _ _) (by simp [Value.oneCell']) (by unfold maxLen; omega) (by omega) (by simp; omega) ?_)
   intro va' w4 hoA4 hgr _ hat
   have hT4 : Blk w4 w.heap.size 115 _ := (hT3.alloc _).grown hgr (fun e => own_blk_ne HA3.out hT3 (by decide) e.symm)
   have hoT4 := ownsRow_grown (HT3.out.alloc _) hgr (fun b h1 h2 => hap b h2 h1)
   have hap4 : Apart va' vt := hap.grow HT3.out (hat.imp id (fun h => ⟨_, h, by simp⟩))
   have hb4 : Below w.heap.size w w4 := below_grown2 (balloc hb13) hgr (fun k hk => by have := own_ge HA3.out hk; omega)
   have hz4 : w.heap.size + 1 <= w4.heap.size := by have := hgr.size; simp at this; omega
   have hpw4 : w3.heap.size <= w4.heap.size := by have := hgr.size; simp at this; omega
   have d2 := hT4.cell 2
   have g2 := hT4.frozen 2
   have hT5 := hT4.set_ 2 va'
   have hoA5 := own_set_other (i := 2) (u := va') hoA4 hT4 (by decide)
   have hoT5 := own_set_other (i := 2) (u := va') hoT4 hT4 (by decide)
   have hb5 : Below w.heap.size w (w4.setCell ⟨w.heap.size, 2, none⟩ va') := hb4.setCell (Nat.le_refl _) _
   simp at d2
   have HA4 := Lib.hid hoA4
   have HA5 := Lib.hid hoA5
   have HT5 := Lib.hid hoT5
   have e5 := hT5.cell 3
   have e6 := hT5.frozen 3
   simp at e5
   obtain ⟨r, cap, hva, _, _⟩ := hoA4.form (by omega)
   subst hva
   clear hoA4 hoT4 hgr hat hoA5 hoT5 c2 c3 f2
   go_wp2_with (at_builtin; refine wpList_append_own_at _ rfl (.tmp 59) (.tmp 61) 34 rfl (w.heap.size + 1) 3 i0 (.int .i64 0) 1 8 Tryz.underlying34 hi hz0 hz1 hz2 rfl (by decide) vt pre.length _ rfl (HT5.out.alloc _) ⟨w4.heap.size, 0, none⟩ 1 1 [.int .i64 (p : Int)] rfl rfl (cell_one_new' _ _ _ (by simp [World.setCell])) (by simp [Value.oneCell']) (by unfold maxLen; omega) (by omega) (by simp; omega) ?_)
   intro vt' w6 hoT6 hgr _ hat
   have hT6 : Blk w6 w.heap.size 115 _ := (hT5.alloc _).grown hgr (fun e => own_blk_ne HT5.out hT5 (by decide) e.symm)
   have hoA6 := ownsRow_grown (HA5.out.alloc _) hgr (fun b h1 h2 => hap4 b h1 h2)
   have hap6 : Apart vt' (.slice (some ⟨r, 0, none⟩) (pre.length + 1) cap) := hap4.symm.grow HA5.out (hat.imp id (fun h => ⟨_, h, by simp⟩))
   have hb6 : Below w.heap.size w w6 := below_grown2 (balloc hb5) hgr (fun k hk => by have := own_ge HT5.out hk; omega)
   have hz6 : w.heap.size + 1 <= w6.heap.size := by have := hgr.size; simp [World.setCell] at this; omega
   obtain ⟨r2, cap2, hvt, _, _⟩ := hoT6.form (by omega)
   subst hvt
   have d3 := hT6.cell 3
   have g3 := hT6.frozen 3
   simp at d3
   have hT7 := hT6.set_ 3 (.slice (some ⟨r2, 0, none⟩) (pre.length + 1) cap2)
   have hoA7 := own_set_other (i := 3) (u := .slice (some ⟨r2, 0, none⟩) (pre.length + 1) cap2) hoA6 hT6 (by decide)
   have hoT7 := own_set_other (i := 3) (u := .slice (some ⟨r2, 0, none⟩) (pre.length + 1) cap2) hoT6 hT6 (by decide)
   have hb7 : Below w.heap.size w (w6.setCell ⟨w.heap.size, 3, none⟩ (.slice (some ⟨r2, 0, none⟩) (pre.length + 1) cap2)) := hb6.setCell (Nat.le_refl _) _
   have HA7 := Lib.hid hoA7
   have HT7 := Lib.hid hoT7
   clear hoT6 hoA6 hgr hat hoA7 hoT7 e5 e6 d2 g2 hi hz0 hz1 hz2
   go_wp2_with fail
   go_roundg (n - (p + z))
   case measure => omega
   case rel =>
    refine ⟨p + z, pre ++ [(a, (z : Int))], _, _, by go_num, Lib.hid ⟨?_, ?_⟩, by omega, by simp; omega, by omega, hT7.eq_ rfl, Lib.hid ?_, Lib.hid ?_, hap6.symm, hb7, by simpa [World.setCell] using hz6⟩
    ·rw [hpre.out.1, HD.out, List.append_assoc]; rfl
    ·rw [List.map_append, List.sum_append, hpre.out.2]; simp
    ·have := HA7.out
     simpa using this
    ·have := HT7.out
     rw [tagF_app, hpre.out.2]
     simpa [tagF] using this
  ·obtain rfl : p = l.length := by omega
   have hp := hpre.out
   rw [List.drop_length, dec_nil, List.append_nil] at hp
   go_wp2_with fail
   go_ret2
   refine ⟨rfl, ⟨va, vt, hT, ?_, ?_⟩, hb⟩ <;> rw [hp.1]
   ·rw [List.length_map]; exact ownsRow_le hoA.out (by omega)
   ·rw [List.length_map, tagF_len]; exact ownsRow_le hoT.out (by omega)
def openErr (enc lim : Int) (n : Nat) : Int := if enc < 1 \/ 4 < enc then 10 else if lim < 0 \/ 65536 < lim then 1 else if lim < (n : Int) then 50 else 0
theorem openErr_ok {enc lim : Int} {n : Nat} (h : openErr enc lim n = 0) : (enc = 1 \/ enc = 2 \/ enc = 3 \/ enc = 4) /\ (n : Int) <= lim /\ lim <= 65536 := by
 unfold openErr at h
 split at h
 ·cases h
 ·split at h
  ·cases h
  ·split at h
   ·cases h
   ·omega
end Go.Proofs.YtkoakanpaehkmaaGreatDoor
