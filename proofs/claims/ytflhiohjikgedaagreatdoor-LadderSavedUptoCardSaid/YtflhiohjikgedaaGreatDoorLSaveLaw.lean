/-
  Bytes are their atoms' bytes (plain): what was decoded and is encoded again is the same.
-/
import Derived.Test.YtflhiohjikgedaaGreatDoorLSized
import Derived.Test.YtflhiohjikgedaaGreatDoorLText
set_option linter.unusedSimpArgs false
set_option linter.unusedVariables false
set_option maxRecDepth 100000
set_option maxHeartbeats 32000000
namespace Go.Proofs.YtflhiohjikgedaaGreatDoor
open Go.RowKit
theorem list_2 {a b x y : Int} (h1 : a = x) (h2 : b = y) : [a, b] = [x, y] := by rw [h1, h2]
theorem list_3 {a b c x y z : Int} (h1 : a = x) (h2 : b = y) (h3 : c = z) : [a, b, c] = [x, y, z] := by rw [h1, h2, h3]
theorem list_4 {a b c d x y z u : Int} (h1 : a = x) (h2 : b = y) (h3 : c = z) (h4 : d = u) : [a, b, c, d] = [x, y, z, u] := by rw [h1, h2, h3, h4]
theorem put8_atom (l : List Int) (hB : Byt l) (h0 : 0 < l.length) : put8 (atom8 l) = l.take (size8 l).toNat := by
 cases l with
 | nil => simp at h0
 | cons b l =>
  have hb := hB b List.mem_cons_self
  have hr0 : rawF (b :: l) = decide (bdN b = 0 \/ rowHave (b :: l) < bdN b) := by unfold rawF; rfl
  unfold size8 atom8
  simp only [List.getD_cons_zero]
  cases hr : rawF (b :: l) with
  | true =>
   rw [hr0, decide_eq_true_eq] at hr
   have hge : 128 <= b := by
    rcases Int.lt_or_le b 128 with h | h
    ·exfalso
     have e1 : bdN b = 1 := by unfold bdN; rw [if_pos h]
     have e2 : rowHave (b :: l) = 1 := by unfold rowHave; simp only [List.getD_cons_zero]; rw [e1]; rfl
     omega
    ·exact h
   simp only [if_true]
   unfold put8
   rw [if_pos (by omega)]
   simp
   omega
  | false =>
   rw [hr0, decide_eq_false_iff_not, not_or] at hr
   obtain ⟨hr1, hr2⟩ := hr
   simp only [Bool.false_eq_true, if_false]
   unfold valF8
   simp only [List.getD_cons_zero, List.drop_succ_cons, List.drop_zero]
   unfold rowHave at hr2
   simp only [List.getD_cons_zero, List.getD_cons_succ, List.length_cons, List.drop_succ_cons] at hr2
   have hN : bdN b = 1 \/ bdN b = 2 \/ bdN b = 3 \/ bdN b = 4 := by have := bdN_le b; omega
   by_cases h1 : bdN b = 1
   ·have hlt : b < 128 := by unfold bdN at h1; (repeat' split at h1) <;> omega
    rw [h1]
    simp [leadF]
    unfold put8
    rw [if_neg (by omega), if_pos hlt]
   ·rw [if_neg (by omega)] at hr2
    split at hr2
    ·omega
    ·rename_i hc
     cases l with
     | nil => simp at hc
     | cons c l =>
      have hc2 := hB c (by simp)
      simp only [List.getD_cons_zero, List.length_cons] at hc hr2
      simp only [List.drop_succ_cons, List.drop_zero] at hr2
      have h2c : bdLo b <= c /\ c <= bdHi b := by omega
      obtain ⟨hlo, hhi⟩ := h2c
      clear hc
      by_cases h2 : bdN b = 2
      ·rw [h2] at hr2 ⊢
       have hlt : 194 <= b /\ b < 224 := by unfold bdN at h2; (repeat' split at h2) <;> omega
       have e2 : bdLo b = 128 := by unfold bdLo; rw [if_neg (by omega), if_pos (by omega)]
       have e3 : bdHi b = 191 := by unfold bdHi; rw [if_neg (by omega), if_pos (by omega)]
       simp [leadF, goOn]
       unfold put8
       rw [if_neg (by omega), if_neg (by omega), if_pos (by omega)]
       refine list_2 ?_ ?_ <;> omega
      ·cases l with
       | nil =>
        exfalso
        have : contF (bdN b - 2).toNat ([] : List Int) = 0 := by cases (bdN b - 2).toNat <;> rfl
        rw [this] at hr2
        omega
       | cons d l =>
        have hd2 := hB d (by simp)
        by_cases h3 : bdN b = 3
        ·rw [h3] at hr2 ⊢
         rw [show ((3 : Int) - 2).toNat = 1 by rfl] at hr2
         simp only [contF] at hr2
         have hd3 : 128 <= d /\ d < 192 := by
          split at hr2
          ·assumption
          ·omega
         have hlt : 224 <= b /\ b < 240 := by unfold bdN at h3; (repeat' split at h3) <;> omega
         simp [leadF, goOn]
         have k1 : b = 224 -> 160 <= c := fun h => by subst h; unfold bdLo at hlo; simp at hlo; exact hlo
         have k2 : b = 237 -> c <= 159 := fun h => by subst h; unfold bdHi at hhi; simp at hhi; exact hhi
         have k3 : 128 <= c := by unfold bdLo at hlo; (repeat' split at hlo) <;> omega
         have k4 : c <= 191 := by unfold bdHi at hhi; (repeat' split at hhi) <;> omega
         have hval : (b % 16 * 64 + c % 64) * 64 + d % 64 = (b - 224) * 4096 + (c - 128) * 64 + (d - 128) := by omega
         rw [hval]
         have m1 : 2048 <= (b - 224) * 4096 + (c - 128) * 64 + (d - 128) := by
          by_cases h : b = 224
          ·have := k1 h; omega
          ·omega
         have m2 : (b - 224) * 4096 + (c - 128) * 64 + (d - 128) < 65536 := by omega
         have m3 : ¬ (55296 <= (b - 224) * 4096 + (c - 128) * 64 + (d - 128) /\ (b - 224) * 4096 + (c - 128) * 64 + (d - 128) <= 57343) := by
          intro hx
          have : b = 237 := by omega
          have := k2 this
          omega
         unfold put8
         rw [if_neg (by omega), if_neg (by omega), if_neg (by omega), if_pos (by omega)]
         refine list_3 ?_ ?_ ?_ <;> omega
        ·have h4 : bdN b = 4 := by omega
         rw [h4] at hr2 ⊢
         rw [show ((4 : Int) - 2).toNat = 2 by rfl] at hr2
         cases l with
         | nil =>
          exfalso
          simp only [contF] at hr2
          split at hr2 <;> omega
         | cons e l =>
          have he2 := hB e (by simp)
          simp only [contF] at hr2
          have hd3 : (128 <= d /\ d < 192) /\ 128 <= e /\ e < 192 := by
           split at hr2
           ·split at hr2
            ·exact ⟨by assumption, by assumption⟩
            ·omega
           ·omega
          have hlt : 240 <= b /\ b <= 244 := by unfold bdN at h4; (repeat' split at h4) <;> omega
          simp [leadF, goOn]
          have k1 : b = 240 -> 144 <= c := fun h => by subst h; unfold bdLo at hlo; simp at hlo; exact hlo
          have k2 : b = 244 -> c <= 143 := fun h => by subst h; unfold bdHi at hhi; simp at hhi; exact hhi
          have k3 : 128 <= c := by unfold bdLo at hlo; (repeat' split at hlo) <;> omega
          have k4 : c <= 191 := by unfold bdHi at hhi; (repeat' split at hhi) <;> omega
          have hval : ((b % 8 * 64 + c % 64) * 64 + d % 64) * 64 + e % 64 = (b - 240) * 262144 + (c - 128) * 4096 + (d - 128) * 64 + (e - 128) := by omega
          rw [hval]
          have m1 : 65536 <= (b - 240) * 262144 + (c - 128) * 4096 + (d - 128) * 64 + (e - 128) := by
           by_cases h : b = 240
           ·have := k1 h; omega
           ·omega
          have m2 : (b - 240) * 262144 + (c - 128) * 4096 + (d - 128) * 64 + (e - 128) <= 1114111 := by
           by_cases h : b = 244
           ·have := k2 h; omega
           ·omega
          unfold put8
          rw [if_neg (by omega), if_neg (by omega), if_neg (by omega), if_neg (by omega)]
          refine list_4 ?_ ?_ ?_ ?_ <;> omega
theorem half_unit (o x y : Int) (r : List Int) (ho : o = 0 \/ o = 1) (hx : 0 <= x /\ x < 256) (hy : 0 <= y /\ y < 256) : half16 o (unitF o (x :: y :: r)) = [x, y] := by
 unfold half16 unitF
 rcases ho with rfl | rfl
 ·simp
  omega
 ·simp
  omega
theorem put16_atom (o : Int) (ho : o = 0 \/ o = 1) (l : List Int) (hB : Byt l) (h0 : 0 < l.length) : put16 o (atom16 o l) = l.take (size16 o l).toNat := by
 match l, hB, h0 with
 | [x], hB, _ =>
  have hx := hB x (by simp)
  unfold put16 atom16 size16
  simp
  rw [if_pos (by omega)]
  refine congrArg (· :: []) ?_
  omega
 | x :: y :: r, hB, _ =>
  have hx := hB x (by simp)
  have hy := hB y (by simp)
  have hu := unitF_bd o (x :: y :: r) hB
  have hh := half_unit o x y r ho hx hy
  unfold atom16 size16
  have hl1 : ¬ ((x :: y :: r).length = 1) := by simp
  rw [if_neg hl1, if_neg hl1]
  cases hp : pairF o (x :: y :: r) with
  | false =>
   simp only [Bool.false_eq_true, if_false]
   unfold put16
   rw [if_neg (by omega), if_pos (by omega), hh]
   simp
  | true =>
   simp only [if_true]
   unfold pairF at hp
   simp only [Bool.and_eq_true, decide_eq_true_eq, List.drop_succ_cons, List.drop_zero] at hp ⊢
   obtain ⟨⟨h1, h2⟩, h3⟩ := hp
   match r, hB, h2, h3 with
   | z :: v :: r, hB, _, h3 =>
    have hz := hB z (by simp)
    have hv := hB v (by simp)
    have hu2 := unitF_bd o (z :: v :: r) (fun t ht => hB t (List.mem_cons_of_mem _ (List.mem_cons_of_mem _ ht)))
    have hh2 := half_unit o z v r ho hz hv
    unfold highF at h1
    unfold lowF at h3
    rw [decide_eq_true_eq] at h1 h3
    unfold put16
    obtain ⟨a, ha⟩ : ∃ a, unitF o (x :: y :: z :: v :: r) = a := ⟨_, rfl⟩
    obtain ⟨b, hb⟩ : ∃ b, unitF o (z :: v :: r) = b := ⟨_, rfl⟩
    rw [ha] at h1 hh hu ⊢
    rw [hb] at h3 hh2 hu2 ⊢
    rw [if_neg (by omega), if_neg (by omega)]
    rw [show 55296 + (65536 + a % 1024 * 1024 + b % 1024 - 65536) / 1024 = a by omega, show 56320 + (65536 + a % 1024 * 1024 + b % 1024) % 1024 = b by omega, hh, hh2]
    simp
theorem put_atom (enc : Int) (l : List Int) (he : enc = 1 \/ enc = 2 \/ enc = 3 \/ enc = 4) (hB : Byt l) (h0 : 0 < l.length) : putA enc (atomAt enc l) = l.take (sizeAt enc l).toNat := by
 unfold putA atomAt sizeAt
 rcases he with rfl | rfl | rfl | rfl
 ·exact put8_atom l hB h0
 ·exact put16_atom 0 (.inl rfl) l hB h0
 ·exact put16_atom 1 (.inr rfl) l hB h0
 ·cases l with
  | nil => simp at h0
  | cons x l => simp [atomL]
theorem putL_dec (enc : Int) (he : enc = 1 \/ enc = 2 \/ enc = 3 \/ enc = 4) : ∀ (n : Nat) (l : List Int), l.length <= n -> Byt l -> putL enc ((dec enc l).map Prod.fst) = l := by
 intro n
 induction n with
 | zero =>
  intro l h _
  have e : l = [] := List.eq_nil_of_length_eq_zero (by omega)
  subst e
  rfl
 | succ n ih =>
  intro l h hB
  by_cases h0 : 0 < l.length
  ·have hz := sizeAt_bd enc l h0
   rw [dec_cons enc l h0, List.map_cons, putL_cons, put_atom enc l he hB h0, ih (l.drop (sizeAt enc l).toNat) (by rw [List.length_drop]; omega) (hB.drop _), List.take_append_drop]
  ·have e : l = [] := List.eq_nil_of_length_eq_zero (by omega)
   subst e
   rfl
def bytesL (ps : List Pc) : List Int := ps.flatMap (·.bytes)
theorem bytesL_put (enc : Int) (he : enc = 1 \/ enc = 2 \/ enc = 3 \/ enc = 4) : ∀ (ps : List Pc), (∀ p ∈ ps, PcOk enc p) -> bytesL ps = putL enc ((decL enc ps).map Prod.fst) := by
 intro ps
 induction ps with
 | nil => intro _; rfl
 | cons p ps ih =>
  intro h
  have h1 := ih (fun q hq => h q (List.mem_cons_of_mem _ hq))
  have h2 := putL_dec enc he _ p.bytes (Nat.le_refl _) (h p List.mem_cons_self).1
  show p.bytes ++ bytesL ps = putL enc ((dec enc p.bytes ++ decL enc ps).map Prod.fst)
  rw [List.map_append, putL_app, h2, h1]
theorem dec_whole (enc : Int) (he : enc = 1 \/ enc = 2 \/ enc = 3 \/ enc = 4) (ps : List Pc) (hok : ∀ p ∈ ps, PcOk enc p) (hf : Fit enc ((decL enc ps).map Prod.fst)) (hp : ∀ a ∈ (decL enc ps).map Prod.fst, Plain a) : (dec enc (bytesL ps)).map Prod.fst = (decL enc ps).map Prod.fst := by
 rw [bytesL_put enc he ps hok, dec_putL enc he _ hf hp]
 unfold withSz
 rw [List.map_map]
 exact List.map_id _
end Go.Proofs.YtflhiohjikgedaaGreatDoor
