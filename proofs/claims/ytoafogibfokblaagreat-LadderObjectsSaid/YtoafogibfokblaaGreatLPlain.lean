/-
  Lines and runs of one kind: what the walks of LadderObjects ask. (Plain.)
-/
import Derived.Test.YtoafogibfokblaaGreatLObj2
import Derived.Test.YtoafogibfokblaaGreatLWk4
import Derived.Test.YtoafogibfokblaaGreatLSure
set_option linter.unusedSimpArgs false
set_option linter.unusedVariables false
namespace Go.Proofs.YtoafogibfokblaaGreat
open Go.RowKit

theorem RunB.same_of {C : List Int} {N x y b e b' : Nat} (hb : RunB C x b) (he : RunE C N x e) (hy : b ≤ y) (hy2 : y < e) (hb' : RunB C y b') : b' = b := by
  have kx : ∀ k, b ≤ k → k < e → kd C k = kd C x := fun k h1 h2 => by
    rcases Nat.lt_or_ge k x with h | h
    · exact hb.same k h1 (Nat.le_of_lt h)
    · exact he.same k h h2
  have hyx := kx y hy hy2
  rcases Nat.lt_trichotomy b' b with h | h | h
  · rcases hb.first with h0 | h0
    · omega
    · exfalso
      apply h0
      rw [← hyx]
      exact hb'.same (b - 1) (by omega) (by omega)
  · exact h
  · rcases hb'.first with h0 | h0
    · omega
    · exfalso
      apply h0
      rw [hyx]
      have := hb'.le
      exact kx (b' - 1) (by omega) (by omega)
theorem RunE.same_of {C : List Int} {N x y b e e' : Nat} (hb : RunB C x b) (he : RunE C N x e) (hy : b ≤ y) (hy2 : y < e) (he' : RunE C N y e') : e' = e := by
  have kx : ∀ k, b ≤ k → k < e → kd C k = kd C x := fun k h1 h2 => by
    rcases Nat.lt_or_ge k x with h | h
    · exact hb.same k h1 (Nat.le_of_lt h)
    · exact he.same k h h2
  have hyx := kx y hy hy2
  rcases Nat.lt_trichotomy e' e with h | h | h
  · rcases he'.last with h0 | h0
    · have := he.le; omega
    · exfalso
      apply h0
      rw [hyx]
      have := he'.lt
      exact kx e' (by omega) h
  · exact h
  · rcases he.last with h0 | h0
    · have := he'.le; omega
    · exfalso
      apply h0
      rw [← hyx]
      exact he'.same e (by omega) h
section
variable {C : List Int} {x b e : Nat} (hb : RunB C x b) (he : RunE C (nC C) x e)
include hb he
theorem run_kd {k : Nat} (h1 : b ≤ k) (h2 : k < e) : kd C k = kd C x := by
  rcases Nat.lt_or_ge k x with h | h
  · exact hb.same k h1 (Nat.le_of_lt h)
  · exact he.same k h h2
theorem ends_in {q : Nat} (h1 : b ≤ q) (h2 : q < e - 1) : endsF C q = false := by
  have k1 := run_kd hb he h1 (by omega)
  have k2 := run_kd hb he (k := q + 1) (by omega) (by omega)
  have hl := he.le
  have e1 : ((q : Int) + 1 == (nC C : Int)) = false := by rw [beq_eq_false_iff_ne]; omega
  unfold endsF
  rw [k1, k2, e1]
  simp
theorem ends_last (h0 : kd C x ≠ 0) : endsF C (e - 1) = true := by
  have hlt := he.lt
  have hbl := hb.le
  have k1 := run_kd hb he (k := e - 1) (by omega) (by omega)
  unfold endsF
  rw [k1, show e - 1 + 1 = e by omega]
  rcases he.last with h | h
  · have e1 : (((e - 1 : Nat) : Int) + 1 == (nC C : Int)) = true := by rw [beq_iff_eq]; omega
    rw [e1]
    simpa using h0
  · simp [h0, h]
theorem begins_in {q : Nat} (h1 : b < q) (h2 : q < e) : beginsF C q = false := by
  have k1 := run_kd hb he (k := q) (by omega) h2
  have k2 := run_kd hb he (k := q - 1) (by omega) (by omega)
  have e1 : ((q : Int) == 0) = false := by rw [beq_eq_false_iff_ne]; omega
  unfold beginsF
  rw [k1, k2, e1]
  simp
theorem begins_first (h0 : kd C x ≠ 0) : beginsF C b = true := by
  have hlt := he.lt
  have hbl := hb.le
  have k1 := run_kd hb he (k := b) (Nat.le_refl _) (by omega)
  unfold beginsF
  rw [k1]
  rcases hb.first with h | h
  · have e1 : ((b : Int) == 0) = true := by rw [beq_iff_eq]; omega
    rw [e1]
    simpa using h0
  · simp [h0, h]
end
theorem from_sk (ds : List (Int × Int)) (i : Nat) : (lineF ds i).from_ = (sk ds i : Int) := by
  unfold lineF
  split
  · unfold closedF
    split
    · rfl
    · split <;> rfl
  · rfl
section
variable {ds : List (Int × Int)} (hp : PosD ds)
include hp
theorem sk_le_of {m k : Nat} (hm : m ≤ ds.length) (hk : k ≤ totE ds) (h : k ≤ cntE (ds.map Prod.fst) m) : sk ds k ≤ m := by
  rcases Nat.eq_zero_or_pos k with h0 | h0
  · subst h0; rw [sk_zero]; omega
  · obtain ⟨_, h2, h3⟩ := sk_spec hp h0 hk
    rcases Nat.lt_or_ge m (sk ds k) with h4 | h4
    · have := cntE_lt (ds.map Prod.fst) h4 h2
      omega
    · exact h4
theorem ofF_from {at_ : Int} (h0 : 0 ≤ at_) (h1 : at_ ≤ (ds.length : Int)) : (lineF ds (ofF ds at_)).from_ ≤ at_ := by
  rw [from_sk ds]
  have h2 := ofF_le ds at_
  have := sk_le_of hp (m := at_.toNat) (k := ofF ds at_) (by omega) h2 (by
    unfold ofF
    exact cntE_mono _ (Nat.min_le_left _ _))
  omega
theorem ofF_in {i : Nat} {p : Int} (hi : i ≤ totE ds) (h0 : (lineF ds i).from_ ≤ p) (h1 : p < (lineF ds i).to_) : ofF ds p = i ∧ rowIx ds p false = i := by
  have hbd := lineF_bd hp hi
  have hc := sk_cnt hp hi
  have hf := from_sk ds i
  have hlow : i ≤ cntE (ds.map Prod.fst) p.toNat := by
    have := cntE_mono (ds.map Prod.fst) (m := sk ds i) (n := p.toNat) (by omega)
    omega
  have hpn : p.toNat ≤ ds.length := by omega
  have hup : cntE (ds.map Prod.fst) p.toNat ≤ i ∧ i ≤ countF ds - 1 := by
    rcases Nat.lt_or_ge i (totE ds) with hlt | hge
    · have hnx : (lineF ds i).next = (sk ds (i + 1) : Int) := by
        unfold lineF
        rw [if_pos hlt]
        unfold closedF
        split
        · rfl
        · split <;> rfl
      obtain ⟨_, h2, h3⟩ := sk_spec hp (k := i + 1) (by omega) hlt
      have h4 := cntE_lt (ds.map Prod.fst) (m := p.toNat) (n := sk ds (i + 1)) (by omega) h2
      refine ⟨by omega, ?_⟩
      unfold countF
      omega
    · have hie : i = totE ds := by omega
      have h2 := cntE_mono (ds.map Prod.fst) hpn
      refine ⟨by rw [hie]; exact h2, ?_⟩
      have hto : (lineF ds i).to_ = (ds.length : Int) := by
        unfold lineF
        rw [if_neg (by omega)]
      have hend : endB ds = false := by
        unfold endB
        rw [decide_eq_false_iff_not]
        rintro ⟨_, h3⟩
        rw [← hie] at h3
        omega
      unfold countF
      rw [hend]
      simp
      omega
  have hof : ofF ds p = i := by
    unfold ofF
    rw [Nat.min_eq_left hpn]
    omega
  refine ⟨hof, ?_⟩
  unfold rowIx
  rw [hof]
  simp only [Bool.false_eq_true, if_false]
  omega
end
end Go.Proofs.YtoafogibfokblaaGreat
