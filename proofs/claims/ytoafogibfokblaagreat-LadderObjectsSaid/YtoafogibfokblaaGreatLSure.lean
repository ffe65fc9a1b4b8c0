/-
  Where two neighbours part by themselves there is a boundary; cluster.Next tells the least boundary above an offset. (Plain.)
-/
import Derived.Test.YtoafogibfokblaaGreatLRow6
import Derived.Test.YtoafogibfokblaaGreatLCluster5
set_option linter.unusedSimpArgs false
set_option linter.unusedVariables false
namespace Go.Proofs.YtoafogibfokblaaGreat
open Go.RowKit

theorem sure_no {s : Scan} {a b : Int} (h : sureF a b = true) (hs : s.last = classF a) : joinsF s b = false := by
  unfold sureF at h
  unfold joinsF
  rw [hs]
  rw [Bool.and_eq_true, Bool.or_eq_true] at h
  obtain ⟨h1, h2⟩ := h
  rw [if_neg (fun hh => by rw [hh.1, hh.2] at h2; exact absurd h2 (by decide)), if_pos h1]
theorem takesF_last {s : Scan} {b : Int} (h : joinsF s b = true) : (takesF s b).last = classF b := by
  unfold takesF
  rw [if_pos h]
  rfl
theorem runF_sure : ∀ (l : List Int) (s : Scan) (a : Int) (k : Nat), s.last = classF a → k < l.length → sureF ((a :: l).getD k 0) (l.getD k 0) = true → runF s l ≤ k := by
  intro l
  induction l with
  | nil => intro s a k _ hk; simp at hk
  | cons b r ih =>
    intro s a k hs hk h
    unfold runF
    split
    · rename_i hj
      cases k with
      | zero =>
        have := sure_no (s := s) (a := a) (b := b) (by simpa using h) hs
        rw [this] at hj
        cases hj
      | succ k =>
        have := ih (takesF s b) b k (takesF_last hj) (by simpa using hk) (by simpa using h)
        omega
    · omega
theorem nextB_sure {l : List Int} {q k : Nat} (hq : q < k) (hk : k < l.length) (h : sureF (l.getD (k - 1) 0) (l.getD k 0) = true) : nextB l q ≤ k := by
  unfold nextB
  have h1 : (l.drop (q + 1)).getD (k - (q + 1)) 0 = l.getD k 0 := by
    rw [List.getD_eq_getElem?_getD, List.getElem?_drop, List.getD_eq_getElem?_getD, show q + 1 + (k - (q + 1)) = k by omega]
  have h2 : (l.getD q 0 :: l.drop (q + 1)).getD (k - (q + 1)) 0 = l.getD (k - 1) 0 := by
    rcases Nat.eq_or_lt_of_le (show q + 1 ≤ k from hq) with e | e
    · rw [← e, Nat.sub_self]
      rfl
    · obtain ⟨m, hm⟩ : ∃ m, k - (q + 1) = m + 1 := ⟨k - (q + 1) - 1, by omega⟩
      rw [hm, List.getD_cons_succ, List.getD_eq_getElem?_getD, List.getElem?_drop, List.getD_eq_getElem?_getD, show q + 1 + m = k - 1 by omega]
  have := runF_sure (l.drop (q + 1)) (beginF (l.getD q 0)) (l.getD q 0) (k - (q + 1)) rfl (by rw [List.length_drop]; omega) (by rw [h1, h2]; exact h)
  omega
theorem inC_ex {C : List Int} {r : Nat} (hr : r ≤ C.length) : ∃ j, InC C r j := by
  have key : ∀ n, n ≤ nC C → ∃ j, j ≤ n ∧ mkb C j ≤ r ∧ ∀ k, j < k → k ≤ n → r < mkb C k := by
    intro n
    induction n with
    | zero => intro _; exact ⟨0, Nat.le_refl _, by rw [mk_zero]; omega, fun k h1 h2 => by omega⟩
    | succ n ih =>
      intro hn
      obtain ⟨j, h1, h2, h3⟩ := ih (by omega)
      rcases Nat.lt_or_ge r (mkb C (n + 1)) with h4 | h4
      · refine ⟨j, by omega, h2, fun k hk hk2 => ?_⟩
        rcases Nat.eq_or_lt_of_le hk2 with e | e
        · rw [e]; exact h4
        · exact h3 k hk (by omega)
      · exact ⟨n + 1, Nat.le_refl _, h4, fun k hk hk2 => by omega⟩
  obtain ⟨j, h1, h2, h3⟩ := key (nC C) (Nat.le_refl _)
  exact ⟨j, h1, h2, h3⟩
theorem sure_mk {l : List Int} {k : Nat} (hk : k < l.length) (h : sureF (l.getD (k - 1) 0) (l.getD k 0) = true) : ∃ j, j < nC l ∧ mkb l j = k := by
  obtain ⟨j, hj⟩ := inC_ex (C := l) (r := k) (by omega)
  have hlt := hj.lt hk
  refine ⟨j, hlt, ?_⟩
  rcases Nat.eq_or_lt_of_le hj.low with e | e
  · exact e
  · have h1 := nextB_sure e hk h
    have h2 := hj.next hlt
    rw [(mk_step hlt).2] at h2
    omega
theorem safeG_spec (l : List Int) (p : Nat) (hp : p < l.length) : ∃ j, j < nC l ∧ mkb l j = safeG l p := by
  induction p with
  | zero => exact ⟨0, nC_pos hp, by simp [safeG, mk_zero]⟩
  | succ p ih =>
    simp only [safeG]
    split
    · rename_i h
      exact sure_mk hp (by simpa using h)
    · exact ih (by omega)
theorem bnds_mk {C : List Int} {j : Nat} (hj : j < nC C) : bnds C (mkb C j) = mkb C (j + 1) :: bnds C (mkb C (j + 1)) := by
  rw [bnds_lt _ _ (mk_step hj).1, ← (mk_step hj).2]
theorem fold_next {C : List Int} {p j : Nat} (h : InC C p j) (hp : p < C.length) : ∀ (f j0 s : Nat), j - j0 ≤ f → j0 ≤ j →
    foldU (fun (s k : Nat) => (decide (k ≤ p), if p < k then k else s)) s (bnds C (mkb C j0)) = mkb C (j + 1) := by
  have hlt := h.lt hp
  have hn := h.next hlt
  intro f
  induction f with
  | zero =>
    intro j0 s hf hj0
    have e : j0 = j := by omega
    subst e
    rw [bnds_mk hlt]
    unfold foldU
    rw [if_neg (by simp; omega), if_pos hn]
  | succ f ih =>
    intro j0 s hf hj0
    rcases Nat.eq_or_lt_of_le hj0 with e | e
    · subst e
      rw [bnds_mk hlt]
      unfold foldU
      rw [if_neg (by simp; omega), if_pos hn]
    · rw [bnds_mk (by omega)]
      unfold foldU
      have h1 := mk_mono (C := C) (a := j0 + 1) (b := j) e h.le
      have h2 := h.low
      rw [if_pos (by simp; omega)]
      exact ih (j0 + 1) _ (by omega) e
theorem nextF_mk {C : List Int} {p j : Nat} (h : InC C p j) (hp : p < C.length) : nextF C p = mkb C (j + 1) := by
  unfold nextF
  rw [if_pos hp]
  obtain ⟨j0, h1, h2⟩ := safeG_spec C p hp
  have h3 : safeF C (p + 1) = safeG C p := by
    unfold safeF
    rw [show min (p + 1) C.length - 1 = p by omega]
  have h4 := safeG_le C p
  rw [h3, ← h2]
  refine fold_next h hp _ j0 _ (Nat.le_refl _) ?_
  rcases Nat.lt_or_ge j j0 with h5 | h5
  · have := h.high j0 h5 (by omega)
    omega
  · exact h5
end Go.Proofs.YtoafogibfokblaaGreat
