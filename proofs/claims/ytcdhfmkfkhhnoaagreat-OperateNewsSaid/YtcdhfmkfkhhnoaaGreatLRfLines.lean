/-
  The document's lines (package copyistref6), in plain words: the kind of a text's first break.
-/
import Derived.Test.YtcdhfmkfkhhnoaaGreatLLines2
set_option linter.unusedSimpArgs false
set_option linter.unusedVariables false
namespace Go.Proofs.YtcdhfmkfkhhnoaaGreat
open Go.RowKit

/-- the kind of the first break (0: there is none) -/
def brk1 : List Int → Int
  | [] => 0
  | a :: r => if a = 10 then 1 else if a = 13 then (if r.head? = some 10 then 2 else 3) else brk1 r
theorem brk1_skip (pre r : List Int) (h : ∀ x ∈ pre, x ≠ 10 ∧ x ≠ 13) : brk1 (pre ++ r) = brk1 r := by
  induction pre with
  | nil => rfl
  | cons a pre ih =>
    have ha := h a (by simp)
    rw [List.cons_append, brk1, if_neg ha.1, if_neg ha.2]
    exact ih (fun x hx => h x (by simp [hx]))
theorem brk1_split (A : List Int) : ∃ pre r, A = pre ++ r ∧ (∀ x ∈ pre, x ≠ 10 ∧ x ≠ 13) ∧ (r = [] ∨ ∃ b s, r = b :: s ∧ (b = 10 ∨ b = 13)) := by
  induction A with
  | nil => exact ⟨[], [], rfl, by simp, .inl rfl⟩
  | cons a A ih =>
    by_cases ha : a = 10 ∨ a = 13
    · exact ⟨[], a :: A, rfl, by simp, .inr ⟨a, A, rfl, ha⟩⟩
    · obtain ⟨pre, r, h1, h2, h3⟩ := ih
      refine ⟨a :: pre, r, by rw [h1]; rfl, fun x hx => ?_, h3⟩
      rcases List.mem_cons.1 hx with rfl | hx
      · omega
      · exact h2 x hx
theorem getD_pre (pre r : List Int) (k : Nat) (h : k < pre.length) : (pre ++ r).getD k 0 ∈ pre := by
  rw [List.getD_eq_getElem?_getD, List.getElem?_append_left h, List.getElem?_eq_getElem h]
  exact List.getElem_mem _
theorem getD_app (pre r : List Int) (k : Nat) : (pre ++ r).getD (pre.length + k) 0 = r.getD k 0 := by
  rw [List.getD_eq_getElem?_getD, List.getElem?_append_right (by omega), List.getD_eq_getElem?_getD, Nat.add_sub_cancel_left]
theorem cntE_none (A : List Int) (m : Nat) (h : ∀ q, 0 < q → q ≤ m → isE A q = false) : cntE A m = 0 := by
  induction m with
  | zero => rfl
  | succ m ih =>
    rw [cntE_succ, ih (fun q h1 h2 => h q h1 (by omega)), h (m + 1) (by omega) (Nat.le_refl _)]
    simp
theorem sk_one {ds : List (Int × Int)} (hp : PosD ds) {p : Nat} (h0 : isE (ds.map Prod.fst) p = true) (h1 : ∀ q, 0 < q → q < p → isE (ds.map Prod.fst) q = false) : 0 < totE ds ∧ sk ds 1 = p := by
  have hpl := isE_le h0
  rw [List.length_map] at hpl
  have c0 := cntE_none (ds.map Prod.fst) (p - 1) (fun q a b => h1 q a (by omega))
  have c1 : cntE (ds.map Prod.fst) p = 1 := by
    have := cntE_succ (ds.map Prod.fst) (p - 1)
    rw [show p - 1 + 1 = p by omega, c0, h0] at this
    simpa using this
  have ht : 1 ≤ totE ds := by
    unfold totE
    rw [← c1]
    exact cntE_mono _ hpl.2
  obtain ⟨_, h2, h3⟩ := sk_spec hp (k := 1) (by omega) ht
  refine ⟨ht, ?_⟩
  rcases Nat.lt_trichotomy (sk ds 1) p with h | h | h
  · have := cntE_mono (ds.map Prod.fst) (m := sk ds 1) (n := p - 1) (by omega)
    omega
  · exact h
  · have := cntE_lt (ds.map Prod.fst) h h2
    omega
theorem lineF_brk {ds : List (Int × Int)} (hp : PosD ds) : (lineF ds 0).brk = brk1 (ds.map Prod.fst) := by
  obtain ⟨pre, r, hA, hpre, hr⟩ := brk1_split (ds.map Prod.fst)
  have hno : ∀ q, 0 < q → q ≤ pre.length → isE (ds.map Prod.fst) q = false := by
    intro q h1 h2
    unfold isE
    rw [decide_eq_false_iff_not]
    rintro ⟨_, _, h3⟩
    have h4 := hpre _ (getD_pre pre r (q - 1) (by omega))
    rw [← hA] at h4
    omega
  have key : ∀ p, isE (ds.map Prod.fst) p = true → (∀ q, 0 < q → q < p → isE (ds.map Prod.fst) q = false) → (lineF ds 0).brk = if (ds.map Prod.fst).getD (p - 1) 0 = 13 then 3 else if 2 ≤ p ∧ (ds.map Prod.fst).getD (p - 2) 0 = 13 then 2 else 1 := by
    intro p h1 h2
    obtain ⟨h3, h4⟩ := sk_one hp h1 h2
    unfold lineF
    rw [if_pos h3, sk_zero, h4]
    unfold closedF
    rw [Nat.zero_add]
    split
    · rfl
    · split <;> rfl
  have hlen : (ds.map Prod.fst).length = pre.length + r.length := by rw [hA, List.length_append]
  rw [show brk1 (ds.map Prod.fst) = brk1 r by rw [hA]; exact brk1_skip pre r hpre]
  rcases hr with rfl | ⟨b, s, rfl, hb⟩
  · have ht : totE ds = 0 := by
      unfold totE
      refine cntE_none _ _ (fun q h1 h2 => hno q h1 ?_)
      rw [List.length_map] at hlen
      simp at hlen
      omega
    unfold lineF
    rw [if_neg (by omega)]
    rfl
  · have g0 : (ds.map Prod.fst).getD pre.length 0 = b := by
      have := getD_app pre (b :: s) 0
      rw [← hA] at this
      exact this
    have g1 : (ds.map Prod.fst).getD (pre.length + 1) 0 = s.getD 0 0 := by
      have := getD_app pre (b :: s) 1
      rw [← hA] at this
      exact this
    simp only [List.length_cons] at hlen
    have gp : ∀ k, k < pre.length → (ds.map Prod.fst).getD k 0 ≠ 13 := fun k hk => by
      have := (hpre _ (getD_pre pre (b :: s) k hk)).2
      rw [← hA] at this
      exact this
    rcases hb with rfl | rfl
    · rw [key (pre.length + 1) (by
        unfold isE
        rw [decide_eq_true_eq]
        exact ⟨by omega, by omega, .inl (by rw [Nat.add_sub_cancel]; exact g0)⟩) (fun q h1 h2 => hno q h1 (by omega))]
      rw [Nat.add_sub_cancel, g0, if_neg (by omega), if_neg ?_]
      · rfl
      · rintro ⟨h1, h2⟩
        exact gp _ (by omega) h2
    · by_cases hs : s.head? = some 10
      · obtain ⟨t, rfl⟩ : ∃ t, s = 10 :: t := by
          cases s with
          | nil => cases hs
          | cons x t => simp at hs; exact ⟨t, by rw [hs]⟩
        simp only [List.getD_cons_zero, List.length_cons] at g1 hlen
        rw [key (pre.length + 2) (by
          unfold isE
          rw [decide_eq_true_eq]
          exact ⟨by omega, by omega, .inl (by rw [show pre.length + 2 - 1 = pre.length + 1 by omega]; exact g1)⟩) (fun q h1 h2 => by
            rcases Nat.lt_or_ge pre.length q with h3 | h3
            · have e : q = pre.length + 1 := by omega
              rw [e]
              unfold isE
              rw [decide_eq_false_iff_not, Nat.add_sub_cancel, g0, g1]
              rintro ⟨_, _, h4 | h4⟩
              · omega
              · apply h4.2
                exact ⟨by omega, rfl⟩
            · exact hno q h1 h3)]
        rw [show pre.length + 2 - 1 = pre.length + 1 by omega, g1, if_neg (by omega), Nat.add_sub_cancel, g0, if_pos ⟨by omega, rfl⟩]
        rfl
      · rw [key (pre.length + 1) (by
          unfold isE
          rw [decide_eq_true_eq]
          refine ⟨by omega, by omega, .inr ⟨by rw [Nat.add_sub_cancel]; exact g0, ?_⟩⟩
          rintro ⟨h1, h2⟩
          rw [g1] at h2
          apply hs
          cases s with
          | nil =>
            rw [List.length_nil] at hlen
            omega
          | cons x t => simp at h2 ⊢; exact h2) (fun q h1 h2 => hno q h1 (by omega))]
        rw [Nat.add_sub_cancel, g0, if_pos rfl]
        unfold brk1
        rw [if_neg (by omega), if_pos rfl, if_neg hs]
end Go.Proofs.YtcdhfmkfkhhnoaaGreat
