/-
  Where the k-th break lies. (Plain.)
-/
import Derived.Test.YtoafogibfokblaaGreatLText
set_option linter.unusedSimpArgs false
set_option linter.unusedVariables false
namespace Go.Proofs.YtoafogibfokblaaGreat
open Go.RowKit

/-- how many atoms go by till k breaks have -/
def fbF (k : Int) : Sums → List (Int × Int) → Nat
  | _, [] => 0
  | s, d :: r => if k ≤ s.breaks then 0 else fbF k (stepS s d) r + 1
theorem stepS_good {s : Sums} {d : Int × Int} (hs : s.good) (hd : 1 ≤ d.2) : (stepS s d).good ∧ (stepS s d).atoms = s.atoms + 1 ∧ s.breaks ≤ (stepS s d).breaks := by
  have h1 := addF_good hs (singleF_good d.1 d.2 hd)
  have h2 := keyF_mono hs (singleF_good d.1 d.2 hd) 1
  exact ⟨h1.1, h1.2.1, h2⟩
theorem foldl_mono {xs : List (Int × Int)} : ∀ {s : Sums}, s.good → PosD xs → s.breaks ≤ (xs.foldl stepS s).breaks := by
  induction xs with
  | nil => intro s _ _; exact Int.le_refl _
  | cons d xs ih =>
    intro s hs hx
    have h1 := stepS_good hs (hx d List.mem_cons_self)
    exact Int.le_trans h1.2.2 (ih h1.1 (fun e he => hx e (List.mem_cons_of_mem _ he)))
theorem fbF_app {k : Int} {ys : List (Int × Int)} (xs : List (Int × Int)) : ∀ (s : Sums), s.good → PosD xs →
    (k ≤ (xs.foldl stepS s).breaks → fbF k s (xs ++ ys) = fbF k s xs) ∧ ((xs.foldl stepS s).breaks < k → fbF k s (xs ++ ys) = xs.length + fbF k (xs.foldl stepS s) ys) := by
  induction xs with
  | nil =>
    intro s hs _
    refine ⟨fun h => ?_, fun h => by simp⟩
    cases ys with
    | nil => rfl
    | cons d r =>
      rw [List.nil_append]
      show (if k ≤ s.breaks then 0 else fbF k (stepS s d) r + 1) = 0
      exact if_pos h
  | cons d xs ih =>
    intro s hs hx
    have h1 := stepS_good hs (hx d List.mem_cons_self)
    have hx' : PosD xs := fun e he => hx e (List.mem_cons_of_mem _ he)
    have hm := foldl_mono h1.1 hx'
    obtain ⟨i1, i2⟩ := ih _ h1.1 hx'
    have e1 : fbF k s (d :: xs ++ ys) = if k ≤ s.breaks then 0 else fbF k (stepS s d) (xs ++ ys) + 1 := rfl
    have e2 : fbF k s (d :: xs) = if k ≤ s.breaks then 0 else fbF k (stepS s d) xs + 1 := rfl
    rw [e1, e2]
    refine ⟨fun h => ?_, fun h => ?_⟩
    · split
      · rfl
      · rw [i1 h]
    · have h' : (xs.foldl stepS (stepS s d)).breaks < k := h
      have h2 := h1.2.2
      rw [if_neg (by omega), i2 h']
      show _ = xs.length + 1 + fbF k (xs.foldl stepS (stepS s d)) ys
      omega
theorem fbF_le (k : Int) (xs : List (Int × Int)) : ∀ s, fbF k s xs ≤ xs.length := by
  induction xs with
  | nil => intro s; simp [fbF]
  | cons d xs ih => intro s; simp only [fbF, List.length_cons]; split; omega; have := ih (stepS s d); omega
/-- the piece in which a key is reached -/
theorem findL_key {kk : Int} : ∀ (ps : List Pc) (s : Sums) (n : Int), AllGood ps → s.good → keyF s kk < n → n ≤ keyF (addF s (sumL ps)) kk →
    ∃ i : Nat, findL kk n s ps = i + 1 ∧ i < ps.length ∧ keyF (addF s (sumL (ps.take i))) kk < n ∧ n ≤ keyF (addF s (sumL (ps.take (i + 1)))) kk := by
  intro ps
  induction ps with
  | nil => intro s n _ hs h1 h2; rw [sumL_nil, addF_zero_right hs] at h2; omega
  | cons p ps ih =>
    intro s n hok hs h1 h2
    have hp := hok p List.mem_cons_self
    have hps : AllGood ps := fun q hq => hok q (List.mem_cons_of_mem _ hq)
    have ga := addF_good hs hp
    have hfu : findL kk n s (p :: ps) = if n ≤ keyF (addF s p.sum) kk then 1 else findL kk n (addF s p.sum) ps + 1 := rfl
    rw [hfu]
    by_cases hle : n ≤ keyF (addF s p.sum) kk
    · rw [if_pos hle]
      refine ⟨0, rfl, by simp, ?_, ?_⟩
      · rw [List.take_zero, sumL_nil, addF_zero_right hs]; exact h1
      · rw [Nat.zero_add, List.take_succ_cons, List.take_zero, sumL_cons, sumL_nil, addF_zero_right hp]; exact hle
    · rw [if_neg hle]
      rw [sumL_cons, ← addF_assoc hs hp (sumL_good hps).1] at h2
      obtain ⟨i, e1, e2, e3, e4⟩ := ih (addF s p.sum) n hps ga.1 (by omega) h2
      refine ⟨i + 1, by rw [e1]; omega, by simpa using e2, ?_, ?_⟩
      · rw [List.take_succ_cons, sumL_cons, ← addF_assoc hs hp (sumL_good (take_good hps i)).1]; exact e3
      · rw [List.take_succ_cons, sumL_cons, ← addF_assoc hs hp (sumL_good (take_good hps (i + 1))).1]; exact e4
/-- where the k-th break's atoms end -/
def sF (ds : List (Int × Int)) (k : Int) : Int :=
  if k = 0 then 0 else if k < 0 ∨ (sumsOf ds).breaks < k then -1 else
  if (sumsOf (ds.take (fbF k zeroS ds))).cr = true ∧ fbF k zeroS ds < ds.length ∧ (ds.map Prod.fst).getD (fbF k zeroS ds) 0 = 10 then (fbF k zeroS ds : Int) + 1 else fbF k zeroS ds
end Go.Proofs.YtoafogibfokblaaGreat
