/-
  Where the k-th break lies. (Plain.) Line ends in a list of atoms: what Breaks counts and what Seek finds. (Plain.)
-/
import Derived.Test.YtcdhfmkfkhhnoaaGreatLText
import Derived.Test.YtcdhfmkfkhhnoaaGreatLBreaks
set_option linter.unusedSimpArgs false
set_option linter.unusedVariables false
namespace Go.Proofs.YtcdhfmkfkhhnoaaGreat
open Go.RowKit

/-- how many atoms go by till k breaks have -/
def fbF (k : Int) : Sums → List (Int × Int) → Nat
  | _, [] => 0
  | s, d :: r => if k ≤ s.breaks then 0 else fbF k (stepS s d) r + 1
theorem stepS_good {s : Sums} {d : Int × Int} (hs : s.good) (hd : 1 ≤ d.2) : (stepS s d).good ∧ (stepS s d).atoms = s.atoms + 1 ∧ s.breaks ≤ (stepS s d).breaks := by
  have h1 := addF_good hs (singleF_good d.1 d.2 hd)
  have h2 := keyF_mono hs (singleF_good d.1 d.2 hd) 1
  exact ⟨h1.1, h1.2.1, h2⟩
theorem foldl_mono {xs : List (Int × Int)} : ∀ {s : Sums}, s.good → PosD xs → s.breaks ≤ (xs.foldl stepS s).breaks := by
  induction xs with
  | nil => intro s _ _; exact Int.le_refl _
  | cons d xs ih =>
    intro s hs hx
    have h1 := stepS_good hs (hx d List.mem_cons_self)
    exact Int.le_trans h1.2.2 (ih h1.1 (fun e he => hx e (List.mem_cons_of_mem _ he)))
theorem fbF_app {k : Int} {ys : List (Int × Int)} (xs : List (Int × Int)) : ∀ (s : Sums), s.good → PosD xs →
    (k ≤ (xs.foldl stepS s).breaks → fbF k s (xs ++ ys) = fbF k s xs) ∧ ((xs.foldl stepS s).breaks < k → fbF k s (xs ++ ys) = xs.length + fbF k (xs.foldl stepS s) ys) := by
  induction xs with
  | nil =>
    intro s hs _
    refine ⟨fun h => ?_, fun h => by simp⟩
    cases ys with
    | nil => rfl
    | cons d r =>
      rw [List.nil_append]
      show (if k ≤ s.breaks then 0 else fbF k (stepS s d) r + 1) = 0
      exact if_pos h
  | cons d xs ih =>
    intro s hs hx
    have h1 := stepS_good hs (hx d List.mem_cons_self)
    have hx' : PosD xs := fun e he => hx e (List.mem_cons_of_mem _ he)
    have hm := foldl_mono h1.1 hx'
    obtain ⟨i1, i2⟩ := ih _ h1.1 hx'
    have e1 : fbF k s (d :: xs ++ ys) = if k ≤ s.breaks then 0 else fbF k (stepS s d) (xs ++ ys) + 1 := rfl
    have e2 : fbF k s (d :: xs) = if k ≤ s.breaks then 0 else fbF k (stepS s d) xs + 1 := rfl
    rw [e1, e2]
    refine ⟨fun h => ?_, fun h => ?_⟩
    · split
      · rfl
      · rw [i1 h]
    · have h' : (xs.foldl stepS (stepS s d)).breaks < k := h
      have h2 := h1.2.2
      rw [if_neg (by omega), i2 h']
      show _ = xs.length + 1 + fbF k (xs.foldl stepS (stepS s d)) ys
      omega
theorem fbF_le (k : Int) (xs : List (Int × Int)) : ∀ s, fbF k s xs ≤ xs.length := by
  induction xs with
  | nil => intro s; simp [fbF]
  | cons d xs ih => intro s; simp only [fbF, List.length_cons]; split; omega; have := ih (stepS s d); omega
/-- the piece in which a key is reached -/
theorem findL_key {kk : Int} : ∀ (ps : List Pc) (s : Sums) (n : Int), AllGood ps → s.good → keyF s kk < n → n ≤ keyF (addF s (sumL ps)) kk →
    ∃ i : Nat, findL kk n s ps = i + 1 ∧ i < ps.length ∧ keyF (addF s (sumL (ps.take i))) kk < n ∧ n ≤ keyF (addF s (sumL (ps.take (i + 1)))) kk := by
  intro ps
  induction ps with
  | nil => intro s n _ hs h1 h2; rw [sumL_nil, addF_zero_right hs] at h2; omega
  | cons p ps ih =>
    intro s n hok hs h1 h2
    have hp := hok p List.mem_cons_self
    have hps : AllGood ps := fun q hq => hok q (List.mem_cons_of_mem _ hq)
    have ga := addF_good hs hp
    have hfu : findL kk n s (p :: ps) = if n ≤ keyF (addF s p.sum) kk then 1 else findL kk n (addF s p.sum) ps + 1 := rfl
    rw [hfu]
    by_cases hle : n ≤ keyF (addF s p.sum) kk
    · rw [if_pos hle]
      refine ⟨0, rfl, by simp, ?_, ?_⟩
      · rw [List.take_zero, sumL_nil, addF_zero_right hs]; exact h1
      · rw [Nat.zero_add, List.take_succ_cons, List.take_zero, sumL_cons, sumL_nil, addF_zero_right hp]; exact hle
    · rw [if_neg hle]
      rw [sumL_cons, ← addF_assoc hs hp (sumL_good hps).1] at h2
      obtain ⟨i, e1, e2, e3, e4⟩ := ih (addF s p.sum) n hps ga.1 (by omega) h2
      refine ⟨i + 1, by rw [e1]; omega, by simpa using e2, ?_, ?_⟩
      · rw [List.take_succ_cons, sumL_cons, ← addF_assoc hs hp (sumL_good (take_good hps i)).1]; exact e3
      · rw [List.take_succ_cons, sumL_cons, ← addF_assoc hs hp (sumL_good (take_good hps (i + 1))).1]; exact e4
/-- where the k-th break's atoms end -/
def sF (ds : List (Int × Int)) (k : Int) : Int :=
  if k = 0 then 0 else if k < 0 ∨ (sumsOf ds).breaks < k then -1 else
  if (sumsOf (ds.take (fbF k zeroS ds))).cr = true ∧ fbF k zeroS ds < ds.length ∧ (ds.map Prod.fst).getD (fbF k zeroS ds) 0 = 10 then (fbF k zeroS ds : Int) + 1 else fbF k zeroS ds
end Go.Proofs.YtcdhfmkfkhhnoaaGreat
namespace Go.Proofs.YtcdhfmkfkhhnoaaGreat
open Go.RowKit

/-- does a break end just ahead of the offset p? -/
def isE (A : List Int) (p : Nat) : Bool := decide (0 < p ∧ p ≤ A.length ∧ (A.getD (p - 1) 0 = 10 ∨ (A.getD (p - 1) 0 = 13 ∧ ¬ (p < A.length ∧ A.getD p 0 = 10))))
def cntE (A : List Int) : Nat → Nat
  | 0 => 0
  | n + 1 => cntE A n + if isE A (n + 1) = true then 1 else 0
theorem cntE_succ (A : List Int) (n : Nat) : cntE A (n + 1) = cntE A n + if isE A (n + 1) = true then 1 else 0 := rfl
theorem cntE_mono (A : List Int) {m n : Nat} (h : m ≤ n) : cntE A m ≤ cntE A n := by
  induction n with
  | zero => rw [show m = 0 by omega]; exact Nat.le_refl _
  | succ n ih =>
    rcases Nat.lt_or_ge n m with h1 | h1
    · rw [show m = n + 1 by omega]; exact Nat.le_refl _
    · exact Nat.le_trans (ih h1) (Nat.le_add_right _ _)
theorem cntE_lt (A : List Int) {m n : Nat} (h : m < n) (he : isE A n = true) : cntE A m < cntE A n := by
  have h1 := cntE_mono A (show m ≤ n - 1 by omega)
  have h2 := cntE_succ A (n - 1)
  rw [show n - 1 + 1 = n by omega, he, if_pos rfl] at h2
  omega
theorem cntE_le (A : List Int) (n : Nat) : cntE A n ≤ n := by
  induction n with
  | zero => exact Nat.le_refl _
  | succ n ih => rw [cntE_succ]; split <;> omega
section
variable {ds : List (Int × Int)} (hp : PosD ds)
include hp
theorem pre_step {n : Nat} (hn : n < ds.length) : (sumsOf (ds.take (n + 1))).breaks = (sumsOf (ds.take n)).breaks + (if (ds.map Prod.fst).getD n 0 = 10 ∨ (ds.map Prod.fst).getD n 0 = 13 then 1 else 0) - (if (sumsOf (ds.take n)).cr = true ∧ (ds.map Prod.fst).getD n 0 = 10 then 1 else 0) ∧
    (sumsOf (ds.take (n + 1))).cr = ((ds.map Prod.fst).getD n 0 == 13) := by
  have hg := sumsOf_good' (hp.take n)
  obtain ⟨s, hs⟩ : ∃ s, sumsOf (ds.take n) = s := ⟨_, rfl⟩
  obtain ⟨d, hd⟩ : ∃ d, ds[n]? = some d := ⟨_, List.getElem?_eq_getElem hn⟩
  have ha : (ds.map Prod.fst).getD n 0 = d.1 := by rw [List.getD_eq_getElem?_getD, List.getElem?_map, hd]; rfl
  have hst : sumsOf (ds.take (n + 1)) = addF s (singleF d.1 d.2) := by
    rw [List.take_add_one, hd]
    unfold sumsOf at hs ⊢
    rw [Option.toList_some, List.foldl_append, hs]
    rfl
  rw [hst, ha, hs]
  rw [hs] at hg
  obtain ⟨⟨_, _, _, g4, _⟩, g5, _⟩ := hg
  by_cases h0 : s.atoms = 0
  · rw [g4 h0, addF_zero_left]
    simp only [singleF, zeroS]
    exact ⟨by simp, trivial⟩
  · rw [addF_nz h0 (by simp [singleF])]
    dsimp only [singleF]
    refine ⟨?_, rfl⟩
    by_cases hc : s.cr = true <;> by_cases h10 : d.1 = 10
    · simp [hc, h10]
    · simp [hc, h10]
    · simp [hc, h10]
    · simp [hc, h10]
/-- the CR ahead of an LF -/
def corr (A : List Int) (n : Nat) : Bool := decide (0 < n ∧ n < A.length ∧ A.getD (n - 1) 0 = 13 ∧ A.getD n 0 = 10)
omit hp in
theorem corr_eq (A : List Int) (n : Nat) : corr A n = decide (0 < n ∧ n < A.length ∧ A.getD (n - 1) 0 = 13 ∧ A.getD n 0 = 10) := rfl
theorem pre_cr {n : Nat} (hn : n ≤ ds.length) : (sumsOf (ds.take n)).cr = decide (0 < n ∧ (ds.map Prod.fst).getD (n - 1) 0 = 13) := by
  cases n with
  | zero => rfl
  | succ n =>
    rw [(pre_step hp (n := n) (by omega)).2, Nat.add_sub_cancel, Bool.eq_iff_iff]
    simp
theorem pre_cnt {n : Nat} (hn : n ≤ ds.length) : (sumsOf (ds.take n)).breaks = cntE (ds.map Prod.fst) n + (if corr (ds.map Prod.fst) n = true then 1 else 0) := by
  induction n with
  | zero => simp [corr, cntE, sumsOf, zeroS]
  | succ n ih =>
    have h1 := (pre_step hp (n := n) (by omega)).1
    rw [ih (by omega), pre_cr hp (by omega)] at h1
    rw [h1, cntE_succ]
    have hl : (ds.map Prod.fst).length = ds.length := List.length_map ..
    obtain ⟨A, hA⟩ : ∃ A, ds.map Prod.fst = A := ⟨_, rfl⟩
    rw [hA] at hl ⊢
    unfold corr isE
    simp only [Nat.add_sub_cancel, decide_eq_true_eq]
    obtain ⟨x, hx⟩ : ∃ x, A.getD n 0 = x := ⟨_, rfl⟩
    obtain ⟨y, hy⟩ : ∃ y, A.getD (n + 1) 0 = y := ⟨_, rfl⟩
    obtain ⟨z, hz⟩ : ∃ z, A.getD (n - 1) 0 = z := ⟨_, rfl⟩
    rw [hx, hy, hz]
    by_cases h10 : x = 10
    · subst h10
      by_cases hc : 0 < n ∧ z = 13
      · have e1 : (0 < n ∧ n < A.length ∧ z = 13 ∧ (10 : Int) = 10) = True := by simp; exact ⟨hc.1, by omega, hc.2⟩
        simp [e1, hc, show n < A.length by omega, show n + 1 ≤ A.length by omega]
      · have e1 : ¬ (0 < n ∧ n < A.length ∧ z = 13 ∧ (10 : Int) = 10) := fun h => hc ⟨h.1, h.2.2.1⟩
        simp [hc, show n + 1 ≤ A.length by omega]
        rw [if_neg (fun h => hc ⟨h.1, h.2.2⟩)]
        omega
    · have e1 : ¬ (0 < n ∧ n < A.length ∧ z = 13 ∧ x = 10) := fun h => h10 h.2.2.2
      by_cases h13 : x = 13
      · subst h13
        by_cases hy10 : n + 1 < A.length ∧ y = 10
        · simp [e1, hy10, show n + 1 ≤ A.length by omega]
        · simp [hy10, show n + 1 ≤ A.length by omega]
      · simp [e1, h10, h13]
theorem tot_cnt : (sumsOf ds).breaks = cntE (ds.map Prod.fst) ds.length := by
  have := pre_cnt hp (n := ds.length) (Nat.le_refl _)
  rw [List.take_length] at this
  rw [this, if_neg (by unfold corr; simp)]
  omega
theorem bF_cnt (at_ : Int) : bF ds at_ = cntE (ds.map Prod.fst) (min at_.toNat ds.length) := by
  unfold bF
  by_cases h0 : at_ ≤ 0
  · rw [if_pos h0, show at_.toNat = 0 by omega, Nat.zero_min]; rfl
  · rw [if_neg h0]
    by_cases h1 : (ds.length : Int) ≤ at_
    · rw [if_pos h1, tot_cnt hp, Nat.min_eq_right (by omega)]
    · rw [if_neg h1, Nat.min_eq_left (by omega)]
      have h2 := pre_cnt hp (n := at_.toNat) (by omega)
      rw [h2, pre_cr hp (by omega)]
      unfold corr
      simp only [decide_eq_true_eq, List.length_map]
      by_cases hc : (0 < at_.toNat ∧ (ds.map Prod.fst).getD (at_.toNat - 1) 0 = 13) ∧ (ds.map Prod.fst).getD at_.toNat 0 = 10
      · rw [if_pos hc, if_pos ⟨hc.1.1, by omega, hc.1.2, hc.2⟩]; omega
      · rw [if_neg hc, if_neg (fun h => hc ⟨⟨h.1, h.2.2.1⟩, h.2.2.2⟩)]; omega
omit hp in
theorem fbF_spec {k : Int} : ∀ (r pre : List (Int × Int)), PosD (pre ++ r) →
    (∀ j, j < fbF k (sumsOf pre) r → (sumsOf (pre ++ r.take j)).breaks < k) ∧ (k ≤ (sumsOf (pre ++ r)).breaks → k ≤ (sumsOf (pre ++ r.take (fbF k (sumsOf pre) r))).breaks) := by
  intro r
  induction r with
  | nil => intro pre _; exact ⟨fun j h => by simp [fbF] at h, fun h => by simpa [fbF] using h⟩
  | cons d r ih =>
    intro pre hpos
    have e1 : fbF k (sumsOf pre) (d :: r) = if k ≤ (sumsOf pre).breaks then 0 else fbF k (stepS (sumsOf pre) d) r + 1 := rfl
    have e2 : stepS (sumsOf pre) d = sumsOf (pre ++ [d]) := by unfold sumsOf; rw [List.foldl_append]; rfl
    have hpos' : PosD ((pre ++ [d]) ++ r) := by simpa using hpos
    obtain ⟨i1, i2⟩ := ih (pre ++ [d]) hpos'
    rw [e1, e2]
    by_cases hk : k ≤ (sumsOf pre).breaks
    · rw [if_pos hk]
      exact ⟨fun j h => absurd h (Nat.not_lt_zero _), fun _ => by simpa using hk⟩
    · rw [if_neg hk]
      refine ⟨fun j h => ?_, fun h => ?_⟩
      · cases j with
        | zero => simpa using hk
        | succ j =>
          have := i1 j (by omega)
          simpa using this
      · have := i2 (by simpa using h)
        simpa using this
theorem sF_spec {k : Int} (h0 : 0 < k) (h1 : k ≤ cntE (ds.map Prod.fst) ds.length) : ∃ p : Nat, sF ds k = p ∧ isE (ds.map Prod.fst) p = true ∧ (cntE (ds.map Prod.fst) p : Int) = k := by
  obtain ⟨J, hJ⟩ : ∃ J, fbF k zeroS ds = J := ⟨_, rfl⟩
  have hle : J ≤ ds.length := by rw [← hJ]; exact fbF_le _ _ _
  obtain ⟨f1, f2⟩ := fbF_spec (k := k) ds [] (by simpa using hp)
  have e0 : sumsOf [] = zeroS := rfl
  rw [e0, hJ] at f1 f2
  simp only [List.nil_append] at f1 f2
  have htot := tot_cnt hp
  have f3 := f2 (by omega)
  have hJ0 : 0 < J := by
    rcases Nat.eq_zero_or_pos J with h | h
    · rw [h, List.take_zero, e0] at f3
      simp only [zeroS] at f3
      omega
    · exact h
  have f4 := f1 (J - 1) (by omega)
  have c1 := pre_cnt hp hle
  have c0 := pre_cnt hp (n := J - 1) (by omega)
  have hs := cntE_succ (ds.map Prod.fst) (J - 1)
  rw [show J - 1 + 1 = J by omega] at hs
  have hst := (pre_step hp (n := J - 1) (by omega)).1
  rw [show J - 1 + 1 = J by omega] at hst
  have hcr := pre_cr hp hle
  have hsf : sF ds k = if (sumsOf (ds.take J)).cr = true ∧ J < ds.length ∧ (ds.map Prod.fst).getD J 0 = 10 then (J : Int) + 1 else J := by
    unfold sF
    rw [if_neg (by omega), if_neg (by omega), hJ]
  rw [hsf, hcr]
  have hl : (ds.map Prod.fst).length = ds.length := List.length_map ..
  simp only [decide_eq_true_eq]
  by_cases hc : (0 < J ∧ (ds.map Prod.fst).getD (J - 1) 0 = 13) ∧ J < ds.length ∧ (ds.map Prod.fst).getD J 0 = 10
  · rw [if_pos hc]
    have hco : corr (ds.map Prod.fst) J = true := by unfold corr; simp only [decide_eq_true_eq]; exact ⟨hc.1.1, by omega, hc.1.2, hc.2.2⟩
    have he : isE (ds.map Prod.fst) (J + 1) = true := by unfold isE; simp only [decide_eq_true_eq, Nat.add_sub_cancel]; exact ⟨by omega, by omega, .inl hc.2.2⟩
    refine ⟨J + 1, by omega, he, ?_⟩
    rw [cntE_succ, he, if_pos rfl]
    rw [hco, if_pos rfl] at c1
    have : (sumsOf (ds.take J)).breaks ≤ (sumsOf (ds.take (J - 1))).breaks + 1 := by
      rw [hst]
      split <;> split <;> omega
    omega
  · rw [if_neg hc]
    have hco : ¬ corr (ds.map Prod.fst) J = true := by
      unfold corr
      simp only [decide_eq_true_eq]
      exact fun h => hc ⟨⟨h.1, h.2.2.1⟩, by omega, h.2.2.2⟩
    rw [if_neg hco] at c1
    have hpb : (sumsOf (ds.take (J - 1))).breaks < (sumsOf (ds.take J)).breaks := by omega
    have he : isE (ds.map Prod.fst) J = true := by
      unfold isE
      simp only [decide_eq_true_eq]
      refine ⟨hJ0, by omega, ?_⟩
      by_cases h10 : (ds.map Prod.fst).getD (J - 1) 0 = 10
      · exact .inl h10
      · by_cases h13 : (ds.map Prod.fst).getD (J - 1) 0 = 13
        · exact .inr ⟨h13, fun h => hc ⟨⟨hJ0, h13⟩, by omega, h.2⟩⟩
        · rw [hst, if_neg (by omega), if_neg (fun h => h10 h.2)] at hpb
          omega
    refine ⟨J, rfl, he, ?_⟩
    have : (sumsOf (ds.take J)).breaks ≤ (sumsOf (ds.take (J - 1))).breaks + 1 := by
      rw [hst]
      split <;> split <;> omega
    omega
end
end Go.Proofs.YtcdhfmkfkhhnoaaGreat
