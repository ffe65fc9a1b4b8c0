/-
  The walks of package piece, second part: single, newPart.
-/
import Derived.Test.YtcdhfmkfkhhnoaaGreatLSums
set_option linter.unusedSimpArgs false
set_option linter.unusedVariables false
namespace Go.Proofs.YtcdhfmkfkhhnoaaGreat
open Go.RowKit

def singleF (a z : Int) : Sums := { atoms := 1, bytes := z, breaks := if a = 10 ∨ a = 13 then 1 else 0, lf := a == 10, cr := a == 13 }
set_option maxRecDepth 100000 in
set_option maxHeartbeats 2000000 in
theorem single_any (a z : Int) (w : World) :
    Calls Tryz.prog 71 #[.int .i64 a, .int .i64 z] w fun e w' => e = .returned (.agg (singleF a z).cells) ∧ Below w.heap.size w w' := by
  by_cases h1 : a = 10
  · subst h1
    go_enter Tryz.func71, Tryz.ntmps71
    go_wp2
    refine bodyPost_ret (v := .agg (singleF 10 z).cells) (by simp [results, Tryz.results71, go_sem, singleF, Sums.cells]) rfl ⟨rfl, ?_⟩
    repeat (first | exact Below.refl _ _ | apply balloc)
  by_cases h2 : a = 13
  · subst h2
    go_enter Tryz.func71, Tryz.ntmps71
    go_wp2
    refine bodyPost_ret (v := .agg (singleF 13 z).cells) (by simp [results, Tryz.results71, go_sem, singleF, Sums.cells]) rfl ⟨rfl, ?_⟩
    repeat (first | exact Below.refl _ _ | apply balloc)
  · have q1 : (a == 10) = false := by rw [beq_eq_false_iff_ne]; exact h1
    have q2 : (a == 13) = false := by rw [beq_eq_false_iff_ne]; exact h2
    have e : singleF a z = ⟨1, z, 0, false, false⟩ := by unfold singleF; rw [if_neg (by omega), q1, q2]
    rw [e]
    clear h1 h2 e
    go_enter Tryz.func71, Tryz.ntmps71
    go_wp2
    refine bodyPost_ret (v := .agg (Sums.mk 1 z 0 false false).cells) (by simp [results, Tryz.results71, go_sem, Sums.cells]) rfl ⟨rfl, ?_⟩
    repeat (first | exact Below.refl _ _ | apply balloc)

/-! ### what bytes are decoded to -/
theorem size8_bd (l : List Int) (h : 0 < l.length) : 1 ≤ size8 l ∧ size8 l ≤ l.length := by
  unfold size8
  have h1 := rowHave_le l h
  have h2 := bdN_le (l.getD 0 0)
  split
  · omega
  · rename_i hr
    unfold rawF at hr
    simp only [decide_eq_true_eq] at hr
    omega
theorem size16_bd (o : Int) (l : List Int) (h : 0 < l.length) : 1 ≤ size16 o l ∧ size16 o l ≤ l.length := by
  unfold size16
  split
  · omega
  · split
    · rename_i hp
      unfold pairF at hp
      simp only [Bool.and_eq_true, decide_eq_true_eq] at hp
      omega
    · omega
theorem sizeAt_bd (enc : Int) (l : List Int) (h : 0 < l.length) : 1 ≤ sizeAt enc l ∧ sizeAt enc l ≤ l.length := by
  unfold sizeAt
  split
  · exact size8_bd l h
  · split
    · exact size16_bd 0 l h
    · split
      · exact size16_bd 1 l h
      · omega
/-- the atoms of bytes, with their sizes -/
def decF (enc : Int) : Nat → List Int → List (Int × Int)
  | 0, _ => []
  | f + 1, l => if l.length = 0 then [] else (atomAt enc l, sizeAt enc l) :: decF enc f (l.drop (sizeAt enc l).toNat)
theorem decF_nil (enc : Int) (f : Nat) (l : List Int) (h : l.length = 0) : decF enc f l = [] := by cases f <;> simp [decF, h]
theorem decF_fuel (enc : Int) : ∀ (f f' : Nat) (l : List Int), l.length ≤ f → l.length ≤ f' → decF enc f l = decF enc f' l := by
  intro f
  induction f with
  | zero => intro f' l h h'; rw [decF_nil enc f' l (by omega)]; rfl
  | succ f ih =>
    intro f' l h h'
    cases f' with
    | zero => rw [decF_nil enc (f + 1) l (by omega)]; rfl
    | succ f' =>
      simp only [decF]
      split
      · rfl
      · have := sizeAt_bd enc l (by omega)
        rw [ih f' _ (by rw [List.length_drop]; omega) (by rw [List.length_drop]; omega)]
def dec (enc : Int) (l : List Int) : List (Int × Int) := decF enc l.length l
theorem dec_nil (enc : Int) : dec enc [] = [] := rfl
theorem dec_cons (enc : Int) (l : List Int) (h : 0 < l.length) : dec enc l = (atomAt enc l, sizeAt enc l) :: dec enc (l.drop (sizeAt enc l).toNat) := by
  unfold dec
  have := sizeAt_bd enc l h
  rw [decF_fuel enc l.length (l.length + 1) l (by omega) (by omega)]
  simp only [decF]
  rw [if_neg (by omega), decF_fuel enc l.length _ _ (by rw [List.length_drop]; omega) (Nat.le_refl _)]
def zeroS : Sums := ⟨0, 0, 0, false, false⟩
def stepS (s : Sums) (d : Int × Int) : Sums := addF s (singleF d.1 d.2)
def sumsOf (ds : List (Int × Int)) : Sums := ds.foldl stepS zeroS
theorem stepS_bd (s : Sums) (a z : Int) (h1 : 0 ≤ s.atoms) (h2 : 0 ≤ s.breaks) (hz : 0 ≤ z) (h3 : s.atoms = 0 → s.bytes = 0) :
    (stepS s (a, z)).atoms = s.atoms + 1 ∧ (stepS s (a, z)).bytes = s.bytes + z ∧ 0 ≤ (stepS s (a, z)).breaks ∧ (s.breaks ≤ s.atoms → (stepS s (a, z)).breaks ≤ s.atoms + 1) := by
  by_cases h : s.atoms = 0
  · have := h3 h
    simp only [stepS, addF, singleF, h, if_true]
    refine ⟨by omega, by omega, ?_, fun _ => ?_⟩ <;> split <;> omega
  · have e : stepS s (a, z) = { atoms := s.atoms + 1, bytes := s.bytes + z, breaks := if (s.cr && a == 10) = true then s.breaks + (if a = 10 ∨ a = 13 then 1 else 0) - 1 else s.breaks + (if a = 10 ∨ a = 13 then 1 else 0), lf := s.lf, cr := a == 13 } := by
      unfold stepS addF
      rw [if_neg h, if_neg (show ¬ (singleF a z).atoms = 0 by simp [singleF])]
      rfl
    rw [e]
    dsimp only
    refine ⟨rfl, rfl, ?_, ?_⟩
    · split
      · rename_i hc
        simp only [Bool.and_eq_true, beq_iff_eq] at hc
        rw [if_pos (.inl hc.2)]; omega
      · split <;> omega
    · intro _
      split <;> split <;> omega
end Go.Proofs.YtcdhfmkfkhhnoaaGreat
