/-
  What Text.walk goes through, as plain functions; what is asked of the function that it calls.
-/
import Derived.Test.YtoafogibfokblaaGreatLText
import Derived.Test.YtoafogibfokblaaGreatLItems3
set_option linter.unusedSimpArgs false
set_option linter.unusedVariables false
namespace Go.Proofs.YtoafogibfokblaaGreat
open Go.RowKit

/-- atoms with their tags -/
def tagF (tag : Int) : Int → List (Int × Int) → List (Int × Int)
  | _, [] => []
  | off, d :: r => (d.1, if tag < 0 then -1 else tag + off) :: tagF tag (off + d.2) r
theorem tagF_fst (tag : Int) (ds : List (Int × Int)) : ∀ off, (tagF tag off ds).map Prod.fst = ds.map Prod.fst := by
  induction ds with
  | nil => intro off; rfl
  | cons d ds ih => intro off; simp only [tagF, List.map_cons, ih]
theorem tagF_len (tag off : Int) (ds : List (Int × Int)) : (tagF tag off ds).length = ds.length := by
  have := congrArg List.length (tagF_fst tag ds off)
  simpa using this
def atsP (enc : Int) (p : Pc) : List (Int × Int) := tagF p.tag 0 (dec enc p.bytes)
def atsL (enc : Int) (ps : List Pc) : List (Int × Int) := ps.flatMap (atsP enc)
theorem atsL_app (enc : Int) (a b : List Pc) : atsL enc (a ++ b) = atsL enc a ++ atsL enc b := by unfold atsL; rw [List.flatMap_append]
theorem atsL_one (enc : Int) (a : Pc) : atsL enc [a] = atsP enc a := by simp [atsL]
theorem atsL_fst (enc : Int) (ps : List Pc) : (atsL enc ps).map Prod.fst = (decL enc ps).map Prod.fst := by
  induction ps with
  | nil => rfl
  | cons p ps ih =>
    rw [decL_cons, List.map_append, ← ih]
    show (atsP enc p ++ atsL enc ps).map Prod.fst = _
    rw [List.map_append]
    unfold atsP
    rw [tagF_fst]
theorem atsL_len (enc : Int) (ps : List Pc) : (atsL enc ps).length = (decL enc ps).length := by
  have := congrArg List.length (atsL_fst enc ps)
  simpa using this

/-- atoms go by: n are passed over, then 'left' are seen, and no more -/
def feed {σ : Type} (step : σ → Int → Int → σ) : Nat → Nat → σ → List (Int × Int) → Bool × Nat × Nat × σ
  | n, left, s, [] => (false, n, left, s)
  | n + 1, left, s, _ :: r => feed step n left s r
  | 0, left, s, a :: r => if left ≤ 1 then (true, 0, 0, step s a.1 a.2) else feed step 0 (left - 1) (step s a.1 a.2) r
section
variable {σ : Type} {step : σ → Int → Int → σ}
theorem feed_app (xs ys : List (Int × Int)) : ∀ (n left : Nat) (s : σ), feed step n left s (xs ++ ys) = if (feed step n left s xs).1 = true then feed step n left s xs else feed step (feed step n left s xs).2.1 (feed step n left s xs).2.2.1 (feed step n left s xs).2.2.2 ys := by
  induction xs with
  | nil => intro n left s; simp [feed]
  | cons a xs ih =>
    intro n left s
    cases n with
    | succ n => simp only [List.cons_append, feed]; exact ih n left s
    | zero =>
      simp only [List.cons_append, feed]
      split
      · simp
      · exact ih 0 (left - 1) _
theorem feed_val (xs : List (Int × Int)) : ∀ (n left : Nat) (s : σ), 1 ≤ left → (feed step n left s xs).2.2.2 = ((xs.drop n).take left).foldl (fun s a => step s a.1 a.2) s := by
  induction xs with
  | nil => intro n left s _; simp [feed]
  | cons a xs ih =>
    intro n left s hl
    cases n with
    | succ n => simp only [feed, List.drop_succ_cons]; exact ih n left s hl
    | zero =>
      simp only [feed, List.drop_zero]
      split
      · rw [show left = 1 by omega]; simp
      · rw [show left = (left - 1) + 1 by omega, List.take_succ_cons, List.foldl_cons, Nat.add_sub_cancel]
        have := ih 0 (left - 1) (step s a.1 a.2) (by omega)
        simpa using this
theorem feed_stop (xs ys : List (Int × Int)) (n left : Nat) (s : σ) (h : (feed step n left s xs).1 = true) : feed step n left s (xs ++ ys) = feed step n left s xs := by
  rw [feed_app, if_pos h]
theorem feed_go (xs ys : List (Int × Int)) (n left n' left' : Nat) (s s' : σ) (h : feed step n left s xs = (false, n', left', s')) : feed step n left s (xs ++ ys) = feed step n' left' s' ys := by
  rw [feed_app, h]
  simp
end
/-- a part of a list -/
def seg {α : Type} (f t : Int) (l : List α) : List α := (l.drop f.toNat).take (t.toNat - f.toNat)
theorem seg_map {α β : Type} (f t : Int) (l : List α) (h : α → β) : (seg f t l).map h = seg f t (l.map h) := by unfold seg; rw [List.map_take, List.map_drop]

/-- what is asked of a function that sees atoms: 'J s X w': s is what its cells hold, which are the blocks X -/
structure Sees (F : FuncId) (caps : Array Value) {σ : Type} (J : σ → (Nat → Prop) → World → Prop) (step : σ → Int → Int → σ) (size : σ → Nat) : Prop where
  rises : ∀ s a g, size (step s a g) ≤ size s + 1
  call : ∀ s X a g w, J s X w → size s ≤ 2147483648 → Calls Tryz.prog F (#[.int .i64 a, .int .i64 g] ++ caps) w fun e w' => e = .returned (.tuple #[]) ∧ (∃ X', J (step s a g) X' w' ∧ ∀ b, X' b → X b ∨ w.heap.size ≤ b) ∧ Fr X w w'
  enter : ∀ args w, (callFunc F args).run Tryz.prog w = .ok (.enter F args) w
  kind : ∀ s X w b, J s X w → X b → ∃ cs T, Blk w b T cs ∧ (T = 3 ∨ T = 37)
  keep : ∀ s X w w', J s X w → (∀ b, X b → w'.heap[b]? = w.heap[b]?) → J s X w'
def SeenPost {σ : Type} (J : σ → (Nat → Prop) → World → Prop) (s : σ) (X : Nat → Prop) (w : World) (e : Ending) (w' : World) : Prop := e = .returned (.tuple #[]) ∧ (∃ X', J s X' w' ∧ ∀ b, X' b → X b ∨ w.heap.size ≤ b) ∧ Fr X w w'
end Go.Proofs.YtoafogibfokblaaGreat
