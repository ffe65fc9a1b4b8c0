/-
  The walks of package tree at the pieces, first part: nodes.
-/
import Derived.Test.YtcdhfmkfkhhnoaaGreatLPart2
import Derived.StillTailTactics
set_option linter.unusedSimpArgs false
set_option linter.unusedVariables false
namespace Go.Proofs.YtcdhfmkfkhhnoaaGreat
open Go.RowKit

/-- a piece: the slice that holds its bytes, the bytes, the tag, the sum -/
structure Pc where
  A : Option Addr
  n : Nat
  c : Nat
  tag : Int
  sum : Sums
  bytes : List Int
def Pc.cells (p : Pc) : Array Value := partC p.A p.n p.c p.tag p.sum
/-- a tree's shape -/
inductive Tr where
  | nil
  | node (l : Tr) (x : Pc) (r : Tr)
def Tr.size : Tr → Int
  | .nil => 0
  | .node l _ r => l.size + 1 + r.size
def Tr.tall : Tr → Int
  | .nil => 0
  | .node l _ r => max l.tall r.tall + 1
def Tr.sum : Tr → Sums
  | .nil => zeroS
  | .node .nil x .nil => x.sum
  | .node .nil x (.node a b c) => addF x.sum (Tr.node a b c).sum
  | .node (.node a b c) x .nil => addF (Tr.node a b c).sum x.sum
  | .node (.node a b c) x (.node d e f) => addF (addF (Tr.node a b c).sum x.sum) (Tr.node d e f).sum
/-- the sum of a left side and a piece -/
def lsum (l : Tr) (x : Pc) : Sums := match l with | .nil => x.sum | .node .. => addF l.sum x.sum
/-- that and a right side -/
def rsum (s : Sums) (r : Tr) : Sums := match r with | .nil => s | .node .. => addF s r.sum
theorem Tr.sum_node (l : Tr) (x : Pc) (r : Tr) : (Tr.node l x r).sum = rsum (lsum l x) r := by
  cases l <;> cases r <;> simp only [lsum, rsum, Tr.sum]
def Tr.list : Tr → List Pc
  | .nil => []
  | .node l x r => l.list ++ x :: r.list
def nodeC (al ar : Option Addr) (x : Pc) (size tall : Int) (s : Sums) : Array Value :=
  #[.pointer al, .pointer ar, .slice x.A x.n x.c, .int .i64 x.tag, .int .i64 x.sum.atoms, .int .i64 x.sum.bytes, .int .i64 x.sum.breaks, .bool x.sum.lf, .bool x.sum.cr, .int .i64 size, .int .i64 tall,
    .int .i64 s.atoms, .int .i64 s.bytes, .int .i64 s.breaks, .bool s.lf, .bool s.cr]
/-- a tree as it lies in memory -/
def NodeAt (w : World) : Tr → Option Addr → Prop
  | .nil, a => a = none
  | .node l x r, a => ∃ b al ar, a = some ⟨b, 0, none⟩ ∧ Blk w b 143 (nodeC al ar x (Tr.node l x r).size (Tr.node l x r).tall (Tr.node l x r).sum) ∧ NodeAt w l al ∧ NodeAt w r ar
theorem NodeAt.below {w w' : World} (hb : Below w.heap.size w w') : ∀ (t : Tr) (a : Option Addr), NodeAt w t a → NodeAt w' t a := by
  intro t
  induction t with
  | nil => intro a h; exact h
  | node l x r ihl ihr =>
    rintro a ⟨b, al, ar, e, h, hl, hr⟩
    exact ⟨b, al, ar, e, h.below hb, ihl al hl, ihr ar hr⟩
set_option maxRecDepth 100000 in
theorem count_any (t : Tr) (a : Option Addr) (w : World) (h : NodeAt w t a) :
    Calls Tryz.prog 79 #[.pointer a] w fun e w' => e = .returned (.int .i64 t.size) ∧ w = w' := by
  cases t with
  | nil =>
    cases h
    go_enter Tryz.func79, Tryz.ntmps79
    go_wp2
    go_ret
    exact ⟨rfl, rfl⟩
  | node l x r =>
    obtain ⟨b, al, ar, rfl, hb, _, _⟩ := h
    have c0 := hb.cell 9
    simp [nodeC] at c0
    go_enter Tryz.func79, Tryz.ntmps79
    go_wp2
    go_ret
    exact ⟨rfl, rfl⟩
set_option maxRecDepth 100000 in
theorem tall_any (t : Tr) (a : Option Addr) (w : World) (h : NodeAt w t a) :
    Calls Tryz.prog 107 #[.pointer a] w fun e w' => e = .returned (.int .i64 t.tall) ∧ w = w' := by
  cases t with
  | nil =>
    cases h
    go_enter Tryz.func107, Tryz.ntmps107
    go_wp2
    go_ret
    exact ⟨rfl, rfl⟩
  | node l x r =>
    obtain ⟨b, al, ar, rfl, hb, _, _⟩ := h
    have c0 := hb.cell 10
    simp [nodeC] at c0
    go_enter Tryz.func107, Tryz.ntmps107
    go_wp2
    go_ret
    exact ⟨rfl, rfl⟩
end Go.Proofs.YtcdhfmkfkhhnoaaGreat
