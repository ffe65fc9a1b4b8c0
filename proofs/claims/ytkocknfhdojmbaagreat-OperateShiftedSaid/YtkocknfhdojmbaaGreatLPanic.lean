/-
  caught and work: an act in a group of its own. caught where the act gives up with an error.
-/
import Derived.Test.YtkocknfhdojmbaaGreatLUndoLaw
import Derived.Test.YtkocknfhdojmbaaGreatLEnd2
set_option linter.unusedSimpArgs false
set_option linter.unusedVariables false
set_option maxRecDepth 100000
set_option maxHeartbeats 32000000
namespace Go.Proofs.YtkocknfhdojmbaaGreat
open Go.RowKit
section
variable {B gd gb g n : Nat} {enc lim : Int} {st : BkS} {dc : Array Value} {w : World}
theorem begin_desk (h : DeskIs w B gd gb g enc lim n st dc) (hn : st.now = none) {x : Int} (hx : 0 <= x /\ x <= (st.ats.length : Int)) :
  Calls Tryz.prog 98 #[.pointer (some ⟨gb, 0, none⟩), .int .i64 x] w fun e w' => e = .returned (.int .i64 0) /\ DeskIs w' B gd gb g enc lim n { st with now := some ⟨st.ats, x, [], st.state, false⟩ } dc /\ BkFr B w w' := by
 obtain ⟨N, add, t, a, xs, m, vu, vr, now, n', hn', hk⟩ := h.book
 refine (bbegin_any N B gb g enc lim n' add st t a xs m vu vr now x w hk hn hx).mono ?_
 rintro e w' ⟨rfl, now', hk', hf⟩
 have hb : BkFr B w w' := BkFr.book hk.blk hk.low.1 hf
 exact ⟨rfl, h.bk hb ⟨_, add, t, a, xs, m, vu, vr, now', n', hn', hk'⟩, hb⟩
def endS (st : BkS) (o : OpS) (x : Int) : BkS :=
 if o.changed = true then { st with now := none, undo := st.undo ++ [⟨o.before, st.ats, o.bgn, x, o.moves, o.old, st.last + 1⟩], redo := [], state := st.last + 1, last := st.last + 1 } else { st with now := none }
end
def ActPost (B gd gb g : Nat) (enc lim : Int) (st : BkS) (dc : Array Value) (X : Nat -> Prop) (Act : Int -> List (Int × Int) -> OpS -> Nat -> Prop) (w1 : World) (e : Ending) (w2 : World) : Prop :=
 ∃ at' ats' o' n', Act at' ats' o' n' /\ e = .returned (.int .i64 at') /\ DeskIs w2 B gd gb g enc lim n' { st with ats := ats', now := some o' } dc /\ DFr B X w1 w2
def WorkPost (B gd gb g : Nat) (enc lim : Int) (st : BkS) (dc : Array Value) (X : Nat -> Prop) (Act : Int -> List (Int × Int) -> OpS -> Nat -> Prop) (w : World) (e : Ending) (w' : World) : Prop :=
 e = .returned (.int .i64 0) /\ ∃ at' ats' o' n', Act at' ats' o' n' /\ DeskIs w' B gd gb g enc lim n' (endS { st with ats := ats', now := some o' } o' at') (dc.setIfInBounds 2 (.int .i64 at')) /\ DFr B (fun b => X b \/ b = gd) w w'
theorem isOpen_desk {B gd gb g n : Nat} {enc lim : Int} {st : BkS} {dc : Array Value} {w : World} (h : DeskIs w B gd gb g enc lim n st dc) : Calls Tryz.prog 96 #[.pointer (some ⟨gb, 0, none⟩)] w fun e w' => e = .returned (.bool st.now.isSome) /\ w = w' := by
 obtain ⟨N, add, t, a, xs, m, vu, vr, now, n', hn', hk⟩ := h.book
 have e1 : st.now.isSome = now.isSome := by
  have := hk.open_
  cases hn : st.now with
  | none => rw [hn] at this; rw [this]; rfl
  | some o => rw [hn] at this; obtain ⟨p, e, _⟩ := this; rw [e]; rfl
 rw [e1]
 exact isOpen_any gb _ now w hk.blk (by simp)
def errPanic (c : Int) : PanicEntry := { v := .iface 48 (.int .i64 c), recovered := false }
theorem must_bad (c : Int) (hc : c ≠ 0) (w : World) : Calls Tryz.prog 52 #[.int .i64 c] w fun e w' => e = .panicked [errPanic c] /\ w' = w := by
 have q : (c != 0) = true := by rw [bne_iff_ne]; exact hc
 go_enter Tryz.func52, Tryz.ntmps52
 go_wp2_with fail
 exact ⟨rfl, rfl, rfl⟩
theorem assert_code (c : Int) (w : World) : (Instr.typeAssert (.iface 48 (.int .i64 c)) 20 48 true).run Tryz.prog w = .ok (.tuple #[.int .i64 c, .bool true]) w := by
 simp [Instr.typeAssert, run_underlying Tryz.underlying48, go_sem]
theorem caught1_code (r : Nat) (c : Int) (older : List PanicEntry) (v0 : Value) (w : World) (h0 : w.cell? ⟨r, 0, none⟩ = some v0) (hf : w.frozen? ⟨r, 0, none⟩ = false) :
  CallsD Tryz.prog 106 #[.pointer (some ⟨r, 0, none⟩)] (.panicking (errPanic c :: older)) w
   fun e u' w' => u' = .panicking ({ errPanic c with recovered := true } :: older) /\ e = .returned (.tuple #[]) /\ w' = w.setCell ⟨r, 0, none⟩ (.int .i64 c) := by
 have ta := assert_code c w
 refine callsD_of_wpS Tryz.func106 rfl fun c₀ cs hu => ?_
 apply wpS_seq
 apply wpS_region
 simp [wpOpsS, go_sem, recoverD, hu, errPanic, Tryz.ntmps106, Exit.thenS]
 refine wpS_of_wp ?_
 go_wp2_with fail
 simp [bodyPostS, results, Tryz.results106, go_sem]
end Go.Proofs.YtkocknfhdojmbaaGreat
