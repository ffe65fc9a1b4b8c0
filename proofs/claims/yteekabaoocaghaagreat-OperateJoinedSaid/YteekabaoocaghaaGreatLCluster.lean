/-
  The walks of package cluster, first part: one scan (note, apart, hangul, takes, begin), as plain functions on a record of four integers.
-/
import Derived.Test.YteekabaoocaghaaGreatLGlyph
import Derived.Deep.CutBlock
set_option linter.unusedSimpArgs false
set_option linter.unusedVariables false
namespace Go.Proofs.YteekabaoocaghaaGreat
open Go.RowKit

/-- what is known of a cluster so far -/
structure Scan where
  last : Int
  flags : Int
  pict : Int
  conj : Int
def Scan.cells (s : Scan) : Array Value := #[.int .i64 s.last, .int .i64 s.flags, .int .i64 s.pict, .int .i64 s.conj]
def noteF (s : Scan) (c p : Int) : Scan where
  last := c
  flags := if c = 6 then s.flags + 1 else 0
  pict := if c = 14 then 1 else if s.pict = 1 ∧ c = 5 then 2 else if s.pict = 1 ∧ c = 4 then s.pict else 0
  conj := if p = 1 then 1 else if 0 < s.conj ∧ p = 3 then 2 else if 0 < s.conj ∧ p = 2 then s.conj else 0
def note1 (s : Scan) (c : Int) : Scan := { s with last := c, flags := if c = 6 then s.flags + 1 else 0 }
def note2 (s : Scan) (c : Int) : Scan := { note1 s c with pict := if c = 14 then 1 else if s.pict = 1 ∧ c = 5 then 2 else if s.pict = 1 ∧ c = 4 then s.pict else 0 }
def ScanAt (w0 w : World) (g : Nat) (s : Scan) : Prop := Blk w g 220 s.cells ∧ Fr (· = g) w0 w
theorem ScanAt.facts {w0 w : World} {g : Nat} {s : Scan} (h : ScanAt w0 w g s) :
    w.cell? ⟨g, 0, none⟩ = some (.int .i64 s.last) ∧ w.cell? ⟨g, 1, none⟩ = some (.int .i64 s.flags) ∧ w.cell? ⟨g, 2, none⟩ = some (.int .i64 s.pict) ∧ w.cell? ⟨g, 3, none⟩ = some (.int .i64 s.conj) ∧
    w.frozen? ⟨g, 0, none⟩ = false ∧ w.frozen? ⟨g, 1, none⟩ = false ∧ w.frozen? ⟨g, 2, none⟩ = false ∧ w.frozen? ⟨g, 3, none⟩ = false :=
  ⟨h.1.cell 0, h.1.cell 1, h.1.cell 2, h.1.cell 3, h.1.frozen 0, h.1.frozen 1, h.1.frozen 2, h.1.frozen 3⟩
theorem ScanAt.set0 {w0 w : World} {g : Nat} {s : Scan} (h : ScanAt w0 w g s) (v : Int) : ScanAt w0 (w.setCell ⟨g, 0, none⟩ (.int .i64 v)) g { s with last := v } := ⟨h.1.set_ 0 _, h.2.set1 0 _⟩
theorem ScanAt.set1 {w0 w : World} {g : Nat} {s : Scan} (h : ScanAt w0 w g s) (v : Int) : ScanAt w0 (w.setCell ⟨g, 1, none⟩ (.int .i64 v)) g { s with flags := v } := ⟨h.1.set_ 1 _, h.2.set1 1 _⟩
theorem ScanAt.set2 {w0 w : World} {g : Nat} {s : Scan} (h : ScanAt w0 w g s) (v : Int) : ScanAt w0 (w.setCell ⟨g, 2, none⟩ (.int .i64 v)) g { s with pict := v } := ⟨h.1.set_ 2 _, h.2.set1 2 _⟩
theorem ScanAt.set3 {w0 w : World} {g : Nat} {s : Scan} (h : ScanAt w0 w g s) (v : Int) : ScanAt w0 (w.setCell ⟨g, 3, none⟩ (.int .i64 v)) g { s with conj := v } := ⟨h.1.set_ 3 _, h.2.set1 3 _⟩
theorem ScanAt.eq {w0 w : World} {g : Nat} {s s' : Scan} (h : ScanAt w0 w g s) (e : s = s') : ScanAt w0 w g s' := e ▸ h
set_option maxRecDepth 100000 in
set_option maxHeartbeats 1000000 in
theorem note_any (g : Nat) (s : Scan) (c p : Int) (w : World) (h : Blk w g 220 s.cells) (hf : 0 ≤ s.flags ∧ s.flags ≤ 4611686018427387904) :
    Calls Tryz.prog 145 #[.pointer (some ⟨g, 0, none⟩), .int .i64 c, .int .i64 p] w fun e w' =>
      e = .returned (.tuple #[]) ∧ ScanAt w w' g (noteF s c p) := by
  have hs : ScanAt w w g s := ⟨h, Fr.refl _ _⟩
  obtain ⟨c0, c1, c2, c3, f0, f1, f2, f3⟩ := hs.facts
  obtain ⟨hf1, hf2⟩ := hf
  go_enter Tryz.func145, Tryz.ntmps145
  go_upto_if 11 with fail
  go_cut [] (fun wx => ScanAt w wx g (note1 s c))
  case first =>
    go_wp2
    all_goals
      go_light
      go_meet
      simp only [beq_iff_eq, beq_eq_false_iff_ne, ne_eq] at *
      exact ((hs.set0 _).set1 _).eq (by simp only [noteF, note2, note1, Scan.mk.injEq]; refine ⟨?_, ?_, ?_, ?_⟩ <;> (repeat' split) <;> first | trivial | omega)
  case rest =>
    have hA := hcut
    clear c0 c1 c2 c3 f0 f1 f2 f3 hcut hs
    obtain ⟨c0, c1, c2, c3, f0, f1, f2, f3⟩ := hA.facts
    simp only [note1] at c0 c1 c2 c3
    go_upto_block 0 with fail
    go_cut [] (fun wx => ScanAt w wx g (note2 s c))
    case first =>
      go_wp2
      all_goals
        go_light
        go_meet
        simp only [beq_iff_eq, beq_eq_false_iff_ne, ne_eq] at *
        first
          | exact (hA.set2 _).eq (by simp only [noteF, note2, note1, Scan.mk.injEq]; refine ⟨?_, ?_, ?_, ?_⟩ <;> (repeat' split) <;> first | trivial | omega)
          | exact hA.eq (by simp only [noteF, note2, note1, Scan.mk.injEq]; refine ⟨?_, ?_, ?_, ?_⟩ <;> (repeat' split) <;> first | trivial | omega)
    case rest =>
      clear c0 c1 c2 c3 f0 f1 f2 f3 hA
      have hA := hcut
      clear hcut
      obtain ⟨c0, c1, c2, c3, f0, f1, f2, f3⟩ := hA.facts
      simp only [note1, note2] at c0 c1 c2 c3
      go_wp2
      all_goals
        go_light
        go_end0
        refine ⟨rfl, ?_⟩
        simp only [beq_iff_eq, beq_eq_false_iff_ne, ne_eq] at *
        first
          | exact (hA.set3 _).eq (by simp only [noteF, note2, note1, Scan.mk.injEq]; refine ⟨?_, ?_, ?_, ?_⟩ <;> (repeat' split) <;> first | trivial | omega)
          | exact hA.eq (by simp only [noteF, note2, note1, Scan.mk.injEq]; refine ⟨?_, ?_, ?_, ?_⟩ <;> (repeat' split) <;> first | trivial | omega)

def apartB (c : Int) : Bool := decide (c = 1 ∨ c = 2 ∨ c = 3)
theorem apart_any (c : Int) (w : World) : Calls Tryz.prog 132 #[.int .i64 c] w fun e w' => e = .returned (.bool (apartB c)) ∧ w = w' := by
  go_enter Tryz.func132, Tryz.ntmps132
  go_wp2
  all_goals
    go_light
    go_ret
    refine ⟨ret_b ?_, rfl⟩
    show _ = apartB c
    (try simp only [beq_iff_eq, beq_eq_false_iff_ne, ne_eq] at *)
    unfold apartB
    rw [Bool.eq_iff_iff]
    simp
    omega
def hangulB (l r : Int) : Bool :=
  decide (((r = 9 ∨ r = 12 ∨ r = 13) ∧ l = 9) ∨ (r = 10 ∧ (l = 9 ∨ l = 12 ∨ l = 10)) ∨ (r = 11 ∧ (l = 12 ∨ l = 10 ∨ l = 13 ∨ l = 11)))
set_option maxHeartbeats 1000000 in
theorem hangul_any (l r : Int) (w : World) : Calls Tryz.prog 147 #[.int .i64 l, .int .i64 r] w fun e w' => e = .returned (.bool (hangulB l r)) ∧ w = w' := by
  go_enter Tryz.func147, Tryz.ntmps147
  go_wp2
  all_goals
    go_light
    go_ret
    refine ⟨ret_b ?_, rfl⟩
    show _ = hangulB l r
    (try simp only [beq_iff_eq, beq_eq_false_iff_ne, ne_eq] at *)
    unfold hangulB
    rw [Bool.eq_iff_iff]
    simp
    omega
end Go.Proofs.YteekabaoocaghaaGreat
