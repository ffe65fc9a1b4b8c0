/-
  The walks of package piece, first part: sums.
-/
import Derived.Test.YtgiihhikdoikgaaGreatLCodec4
set_option linter.unusedSimpArgs false
set_option linter.unusedVariables false
set_option maxRecDepth 100000
set_option maxHeartbeats 32000000
namespace Go.Proofs.YtgiihhikdoikgaaGreat
open Go.RowKit
theorem balloc {w w1 : World} {o : Obj} (h : Below w.heap.size w w1) : Below w.heap.size w (w1.alloc o) := h.alloc h.size o
structure Sums where
 atoms : Int
 bytes : Int
 breaks : Int
 lf : Bool
 cr : Bool
def Sums.cells (s : Sums) : Array Value := #[.int .i64 s.atoms, .int .i64 s.bytes, .int .i64 s.breaks, .bool s.lf, .bool s.cr]
def Sums.ok (s : Sums) : Prop := 0 <= s.atoms /\ s.atoms <= 2147483648 /\ 0 <= s.bytes /\ s.bytes <= 2147483648 /\ 0 <= s.breaks /\ s.breaks <= 2147483648
def addF (s o : Sums) : Sums :=
 if s.atoms = 0 then o else if o.atoms = 0 then s else
 { atoms := s.atoms + o.atoms, bytes := s.bytes + o.bytes, breaks := if (s.cr && o.lf) = true then s.breaks + o.breaks - 1 else s.breaks + o.breaks, lf := s.lf, cr := o.cr }
theorem add_any (s o : Sums) (w : World) (hs : s.ok) (ho : o.ok) :
  Calls Tryz.prog 118 #[.agg s.cells, .agg o.cells] w fun e w' => e = .returned (.agg (addF s o).cells) /\ Below w.heap.size w w' := by
 obtain ⟨s1, s2, s3, s4, s5, s6⟩ := hs
 obtain ⟨o1, o2, o3, o4, o5, o6⟩ := ho
 obtain ⟨sa, sb, sk, sl, sc⟩ := s
 obtain ⟨oa, ob, ok, ol, oc⟩ := o
 simp only [Sums.cells] at *
 by_cases h1 : sa = 0
 ·have e : addF ⟨sa, sb, sk, sl, sc⟩ ⟨oa, ob, ok, ol, oc⟩ = ⟨oa, ob, ok, ol, oc⟩ := by unfold addF; rw [if_pos h1]
  rw [e]
  have q : (sa == 0) = true := by rw [beq_iff_eq]; exact h1
  clear h1 e
  go_enter Tryz.func118, Tryz.ntmps118
  go_wp2
  refine bodyPost_ret (v := .agg #[.int .i64 oa, .int .i64 ob, .int .i64 ok, .bool ol, .bool oc]) (by simp [results, Tryz.results118, go_sem]) rfl ⟨rfl, ?_⟩
  repeat (first | exact Below.refl _ _ | apply balloc)
 by_cases h2 : oa = 0
 ·have e : addF ⟨sa, sb, sk, sl, sc⟩ ⟨oa, ob, ok, ol, oc⟩ = ⟨sa, sb, sk, sl, sc⟩ := by unfold addF; rw [if_neg h1, if_pos h2]
  rw [e]
  have q : (sa == 0) = false := by rw [beq_eq_false_iff_ne]; exact h1
  have q2 : (oa == 0) = true := by rw [beq_iff_eq]; exact h2
  clear h1 h2 e
  go_enter Tryz.func118, Tryz.ntmps118
  go_wp2
  refine bodyPost_ret (v := .agg #[.int .i64 sa, .int .i64 sb, .int .i64 sk, .bool sl, .bool sc]) (by simp [results, Tryz.results118, go_sem]) rfl ⟨rfl, ?_⟩
  repeat (first | exact Below.refl _ _ | apply balloc)
 have q : (sa == 0) = false := by rw [beq_eq_false_iff_ne]; exact h1
 have q2 : (oa == 0) = false := by rw [beq_eq_false_iff_ne]; exact h2
 cases sc <;> cases ol
 case true.true =>
  have e : addF ⟨sa, sb, sk, sl, true⟩ ⟨oa, ob, ok, true, oc⟩ = ⟨sa + oa, sb + ob, sk + ok - 1, sl, oc⟩ := by unfold addF; rw [if_neg h1, if_neg h2]; rfl
  rw [e]
  clear h1 h2 e
  go_enter Tryz.func118, Tryz.ntmps118
  go_wp2
  refine bodyPost_ret (v := .agg #[.int .i64 (sa + oa), .int .i64 (sb + ob), .int .i64 (sk + ok - 1), .bool sl, .bool oc]) (by simp [results, Tryz.results118, go_sem]) rfl ⟨rfl, ?_⟩
  repeat (first | exact Below.refl _ _ | apply balloc)
 case true.false =>
  have e : addF ⟨sa, sb, sk, sl, true⟩ ⟨oa, ob, ok, false, oc⟩ = ⟨sa + oa, sb + ob, sk + ok, sl, oc⟩ := by unfold addF; rw [if_neg h1, if_neg h2]; rfl
  rw [e]
  clear h1 h2 e
  go_enter Tryz.func118, Tryz.ntmps118
  go_wp2
  refine bodyPost_ret (v := .agg #[.int .i64 (sa + oa), .int .i64 (sb + ob), .int .i64 (sk + ok), .bool sl, .bool oc]) (by simp [results, Tryz.results118, go_sem]) rfl ⟨rfl, ?_⟩
  repeat (first | exact Below.refl _ _ | apply balloc)
 case false.true =>
  have e : addF ⟨sa, sb, sk, sl, false⟩ ⟨oa, ob, ok, true, oc⟩ = ⟨sa + oa, sb + ob, sk + ok, sl, oc⟩ := by unfold addF; rw [if_neg h1, if_neg h2]; rfl
  rw [e]
  clear h1 h2 e
  go_enter Tryz.func118, Tryz.ntmps118
  go_wp2
  refine bodyPost_ret (v := .agg #[.int .i64 (sa + oa), .int .i64 (sb + ob), .int .i64 (sk + ok), .bool sl, .bool oc]) (by simp [results, Tryz.results118, go_sem]) rfl ⟨rfl, ?_⟩
  repeat (first | exact Below.refl _ _ | apply balloc)
 case false.false =>
  have e : addF ⟨sa, sb, sk, sl, false⟩ ⟨oa, ob, ok, false, oc⟩ = ⟨sa + oa, sb + ob, sk + ok, sl, oc⟩ := by unfold addF; rw [if_neg h1, if_neg h2]; rfl
  rw [e]
  clear h1 h2 e
  go_enter Tryz.func118, Tryz.ntmps118
  go_wp2
  refine bodyPost_ret (v := .agg #[.int .i64 (sa + oa), .int .i64 (sb + ob), .int .i64 (sk + ok), .bool sl, .bool oc]) (by simp [results, Tryz.results118, go_sem]) rfl ⟨rfl, ?_⟩
  repeat (first | exact Below.refl _ _ | apply balloc)
end Go.Proofs.YtgiihhikdoikgaaGreat
