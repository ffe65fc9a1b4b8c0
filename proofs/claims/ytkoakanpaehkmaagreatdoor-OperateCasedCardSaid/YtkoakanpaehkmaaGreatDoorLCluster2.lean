/-
  The walks of package cluster, second part: takes, begin.
-/
import Derived.Test.YtkoakanpaehkmaaGreatDoorLCluster
set_option linter.unusedSimpArgs false
set_option linter.unusedVariables false
set_option maxRecDepth 100000
set_option maxHeartbeats 32000000
namespace Go.Proofs.YtkoakanpaehkmaaGreatDoor
open Go.RowKit
theorem ScanAt.after {w0 w1 w2 : World} {g : Nat} {s s' : Scan} (h : ScanAt w0 w1 g s) (k : ScanAt w1 w2 g s') : ScanAt w0 w2 g s' := ⟨k.1, h.2.trans k.2⟩
noncomputable def joinsF (s : Scan) (a : Int) : Bool :=
 if s.last = 1 /\ classF a = 2 then true
 else if apartB s.last = true \/ apartB (classF a) = true then false
 else if classF a = 4 \/ classF a = 5 \/ classF a = 8 \/ s.last = 7 then true
 else if hangulB s.last (classF a) = true then true
 else if conjF a = 1 /\ s.conj = 2 then true
 else if classF a = 14 then s.pict == 2
 else if classF a = 6 then s.flags % 2 == 1
 else false
noncomputable def takesF (s : Scan) (a : Int) : Scan := if joinsF s a = true then noteF s (classF a) (conjF a) else s
theorem takes_any (g : Nat) (s : Scan) (a : Int) (w : World) (h : Blk w g 245 s.cells) (hf : 0 <= s.flags /\ s.flags <= 4611686018427387904) :
  Calls Tryz.prog 166 #[.pointer (some ⟨g, 0, none⟩), .int .i64 a] w fun e w' =>
   e = .returned (.bool (joinsF s a)) /\ ScanAt w w' g (takesF s a) := by
 obtain ⟨hf1, hf2⟩ := hf
 go_enter Tryz.func166, Tryz.ntmps166
 go_upto_block 0 with (first | (go_at_call 167; refine (class_any _ _).mono ?_; rintro e w1 ⟨rfl, hb1⟩) | (go_at_call 188; refine (conjunct_any _ _).mono ?_; rintro e w2 ⟨rfl, hb2⟩))
 have hA : ScanAt w w2 g s := ⟨(h.below hb1).below hb2, Fr.of_below (bseq hb1 hb2)⟩
 clear hb1 hb2 h
 obtain ⟨c0, c1, c2, c3, f0, f1, f2, f3⟩ := hA.facts
 go_cut [7] (fun s7 wx => s7 = .bool (joinsF s a) /\ wx = w2)
 case first =>
  cases hp : (conjF a == 1) <;> cases hl : (s.last == 1)
  all_goals
   go_wp2_with (first | (go_at_call 168; refine (apart_any _ _).mono ?_; rintro e w1 ⟨rfl, rfl⟩) | (go_at_call 189; refine (hangul_any _ _ _).mono ?_; rintro e w1 ⟨rfl, rfl⟩))
  all_goals
   go_light
   go_meet
   refine ⟨congrArg Value.bool ?_, rfl⟩
   (try simp only [beq_iff_eq, beq_eq_false_iff_ne, ne_eq] at *)
   clear c0 c1 c2 c3 f0 f1 f2 f3 hA
   unfold joinsF
   (repeat' split) <;> first | rfl | (simp_all; done) | (simp_all; omega)
 case rest =>
  obtain ⟨rfl, rfl⟩ := hcut
  cases hj : joinsF s a
  ·go_wp2
   go_ret
   refine ⟨ret_b hj.symm, hA.eq ?_⟩
   simp [takesF, hj]
  ·go_wp2_with (go_at_call 187; refine (note_any g s _ _ _ hA.1 ⟨hf1, hf2⟩).mono ?_; rintro e w1 ⟨rfl, hn⟩)
   go_ret
   refine ⟨ret_b hj.symm, (ScanAt.after hA hn).eq ?_⟩
   simp [takesF, hj]
end Go.Proofs.YtkoakanpaehkmaaGreatDoor
