/-
  The walks of package codec: Size, Fits, Encode of one atom.
-/
import Derived.Test.YtkoakanpaehkmaaGreatDoorLPut
set_option linter.unusedSimpArgs false
set_option linter.unusedVariables false
set_option maxRecDepth 100000
set_option maxHeartbeats 32000000
namespace Go.Proofs.YtkoakanpaehkmaaGreatDoor
open Go.RowKit
theorem nas_eight (w : World) : (nilAhead 409 237 (.agg #[]) "copyist/codec.size").run Tryz.prog w = .ok (some false) w := by kernel_rfl
theorem nas_sixteen (o : Int) (w : World) : (nilAhead 409 239 (.agg #[.int .i64 o]) "copyist/codec.size").run Tryz.prog w = .ok (some false) w := by kernel_rfl
theorem nas_latin (w : World) : (nilAhead 409 240 (.agg #[]) "copyist/codec.size").run Tryz.prog w = .ok (some false) w := by kernel_rfl
theorem mes_eight (w : World) : (method 409 237 (.agg #[]) "copyist/codec.size").run Tryz.prog w = .ok (248, .agg #[]) w := by kernel_rfl
theorem mes_sixteen (o : Int) (w : World) : (method 409 239 (.agg #[.int .i64 o]) "copyist/codec.size").run Tryz.prog w = .ok (255, .agg #[.int .i64 o]) w := by kernel_rfl
theorem mes_latin (w : World) : (method 409 240 (.agg #[]) "copyist/codec.size").run Tryz.prog w = .ok (264, .agg #[]) w := by kernel_rfl
theorem nap_eight (w : World) : (nilAhead 409 237 (.agg #[]) "copyist/codec.put").run Tryz.prog w = .ok (some false) w := by kernel_rfl
theorem nap_sixteen (o : Int) (w : World) : (nilAhead 409 239 (.agg #[.int .i64 o]) "copyist/codec.put").run Tryz.prog w = .ok (some false) w := by kernel_rfl
theorem nap_latin (w : World) : (nilAhead 409 240 (.agg #[]) "copyist/codec.put").run Tryz.prog w = .ok (some false) w := by kernel_rfl
theorem mep_eight (w : World) : (method 409 237 (.agg #[]) "copyist/codec.put").run Tryz.prog w = .ok (247, .agg #[]) w := by kernel_rfl
theorem mep_sixteen (o : Int) (w : World) : (method 409 239 (.agg #[.int .i64 o]) "copyist/codec.put").run Tryz.prog w = .ok (254, .agg #[.int .i64 o]) w := by kernel_rfl
theorem mep_latin (w : World) : (method 409 240 (.agg #[]) "copyist/codec.put").run Tryz.prog w = .ok (263, .agg #[]) w := by kernel_rfl
theorem csize_any (enc a : Int) (w : World) (he : enc = 1 \/ enc = 2 \/ enc = 3 \/ enc = 4) : Calls Tryz.prog 82 #[.int .i64 enc, .int .i64 a] w fun e w' => e = .returned (.int .i64 (szA enc a)) /\ Below w.heap.size w w' := by
 rcases he with rfl | rfl | rfl | rfl
 ·go_enter Tryz.func82, Tryz.ntmps82
  go_wp2_with fail
  refine (of_any _ _ (by omega)).mono ?_
  rintro e w1 ⟨rfl, rfl⟩
  simp only [coderV, if_true, Int.reduceEq, if_false]
  have f1 := nas_eight
  have f2 := mes_eight
  go_wp2_with fail
  refine (sz8_any a _).mono ?_
  rintro e w3 ⟨rfl, hb3⟩
  go_wp2_with fail
  go_ret
  exact ⟨rfl, hb3⟩
 ·go_enter Tryz.func82, Tryz.ntmps82
  go_wp2_with fail
  refine (of_any _ _ (by omega)).mono ?_
  rintro e w1 ⟨rfl, rfl⟩
  simp only [coderV, if_true, Int.reduceEq, if_false]
  have f1 := nas_sixteen 0
  have f2 := mes_sixteen 0
  go_wp2_with fail
  refine (sz16_any 0 a _).mono ?_
  rintro e w3 ⟨rfl, hb3⟩
  go_wp2_with fail
  go_ret
  exact ⟨rfl, hb3⟩
 ·go_enter Tryz.func82, Tryz.ntmps82
  go_wp2_with fail
  refine (of_any _ _ (by omega)).mono ?_
  rintro e w1 ⟨rfl, rfl⟩
  simp only [coderV, if_true, Int.reduceEq, if_false]
  have f1 := nas_sixteen 1
  have f2 := mes_sixteen 1
  go_wp2_with fail
  refine (sz16_any 1 a _).mono ?_
  rintro e w3 ⟨rfl, hb3⟩
  go_wp2_with fail
  go_ret
  exact ⟨rfl, hb3⟩
 ·go_enter Tryz.func82, Tryz.ntmps82
  go_wp2_with fail
  refine (of_any _ _ (by omega)).mono ?_
  rintro e w1 ⟨rfl, rfl⟩
  simp only [coderV, if_true, Int.reduceEq, if_false]
  have f1 := nas_latin
  have f2 := mes_latin
  go_wp2_with fail
  refine (szL_any a _).mono ?_
  rintro e w3 ⟨rfl, hb3⟩
  go_wp2_with fail
  go_ret
  exact ⟨rfl, hb3⟩
theorem cfits_any (enc a : Int) (w : World) (he : enc = 1 \/ enc = 2 \/ enc = 3 \/ enc = 4) : Calls Tryz.prog 38 #[.int .i64 enc, .int .i64 a] w fun e w' => e = .returned (.bool (decide (0 < szA enc a))) /\ Below w.heap.size w w' := by
 have hc := csize_any enc a w he
 obtain ⟨z, hz⟩ : ∃ z, szA enc a = z := ⟨_, rfl⟩
 rw [hz] at hc ⊢
 have HC := Lib.hid hc
 clear hc hz
 go_enter Tryz.func38, Tryz.ntmps38
 go_wp2_with fail
 refine (HC.out).mono ?_
 rintro e w3 ⟨rfl, hb3⟩
 go_wp2_with fail
 go_ret
 exact ⟨rfl, hb3⟩
def Enc1Post (enc a : Int) (w : World) (e : Ending) (w' : World) : Prop :=
 ∃ v, e = .returned (.tuple #[v, .int .i64 0, .int .i64 0]) /\ w'.ownsRow w.heap.size 5 1 v (putA enc a).length ((putA enc a).map (Value.int .u8)) /\ Below w.heap.size w w'
theorem encode1_any (enc a : Int) (D : Nat -> Prop) (A : Option Addr) (c : Nat) (w : World) (he : enc = 1 \/ enc = 2 \/ enc = 3 \/ enc = 4) (hl : Ints w D A 1 [a]) (ha : 0 < szA enc a) :
  Calls Tryz.prog 195 #[.int .i64 enc, .slice A 1 c] w fun e w' => Enc1Post enc a w e w' := by
 obtain ⟨ad, rfl, hD, c0⟩ := hl.at_ (show 0 < 1 by omega)
 rw [add_zero] at c0
 simp at c0
 rcases he with rfl | rfl | rfl | rfl
 ·have hz0 : 0 < sz8 a := ha
  have q0 : (sz8 a == 0) = false := by rw [beq_eq_false_iff_ne]; omega
  have ks := fun (w' : World) => sz8_any a w'
  have hpost : putA 1 a = putA 1 a := rfl
  obtain ⟨z, hz⟩ : ∃ z, sz8 a = z := ⟨_, rfl⟩
  rw [hz] at ks q0
  have KS := Lib.hid ks
  clear ks ha hz
  go_enter Tryz.func195, Tryz.ntmps195
  go_wp2_with fail
  refine (of_any _ _ (by omega)).mono ?_
  rintro e w1 ⟨rfl, rfl⟩
  simp only [coderV, if_true, Int.reduceEq, if_false]
  have f1 := nas_eight
  have f2 := mes_eight
  have f3 := nap_eight
  have f4 := mep_eight
  go_wp2_with fail
  refine wp_loop_rounds 2 ?_
  rw [rounds_succ]
  go_wp2_with fail
  refine (KS.out _).mono ?_
  rintro e w3 ⟨rfl, hb3⟩
  have c3 := cell_keep hb3 c0
  go_wp2_with fail
  refine (put8_any w.heap.size (.slice none 0 0) [] a w3 (World.ownsRow_nil _ _ _ _) hb3.size (by simp) hz0).mono ?_
  rintro e w4 ⟨v, rfl, h1, h2, h3⟩
  have hb4 : Below w.heap.size w w4 := bseq hb3 (h2.below (fun k _ hk => by simp [OwnB, Value.ownBlock] at hk))
  have HO := Lib.hid h1
  clear c0 c3 h1 h2 h3
  go_wp2_with fail
  rw [rounds_succ]
  go_wp2_with fail
  go_ret3
  refine ⟨v, rfl, ?_, hb4⟩
  have := HO.out
  simp only [List.length_nil, Nat.zero_add, List.nil_append] at this
  exact this
 ·have hz0 : 0 < sz16 a := ha
  have q0 : (sz16 a == 0) = false := by rw [beq_eq_false_iff_ne]; omega
  have ks := fun (w' : World) => sz16_any 0 a w'
  have hpost : putA 2 a = putA 2 a := rfl
  obtain ⟨z, hz⟩ : ∃ z, sz16 a = z := ⟨_, rfl⟩
  rw [hz] at ks q0
  have KS := Lib.hid ks
  clear ks ha hz
  go_enter Tryz.func195, Tryz.ntmps195
  go_wp2_with fail
  refine (of_any _ _ (by omega)).mono ?_
  rintro e w1 ⟨rfl, rfl⟩
  simp only [coderV, if_true, Int.reduceEq, if_false]
  have f1 := nas_sixteen 0
  have f2 := mes_sixteen 0
  have f3 := nap_sixteen 0
  have f4 := mep_sixteen 0
  go_wp2_with fail
  refine wp_loop_rounds 2 ?_
  rw [rounds_succ]
  go_wp2_with fail
  refine (KS.out _).mono ?_
  rintro e w3 ⟨rfl, hb3⟩
  have c3 := cell_keep hb3 c0
  go_wp2_with fail
  refine (put16_any w.heap.size 0 (.slice none 0 0) [] a w3 (.inl rfl) (World.ownsRow_nil _ _ _ _) hb3.size (by simp) hz0).mono ?_
  rintro e w4 ⟨v, rfl, h1, h2, h3⟩
  have hb4 : Below w.heap.size w w4 := bseq hb3 (h2.below (fun k _ hk => by simp [OwnB, Value.ownBlock] at hk))
  have HO := Lib.hid h1
  clear c0 c3 h1 h2 h3
  go_wp2_with fail
  rw [rounds_succ]
  go_wp2_with fail
  go_ret3
  refine ⟨v, rfl, ?_, hb4⟩
  have := HO.out
  simp only [List.length_nil, Nat.zero_add, List.nil_append] at this
  exact this
 ·have hz0 : 0 < sz16 a := ha
  have q0 : (sz16 a == 0) = false := by rw [beq_eq_false_iff_ne]; omega
  have ks := fun (w' : World) => sz16_any 1 a w'
  have hpost : putA 3 a = putA 3 a := rfl
  obtain ⟨z, hz⟩ : ∃ z, sz16 a = z := ⟨_, rfl⟩
  rw [hz] at ks q0
  have KS := Lib.hid ks
  clear ks ha hz
  go_enter Tryz.func195, Tryz.ntmps195
  go_wp2_with fail
  refine (of_any _ _ (by omega)).mono ?_
  rintro e w1 ⟨rfl, rfl⟩
  simp only [coderV, if_true, Int.reduceEq, if_false]
  have f1 := nas_sixteen 1
  have f2 := mes_sixteen 1
  have f3 := nap_sixteen 1
  have f4 := mep_sixteen 1
  go_wp2_with fail
  refine wp_loop_rounds 2 ?_
  rw [rounds_succ]
  go_wp2_with fail
  refine (KS.out _).mono ?_
  rintro e w3 ⟨rfl, hb3⟩
  have c3 := cell_keep hb3 c0
  go_wp2_with fail
  refine (put16_any w.heap.size 1 (.slice none 0 0) [] a w3 (.inr rfl) (World.ownsRow_nil _ _ _ _) hb3.size (by simp) hz0).mono ?_
  rintro e w4 ⟨v, rfl, h1, h2, h3⟩
  have hb4 : Below w.heap.size w w4 := bseq hb3 (h2.below (fun k _ hk => by simp [OwnB, Value.ownBlock] at hk))
  have HO := Lib.hid h1
  clear c0 c3 h1 h2 h3
  go_wp2_with fail
  rw [rounds_succ]
  go_wp2_with fail
  go_ret3
  refine ⟨v, rfl, ?_, hb4⟩
  have := HO.out
  simp only [List.length_nil, Nat.zero_add, List.nil_append] at this
  exact this
 ·have hz0 : 0 < szL a := ha
  have q0 : (szL a == 0) = false := by rw [beq_eq_false_iff_ne]; omega
  have ks := fun (w' : World) => szL_any a w'
  have hpost : putA 4 a = putA 4 a := rfl
  obtain ⟨z, hz⟩ : ∃ z, szL a = z := ⟨_, rfl⟩
  rw [hz] at ks q0
  have KS := Lib.hid ks
  clear ks ha hz
  go_enter Tryz.func195, Tryz.ntmps195
  go_wp2_with fail
  refine (of_any _ _ (by omega)).mono ?_
  rintro e w1 ⟨rfl, rfl⟩
  simp only [coderV, if_true, Int.reduceEq, if_false]
  have f1 := nas_latin
  have f2 := mes_latin
  have f3 := nap_latin
  have f4 := mep_latin
  go_wp2_with fail
  refine wp_loop_rounds 2 ?_
  rw [rounds_succ]
  go_wp2_with fail
  refine (KS.out _).mono ?_
  rintro e w3 ⟨rfl, hb3⟩
  have c3 := cell_keep hb3 c0
  go_wp2_with fail
  refine (putL_any w.heap.size (.slice none 0 0) [] a w3 (World.ownsRow_nil _ _ _ _) hb3.size (by simp) hz0).mono ?_
  rintro e w4 ⟨v, rfl, h1, h2, h3⟩
  have hb4 : Below w.heap.size w w4 := bseq hb3 (h2.below (fun k _ hk => by simp [OwnB, Value.ownBlock] at hk))
  have HO := Lib.hid h1
  clear c0 c3 h1 h2 h3
  go_wp2_with fail
  rw [rounds_succ]
  go_wp2_with fail
  go_ret3
  refine ⟨v, rfl, ?_, hb4⟩
  have := HO.out
  simp only [List.length_nil, Nat.zero_add, List.nil_append] at this
  exact this
end Go.Proofs.YtkoakanpaehkmaaGreatDoor
