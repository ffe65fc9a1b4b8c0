/-
  The walks of package codec, fourth part: Next. The walks of package piece, first part: sums.
-/
import Derived.Test.YtkoakanpaehkmaaGreatDoorLHeavy
set_option linter.unusedSimpArgs false
set_option linter.unusedVariables false
set_option maxRecDepth 100000
set_option maxHeartbeats 32000000
namespace Go.Proofs.YtkoakanpaehkmaaGreatDoor
open Go.RowKit
def coderV (enc : Int) : Value :=
 if enc = 1 then .iface 237 (.agg #[]) else if enc = 2 then .iface 239 (.agg #[.int .i64 0]) else if enc = 3 then .iface 239 (.agg #[.int .i64 1]) else .iface 240 (.agg #[])
theorem of_any (enc : Int) (w : World) (h : enc = 1 \/ enc = 2 \/ enc = 3 \/ enc = 4) : Calls Tryz.prog 129 #[.int .i64 enc] w fun e w' => e = .returned (coderV enc) /\ w = w' := by
 rcases h with rfl | rfl | rfl | rfl
 all_goals
  go_enter Tryz.func129, Tryz.ntmps129
  go_wp2_with fail
  go_ret
  exact ⟨rfl, rfl⟩
def atomAt (enc : Int) (l : List Int) : Int := if enc = 1 then atom8 l else if enc = 2 then atom16 0 l else if enc = 3 then atom16 1 l else atomL l
def sizeAt (enc : Int) (l : List Int) : Int := if enc = 1 then size8 l else if enc = 2 then size16 0 l else if enc = 3 then size16 1 l else 1
theorem na_eight (w : World) : (nilAhead 409 237 (.agg #[]) "copyist/codec.first").run Tryz.prog w = .ok (some false) w := by kernel_rfl
theorem na_sixteen (o : Int) (w : World) : (nilAhead 409 239 (.agg #[.int .i64 o]) "copyist/codec.first").run Tryz.prog w = .ok (some false) w := by kernel_rfl
theorem na_latin (w : World) : (nilAhead 409 240 (.agg #[]) "copyist/codec.first").run Tryz.prog w = .ok (some false) w := by kernel_rfl
theorem me_eight (w : World) : (method 409 237 (.agg #[]) "copyist/codec.first").run Tryz.prog w = .ok (244, .agg #[]) w := by kernel_rfl
theorem me_sixteen (o : Int) (w : World) : (method 409 239 (.agg #[.int .i64 o]) "copyist/codec.first").run Tryz.prog w = .ok (251, .agg #[.int .i64 o]) w := by kernel_rfl
theorem me_latin (w : World) : (method 409 240 (.agg #[]) "copyist/codec.first").run Tryz.prog w = .ok (260, .agg #[]) w := by kernel_rfl
theorem cnext_any (enc : Int) (D : Nat -> Prop) (A : Option Addr) (n c p : Nat) (l : List Int) (w : World) (he : enc = 1 \/ enc = 2 \/ enc = 3 \/ enc = 4) (hl : Bts w D A n l) (hb : Byt l) (hn : n <= 2147483648) (hcap : n <= c) (hp : p < n) :
  Calls Tryz.prog 118 #[.int .i64 enc, .slice A n c, .int .i64 (p : Int)] w fun e w' => e = .returned (.tuple #[.int .i64 (atomAt enc (l.drop p)), .int .i64 (sizeAt enc (l.drop p))]) /\ Below w.heap.size w w' := by
 obtain ⟨ad, rfl, hD, _⟩ := hl.at_ hp
 have hl1 : Bts w D (some (ad.add p)) (n - p) (l.drop p) := by
  have := Reads.cut hl (Nat.le_of_lt hp) (Nat.le_succ n)
  rw [if_neg (by omega)] at this
  simpa [Bts] using this
 have q1 : ¬ c = p := by omega
 have q2 : (0 : Int) <= (p : Int) := by omega
 have q3 : (p : Int) <= (n : Int) := by omega
 have q4 : (p : Int) <= (c : Int) := by omega
 have hl2 : Bts w.drew D (some (ad.add p)) (n - p) (l.drop p) := hl1
 rcases he with rfl | rfl | rfl | rfl
 ·go_enter Tryz.func118, Tryz.ntmps118
  go_wp2_with fail
  refine (of_any _ _ (by omega)).mono ?_
  rintro e w1 ⟨rfl, rfl⟩
  simp only [coderV, if_true, Int.reduceEq, if_false]
  go_wp2_with fail
  have f1 := na_eight
  have f2 := me_eight
  go_region_with (go_at_call 244; refine (first8_any D _ (n - p) (c - p) (l.drop p) _ hl2 (hb.drop p) (by omega) (by omega) (by omega)).mono ?_; rintro e w3 ⟨rfl, hb3⟩)
  go_wp2_with fail
  go_ret2
  exact ⟨rfl, bdrew hb3⟩
 ·go_enter Tryz.func118, Tryz.ntmps118
  go_wp2_with fail
  refine (of_any _ _ (by omega)).mono ?_
  rintro e w1 ⟨rfl, rfl⟩
  simp only [coderV, if_true, Int.reduceEq, if_false]
  go_wp2_with fail
  have f1 := na_sixteen 0
  have f2 := me_sixteen 0
  go_region_with (go_at_call 251; refine (first16_any 0 D _ (n - p) (c - p) (l.drop p) _ (.inl rfl) hl2 (hb.drop p) (by omega) (by omega) (by omega)).mono ?_; rintro e w3 ⟨rfl, hb3⟩)
  go_wp2_with fail
  go_ret2
  exact ⟨rfl, bdrew hb3⟩
 ·go_enter Tryz.func118, Tryz.ntmps118
  go_wp2_with fail
  refine (of_any _ _ (by omega)).mono ?_
  rintro e w1 ⟨rfl, rfl⟩
  simp only [coderV, if_true, Int.reduceEq, if_false]
  go_wp2_with fail
  have f1 := na_sixteen 1
  have f2 := me_sixteen 1
  go_region_with (go_at_call 251; refine (first16_any 1 D _ (n - p) (c - p) (l.drop p) _ (.inr rfl) hl2 (hb.drop p) (by omega) (by omega) (by omega)).mono ?_; rintro e w3 ⟨rfl, hb3⟩)
  go_wp2_with fail
  go_ret2
  exact ⟨rfl, bdrew hb3⟩
 ·go_enter Tryz.func118, Tryz.ntmps118
  go_wp2_with fail
  refine (of_any _ _ (by omega)).mono ?_
  rintro e w1 ⟨rfl, rfl⟩
  simp only [coderV, if_true, Int.reduceEq, if_false]
  go_wp2_with fail
  have f1 := na_latin
  have f2 := me_latin
  go_region_with (go_at_call 260; refine (firstL_any D _ (n - p) (c - p) (l.drop p) _ hl2 (hb.drop p) (by omega)).mono ?_; rintro e w3 ⟨rfl, hb3⟩)
  go_wp2_with fail
  go_ret2
  exact ⟨rfl, bdrew hb3⟩
theorem balloc {w w1 : World} {o : Obj} (h : Below w.heap.size w w1) : Below w.heap.size w (w1.alloc o) := h.alloc h.size o
structure Sums where
 atoms : Int
 bytes : Int
 breaks : Int
 lf : Bool
 cr : Bool
def Sums.cells (s : Sums) : Array Value := #[.int .i64 s.atoms, .int .i64 s.bytes, .int .i64 s.breaks, .bool s.lf, .bool s.cr]
def Sums.ok (s : Sums) : Prop := 0 <= s.atoms /\ s.atoms <= 2147483648 /\ 0 <= s.bytes /\ s.bytes <= 2147483648 /\ 0 <= s.breaks /\ s.breaks <= 2147483648
def addF (s o : Sums) : Sums :=
 if s.atoms = 0 then o else if o.atoms = 0 then s else
 { atoms := s.atoms + o.atoms, bytes := s.bytes + o.bytes, breaks := if (s.cr && o.lf) = true then s.breaks + o.breaks - 1 else s.breaks + o.breaks, lf := s.lf, cr := o.cr }
theorem add_any (s o : Sums) (w : World) (hs : s.ok) (ho : o.ok) :
  Calls Tryz.prog 156 #[.agg s.cells, .agg o.cells] w fun e w' => e = .returned (.agg (addF s o).cells) /\ Below w.heap.size w w' := by
 obtain ⟨s1, s2, s3, s4, s5, s6⟩ := hs
 obtain ⟨o1, o2, o3, o4, o5, o6⟩ := ho
 obtain ⟨sa, sb, sk, sl, sc⟩ := s
 obtain ⟨oa, ob, ok, ol, oc⟩ := o
 simp only [Sums.cells] at *
 by_cases h1 : sa = 0
 ·have e : addF ⟨sa, sb, sk, sl, sc⟩ ⟨oa, ob, ok, ol, oc⟩ = ⟨oa, ob, ok, ol, oc⟩ := by unfold addF; rw [if_pos h1]
  rw [e]
  have q : (sa == 0) = true := by rw [beq_iff_eq]; exact h1
  clear h1 e
  go_enter Tryz.func156, Tryz.ntmps156
  go_wp2
  refine bodyPost_ret (v := .agg #[.int .i64 oa, .int .i64 ob, .int .i64 ok, .bool ol, .bool oc]) (by simp [results, Tryz.results156, go_sem]) rfl ⟨rfl, ?_⟩
  repeat (first | exact Below.refl _ _ | apply balloc)
 by_cases h2 : oa = 0
 ·have e : addF ⟨sa, sb, sk, sl, sc⟩ ⟨oa, ob, ok, ol, oc⟩ = ⟨sa, sb, sk, sl, sc⟩ := by unfold addF; rw [if_neg h1, if_pos h2]
  rw [e]
  have q : (sa == 0) = false := by rw [beq_eq_false_iff_ne]; exact h1
  have q2 : (oa == 0) = true := by rw [beq_iff_eq]; exact h2
  clear h1 h2 e
  go_enter Tryz.func156, Tryz.ntmps156
  go_wp2
  refine bodyPost_ret (v := .agg #[.int .i64 sa, .int .i64 sb, .int .i64 sk, .bool sl, .bool sc]) (by simp [results, Tryz.results156, go_sem]) rfl ⟨rfl, ?_⟩
  repeat (first | exact Below.refl _ _ | apply balloc)
 have q : (sa == 0) = false := by rw [beq_eq_false_iff_ne]; exact h1
 have q2 : (oa == 0) = false := by rw [beq_eq_false_iff_ne]; exact h2
 cases sc <;> cases ol
 case true.true =>
  have e : addF ⟨sa, sb, sk, sl, true⟩ ⟨oa, ob, ok, true, oc⟩ = ⟨sa + oa, sb + ob, sk + ok - 1, sl, oc⟩ := by unfold addF; rw [if_neg h1, if_neg h2]; rfl
  rw [e]
  clear h1 h2 e
  go_enter Tryz.func156, Tryz.ntmps156
  go_wp2
  refine bodyPost_ret (v := .agg #[.int .i64 (sa + oa), .int .i64 (sb + ob), .int .i64 (sk + ok - 1), .bool sl, .bool oc]) (by simp [results, Tryz.results156, go_sem]) rfl ⟨rfl, ?_⟩
  repeat (first | exact Below.refl _ _ | apply balloc)
 case true.false =>
  have e : addF ⟨sa, sb, sk, sl, true⟩ ⟨oa, ob, ok, false, oc⟩ = ⟨sa + oa, sb + ob, sk + ok, sl, oc⟩ := by unfold addF; rw [if_neg h1, if_neg h2]; rfl
  rw [e]
  clear h1 h2 e
  go_enter Tryz.func156, Tryz.ntmps156
  go_wp2
  refine bodyPost_ret (v := .agg #[.int .i64 (sa + oa), .int .i64 (sb + ob), .int .i64 (sk + ok), .bool sl, .bool oc]) (by simp [results, Tryz.results156, go_sem]) rfl ⟨rfl, ?_⟩
  repeat (first | exact Below.refl _ _ | apply balloc)
 case false.true =>
  have e : addF ⟨sa, sb, sk, sl, false⟩ ⟨oa, ob, ok, true, oc⟩ = ⟨sa + oa, sb + ob, sk + ok, sl, oc⟩ := by unfold addF; rw [if_neg h1, if_neg h2]; rfl
  rw [e]
  clear h1 h2 e
  go_enter Tryz.func156, Tryz.ntmps156
  go_wp2
  refine bodyPost_ret (v := .agg #[.int .i64 (sa + oa), .int .i64 (sb + ob), .int .i64 (sk + ok), .bool sl, .bool oc]) (by simp [results, Tryz.results156, go_sem]) rfl ⟨rfl, ?_⟩
  repeat (first | exact Below.refl _ _ | apply balloc)
 case false.false =>
  have e : addF ⟨sa, sb, sk, sl, false⟩ ⟨oa, ob, ok, false, oc⟩ = ⟨sa + oa, sb + ob, sk + ok, sl, oc⟩ := by unfold addF; rw [if_neg h1, if_neg h2]; rfl
  rw [e]
  clear h1 h2 e
  go_enter Tryz.func156, Tryz.ntmps156
  go_wp2
  refine bodyPost_ret (v := .agg #[.int .i64 (sa + oa), .int .i64 (sb + ob), .int .i64 (sk + ok), .bool sl, .bool oc]) (by simp [results, Tryz.results156, go_sem]) rfl ⟨rfl, ?_⟩
  repeat (first | exact Below.refl _ _ | apply balloc)
end Go.Proofs.YtkoakanpaehkmaaGreatDoor
