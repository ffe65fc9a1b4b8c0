/-
  The walks of package codec, fourth part: Next.
-/
import Derived.Test.YtgiihhikdoikgaaGreatLHeavy
set_option linter.unusedSimpArgs false
set_option linter.unusedVariables false
set_option maxRecDepth 100000
set_option maxHeartbeats 32000000
namespace Go.Proofs.YtgiihhikdoikgaaGreat
open Go.RowKit
def coderV (enc : Int) : Value :=
 if enc = 1 then .iface 209 (.agg #[]) else if enc = 2 then .iface 211 (.agg #[.int .i64 0]) else if enc = 3 then .iface 211 (.agg #[.int .i64 1]) else .iface 212 (.agg #[])
theorem of_any (enc : Int) (w : World) (h : enc = 1 \/ enc = 2 \/ enc = 3 \/ enc = 4) : Calls Tryz.prog 101 #[.int .i64 enc] w fun e w' => e = .returned (coderV enc) /\ w = w' := by
 rcases h with rfl | rfl | rfl | rfl
 all_goals
  go_enter Tryz.func101, Tryz.ntmps101
  go_wp2_with fail
  go_ret
  exact ⟨rfl, rfl⟩
def atomAt (enc : Int) (l : List Int) : Int := if enc = 1 then atom8 l else if enc = 2 then atom16 0 l else if enc = 3 then atom16 1 l else atomL l
def sizeAt (enc : Int) (l : List Int) : Int := if enc = 1 then size8 l else if enc = 2 then size16 0 l else if enc = 3 then size16 1 l else 1
theorem na_eight (w : World) : (nilAhead 399 209 (.agg #[]) "copyist/codec.first").run Tryz.prog w = .ok (some false) w := by kernel_rfl
theorem na_sixteen (o : Int) (w : World) : (nilAhead 399 211 (.agg #[.int .i64 o]) "copyist/codec.first").run Tryz.prog w = .ok (some false) w := by kernel_rfl
theorem na_latin (w : World) : (nilAhead 399 212 (.agg #[]) "copyist/codec.first").run Tryz.prog w = .ok (some false) w := by kernel_rfl
theorem me_eight (w : World) : (method 399 209 (.agg #[]) "copyist/codec.first").run Tryz.prog w = .ok (226, .agg #[]) w := by kernel_rfl
theorem me_sixteen (o : Int) (w : World) : (method 399 211 (.agg #[.int .i64 o]) "copyist/codec.first").run Tryz.prog w = .ok (233, .agg #[.int .i64 o]) w := by kernel_rfl
theorem me_latin (w : World) : (method 399 212 (.agg #[]) "copyist/codec.first").run Tryz.prog w = .ok (242, .agg #[]) w := by kernel_rfl
theorem cnext_any (enc : Int) (D : Nat -> Prop) (A : Option Addr) (n c p : Nat) (l : List Int) (w : World) (he : enc = 1 \/ enc = 2 \/ enc = 3 \/ enc = 4) (hl : Bts w D A n l) (hb : Byt l) (hn : n <= 2147483648) (hcap : n <= c) (hp : p < n) :
  Calls Tryz.prog 117 #[.int .i64 enc, .slice A n c, .int .i64 (p : Int)] w fun e w' => e = .returned (.tuple #[.int .i64 (atomAt enc (l.drop p)), .int .i64 (sizeAt enc (l.drop p))]) /\ Below w.heap.size w w' := by
 obtain ⟨ad, rfl, hD, _⟩ := hl.at_ hp
 have hl1 : Bts w D (some (ad.add p)) (n - p) (l.drop p) := by
  have := Reads.cut hl (Nat.le_of_lt hp) (Nat.le_succ n)
  rw [if_neg (by omega)] at this
  simpa [Bts] using this
 have q1 : ¬ c = p := by omega
 have q2 : (0 : Int) <= (p : Int) := by omega
 have q3 : (p : Int) <= (n : Int) := by omega
 have q4 : (p : Int) <= (c : Int) := by omega
 have hl2 : Bts w.drew D (some (ad.add p)) (n - p) (l.drop p) := hl1
 rcases he with rfl | rfl | rfl | rfl
 ·go_enter Tryz.func117, Tryz.ntmps117
  go_wp2_with fail
  refine (of_any _ _ (by omega)).mono ?_
  rintro e w1 ⟨rfl, rfl⟩
  simp only [coderV, if_true, Int.reduceEq, if_false]
  go_wp2_with fail
  have f1 := na_eight
  have f2 := me_eight
  go_region_with (go_at_call 226; refine (first8_any D _ (n - p) (c - p) (l.drop p) _ hl2 (hb.drop p) (by omega) (by omega) (by omega)).mono ?_; rintro e w3 ⟨rfl, hb3⟩)
  go_wp2_with fail
  go_ret2
  exact ⟨rfl, bdrew hb3⟩
 ·go_enter Tryz.func117, Tryz.ntmps117
  go_wp2_with fail
  refine (of_any _ _ (by omega)).mono ?_
  rintro e w1 ⟨rfl, rfl⟩
  simp only [coderV, if_true, Int.reduceEq, if_false]
  go_wp2_with fail
  have f1 := na_sixteen 0
  have f2 := me_sixteen 0
  go_region_with (go_at_call 233; refine (first16_any 0 D _ (n - p) (c - p) (l.drop p) _ (.inl rfl) hl2 (hb.drop p) (by omega) (by omega) (by omega)).mono ?_; rintro e w3 ⟨rfl, hb3⟩)
  go_wp2_with fail
  go_ret2
  exact ⟨rfl, bdrew hb3⟩
 ·go_enter Tryz.func117, Tryz.ntmps117
  go_wp2_with fail
  refine (of_any _ _ (by omega)).mono ?_
  rintro e w1 ⟨rfl, rfl⟩
  simp only [coderV, if_true, Int.reduceEq, if_false]
  go_wp2_with fail
  have f1 := na_sixteen 1
  have f2 := me_sixteen 1
  go_region_with (go_at_call 233; refine (first16_any 1 D _ (n - p) (c - p) (l.drop p) _ (.inr rfl) hl2 (hb.drop p) (by omega) (by omega) (by omega)).mono ?_; rintro e w3 ⟨rfl, hb3⟩)
  go_wp2_with fail
  go_ret2
  exact ⟨rfl, bdrew hb3⟩
 ·go_enter Tryz.func117, Tryz.ntmps117
  go_wp2_with fail
  refine (of_any _ _ (by omega)).mono ?_
  rintro e w1 ⟨rfl, rfl⟩
  simp only [coderV, if_true, Int.reduceEq, if_false]
  go_wp2_with fail
  have f1 := na_latin
  have f2 := me_latin
  go_region_with (go_at_call 242; refine (firstL_any D _ (n - p) (c - p) (l.drop p) _ hl2 (hb.drop p) (by omega)).mono ?_; rintro e w3 ⟨rfl, hb3⟩)
  go_wp2_with fail
  go_ret2
  exact ⟨rfl, bdrew hb3⟩
end Go.Proofs.YtgiihhikdoikgaaGreat
