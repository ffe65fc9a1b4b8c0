/-
  The walks of package codec, third part: UTF-16 and Latin-1; Next. The walks of package codec, fourth part: Next. The walks of package piece, first part: sums.
-/
import Derived.Test.YtflhiohjikgedaaGreatDoorLCodec2
set_option linter.unusedSimpArgs false
set_option linter.unusedVariables false
set_option maxRecDepth 100000
set_option maxHeartbeats 32000000
namespace Go.Proofs.YtflhiohjikgedaaGreatDoor
open Go.RowKit
theorem nat_mask_hi (u : Nat) (h : u < 65536) : u &&& (2 ^ 64 - 1 - 1023) = u - u % 1024 := by
 have e : u - u % 1024 = (u / 1024) * 2 ^ 10 := by omega
 rw [e]
 apply Nat.eq_of_testBit_eq
 intro i
 rw [Nat.testBit_and, Nat.testBit_mul_two_pow]
 have hm : (2 ^ 64 - 1 - 1023 : Nat) = (2 ^ 54 - 1) * 2 ^ 10 := by decide
 rw [hm, Nat.testBit_mul_two_pow, Nat.testBit_two_pow_sub_one]
 by_cases hi : 10 <= i
 ·have : u.testBit i = (u / 1024).testBit (i - 10) := by
   have : u / 1024 = u >>> 10 := by rw [Nat.shiftRight_eq_div_pow]
   rw [this, Nat.testBit_shiftRight]; congr 1; omega
  simp only [hi, decide_true, Bool.true_and, this]
  by_cases h2 : i - 10 < 54
  ·simp [h2]
  ·have : (u / 1024).testBit (i - 10) = false := Nat.testBit_lt_two_pow (by
    have : (2:Nat)^54 <= 2 ^ (i - 10) := Nat.pow_le_pow_right (by omega) (by omega)
    have : (2:Nat)^54 = 18014398509481984 := by decide
    omega)
   simp [this]
 ·simp [hi]
theorem i64_andNot1023 (u : Int) (h0 : 0 <= u) (h1 : u < 65536) : bits .andNot .i64 u 1023 = u - u % 1024 := by
 obtain ⟨a, rfl⟩ := Int.eq_ofNat_of_zero_le h0
 have ha : a < 65536 := by omega
 have hm := nat_mask_hi a ha
 show IntKind.i64.wrap ((BitVec.ofInt 64 (a : Int) &&& ~~~BitVec.ofInt 64 ((1023 : Nat) : Int)).toNat : Int) = _
 rw [BitVec.toNat_and, BitVec.toNat_not, BitVec.ofInt_natCast, BitVec.ofInt_natCast, BitVec.toNat_ofNat, BitVec.toNat_ofNat, Nat.mod_eq_of_lt (show a < 2 ^ 64 by omega), Nat.mod_eq_of_lt (show 1023 < 2 ^ 64 by decide), hm, IntKind.wrap_i64]
 omega
theorem i64_or8 (x y : Int) (h0 : 0 <= x) (h1 : x < 256) (h2 : 0 <= y) (h3 : y < 256) : bits .or .i64 x (y * 256) = x + y * 256 := by
 have e : bits .or .i64 (y * 256) x = y * 256 + x := bits_join .i64 31 (by decide) (fun n a b => by rw [IntKind.wrap_i64]; omega) 8 (y * 256) x (by omega) (by omega) (by omega) h0 (by omega) (by omega)
 obtain ⟨a, rfl⟩ := Int.eq_ofNat_of_zero_le h0
 obtain ⟨b, rfl⟩ := Int.eq_ofNat_of_zero_le h2
 have hk : ∀ n : Int, 0 <= n -> n < 2 ^ 31 -> IntKind.i64.wrap n = n := fun n a b => by rw [IntKind.wrap_i64]; omega
 have c : ((b : Int) * 256) = ((b * 256 : Nat) : Int) := by omega
 rw [c] at e ⊢
 rw [(bits_nat .i64 31 (by decide) hk _ _ (by omega) (by omega)).2] at e ⊢
 rw [Nat.or_comm, e]
 omega
theorem below_drewN {B : Nat} {a w : World} (h : Below B a w) (n : Nat) : Below B a (w.drewN n) := ⟨h.os, h.tape, h.output, h.size, h.block⟩
theorem i64_and1023 (x : Int) (h0 : 0 <= x) (h1 : x < 65536) : bits .and .i64 x 1023 = x % 1024 := i64_and 10 (by omega) x h0 (by omega)
theorem Bts.cut_ {w : World} {D : Nat -> Prop} {ad : Addr} {n k : Nat} {l : List Int} (h : Bts w D (some ad) n l) (h0 : 0 < k) (hk : k <= n) : Bts w D (some ⟨ad.block, ad.off + k, none⟩) (n - k) (l.drop k) := by
 have := Reads.cut h hk (Nat.le_succ n)
 rw [if_neg (by omega)] at this
 simpa [add_pos ad k h0, Bts] using this
def unitF (o : Int) (l : List Int) : Int := if o = 0 then l.getD 0 0 + l.getD 1 0 * 256 else l.getD 1 0 + l.getD 0 0 * 256
theorem unitF_bd (o : Int) (l : List Int) (h : Byt l) : 0 <= unitF o l /\ unitF o l < 65536 := by
 have := h.at_ 0
 have := h.at_ 1
 unfold unitF
 split <;> omega
theorem unit_any (o : Int) (D : Nat -> Prop) (A : Option Addr) (n c : Nat) (l : List Int) (w : World) (ho : o = 0 \/ o = 1) (hl : Bts w D A n l) (hb : Byt l) (hn : n <= 2147483648) (h0 : 2 <= n) :
  Calls Tryz.prog 201 #[.agg #[.int .i64 o], .slice A n c] w fun e w' => e = .returned (.int .i64 (unitF o l)) /\ Below w.heap.size w w' := by
 obtain ⟨ad, rfl, hD, hc0⟩ := hl.at_ (show 0 < n by omega)
 obtain ⟨ad', hade, _, hc1⟩ := hl.at_ (show 1 < n by omega)
 injection hade with hade
 subst hade
 rw [add_zero] at hc0
 rw [add_pos ad 1 (by omega)] at hc1
 obtain ⟨x0, hx0⟩ : ∃ x, l.getD 0 0 = x := ⟨_, rfl⟩
 obtain ⟨x1, hx1⟩ : ∃ x, l.getD 1 0 = x := ⟨_, rfl⟩
 have b0 := hb.at_ 0
 have b1 := hb.at_ 1
 rw [hx0] at hc0 b0
 rw [hx1] at hc1 b1
 have q0 : (0 : Int) < n := by omega
 have q1 : (1 : Int) < n := by omega
 have hW : Below w.heap.size w (w.alloc (.cells #[.int .i64 o] 179)) := (Below.refl _ w).alloc (Nat.le_refl _) _
 have d0 := cell_keep hW hc0
 have d1 := cell_keep hW hc1
 have k1 := i64_or8 x0 x1 b0.1 b0.2 b1.1 b1.2
 have k2 := i64_or8 x1 x0 b1.1 b1.2 b0.1 b0.2
 have hu : unitF o l = if o = 0 then x0 + x1 * 256 else x1 + x0 * 256 := by unfold unitF; rw [hx0, hx1]
 have HU := Lib.hid hu
 clear hu hx0 hx1 hc0 hc1
 rcases ho with rfl | rfl
 all_goals
  go_enter Tryz.func201, Tryz.ntmps201
  go_wp2_with fail
  go_quiet (fail)
  go_wp2_with fail
  go_ret
  refine ⟨ret_i ?_, below_drewN hW _⟩
  rw [HU.out]
  rfl
def highF (u : Int) : Bool := decide (u / 1024 = 54)
def lowF (u : Int) : Bool := decide (u / 1024 = 55)
theorem high_any (u : Int) (w : World) (h0 : 0 <= u) (h1 : u < 65536) : Calls Tryz.prog 202 #[.int .i64 u] w fun e w' => e = .returned (.bool (highF u)) /\ w = w' := by
 have k := i64_andNot1023 u h0 h1
 go_enter Tryz.func202, Tryz.ntmps202
 go_wp2
 go_ret
 refine ⟨ret_b ?_, rfl⟩
 show ((u - u % 1024) == 55296) = highF u
 unfold highF
 rw [Bool.eq_iff_iff, beq_iff_eq, decide_eq_true_eq]
 omega
theorem low_any (u : Int) (w : World) (h0 : 0 <= u) (h1 : u < 65536) : Calls Tryz.prog 203 #[.int .i64 u] w fun e w' => e = .returned (.bool (lowF u)) /\ w = w' := by
 have k := i64_andNot1023 u h0 h1
 go_enter Tryz.func203, Tryz.ntmps203
 go_wp2
 go_ret
 refine ⟨ret_b ?_, rfl⟩
 show ((u - u % 1024) == 56320) = lowF u
 unfold lowF
 rw [Bool.eq_iff_iff, beq_iff_eq, decide_eq_true_eq]
 omega
def pairF (o : Int) (l : List Int) : Bool := highF (unitF o l) && decide (4 <= l.length) && lowF (unitF o (l.drop 2))
def atom16 (o : Int) (l : List Int) : Int :=
 if l.length = 1 then -1 - l.getD 0 0 else if pairF o l = true then 65536 + unitF o l % 1024 * 1024 + unitF o (l.drop 2) % 1024 else unitF o l
def size16 (o : Int) (l : List Int) : Int := if l.length = 1 then 1 else if pairF o l = true then 4 else 2
theorem first16_any (o : Int) (D : Nat -> Prop) (A : Option Addr) (n c : Nat) (l : List Int) (w : World) (ho : o = 0 \/ o = 1) (hl : Bts w D A n l) (hb : Byt l) (hn : n <= 2147483648) (h0 : 0 < n) (hcap : n <= c) :
  Calls Tryz.prog 196 #[.agg #[.int .i64 o], .slice A n c] w fun e w' => e = .returned (.tuple #[.int .i64 (atom16 o l), .int .i64 (size16 o l)]) /\ Below w.heap.size w w' := by
 have hle1 : l.length <= n := Nat.le_of_eq hl.len
 have hle2 : n <= l.length := Nat.le_of_eq hl.len.symm
 obtain ⟨ad, rfl, hD, hc0⟩ := hl.at_ h0
 rw [add_zero] at hc0
 obtain ⟨x0, hx0⟩ : ∃ x, l.getD 0 0 = x := ⟨_, rfl⟩
 have b0 := hb.at_ 0
 rw [hx0] at hc0 b0
 have hW : Below w.heap.size w (w.alloc (.cells #[.int .i64 o] 179)) := (Below.refl _ w).alloc (Nat.le_refl _) _
 have d0 := cell_keep hW hc0
 have hl1 := Reads.below hl hW
 clear hc0
 by_cases hn1 : n = 1
 ·have hfa : atom16 o l = -1 - x0 := by unfold atom16; rw [if_pos (by omega), hx0]
  have hfs : size16 o l = 1 := by unfold size16; rw [if_pos (by omega)]
  have HA := Lib.hid hfa
  have HS := Lib.hid hfs
  clear hfa hfs hx0
  have q1 : ((n : Int) == 1) = true := by rw [beq_iff_eq]; omega
  have q0 : (0 : Int) < n := by omega
  clear hn1
  go_enter Tryz.func196, Tryz.ntmps196
  go_wp2_with fail
  go_ret2
  exact ⟨ret_2 (by rw [HA.out]) (by rw [HS.out]), hW⟩
 ·have q1 : ((n : Int) == 1) = false := by rw [beq_eq_false_iff_ne]; omega
  have ub := unitF_bd o l hb
  obtain ⟨u, hu⟩ : ∃ u, unitF o l = u := ⟨_, rfl⟩
  rw [hu] at ub
  have hun := unit_any o D (some ad) n c l _ ho hl1 hb hn (by omega)
  rw [hu] at hun
  have HUN := Lib.hid hun
  have hfa : atom16 o l = if pairF o l = true then 65536 + u % 1024 * 1024 + unitF o (l.drop 2) % 1024 else u := by unfold atom16; rw [if_neg (by omega), hu]
  have hfs : size16 o l = if pairF o l = true then 4 else 2 := by unfold size16; rw [if_neg (by omega)]
  have hfp : pairF o l = (highF u && decide (4 <= l.length) && lowF (unitF o (l.drop 2))) := by unfold pairF; rw [hu]
  have HA := Lib.hid hfa
  have HS := Lib.hid hfs
  have HP := Lib.hid hfp
  clear hfa hfs hfp hx0 hu hun
  cases hh : highF u
  ·have hp : pairF o l = false := by rw [HP.out, hh]; rfl
   have HP2 := Lib.hid hp
   clear hp
   go_enter Tryz.func196, Tryz.ntmps196
   go_wp2_with fail
   refine (HUN.out).mono ?_
   rintro e w1 ⟨rfl, hb1⟩
   go_wp2_with fail
   refine (high_any u _ ub.1 ub.2).mono ?_
   rintro e w2 ⟨rfl, rfl⟩
   go_wp2_with fail
   go_ret2
   exact ⟨ret_2 (by rw [HA.out, HP2.out]; rfl) (by rw [HS.out, HP2.out]; rfl), hW.trans (hb1.mono (by simp))⟩
  ·by_cases h4 : n < 4
   ·have hp : pairF o l = false := by rw [HP.out, hh, show decide (4 <= l.length) = false by simp; omega]; rfl
    have HP2 := Lib.hid hp
    clear hp
    have q4 : (n : Int) < 4 := by omega
    go_enter Tryz.func196, Tryz.ntmps196
    go_wp2_with fail
    refine (HUN.out).mono ?_
    rintro e w1 ⟨rfl, hb1⟩
    go_wp2_with fail
    refine (high_any u _ ub.1 ub.2).mono ?_
    rintro e w2 ⟨rfl, rfl⟩
    go_wp2_with fail
    go_ret2
    exact ⟨ret_2 (by rw [HA.out, HP2.out]; rfl) (by rw [HS.out, HP2.out]; rfl), hW.trans (hb1.mono (by simp))⟩
   ·have q4 : ¬ (n : Int) < 4 := by omega
    have vb := unitF_bd o (l.drop 2) (hb.drop 2)
    obtain ⟨v, hv⟩ : ∃ v, unitF o (l.drop 2) = v := ⟨_, rfl⟩
    rw [hv] at vb
    have hp : pairF o l = lowF v := by rw [HP.out, hh, show decide (4 <= l.length) = true by simp; omega, hv]; rfl
    have HP2 := Lib.hid hp
    have HV := Lib.hid hv
    clear hp hv
    have q5 : (2 : Int) <= n := by omega
    have q6 : (n : Int) <= c := by omega
    have m1 := i64_and1023 u ub.1 ub.2
    have m2 := i64_and1023 v vb.1 vb.2
    have q7 : ¬ c = 2 := by omega
    have hb2 : Bts (w.alloc (.cells #[.int .i64 o] 179)) D (some ⟨ad.block, ad.off + 2, none⟩) (n - 2) (l.drop 2) := Bts.cut_ hl1 (by omega) (by omega)
    go_enter Tryz.func196, Tryz.ntmps196
    go_wp2_with fail
    refine (HUN.out).mono ?_
    rintro e w1 ⟨rfl, hb1⟩
    go_wp2_with fail
    refine (high_any u _ ub.1 ub.2).mono ?_
    rintro e w2 ⟨rfl, rfl⟩
    go_wp2_with fail
    have hbox : Blk w1 w.heap.size 179 #[.int .i64 o] := (Blk.new w _ _).below hb1
    have c0 := hbox.cell 0
    simp at c0
    have hbw := Reads.below hb2 hb1
    go_cut [7] (fun s7 wx => s7 = .int .i64 v /\ Below w1.heap.size w1 wx)
    case first =>
     go_region_held3 (fun w' => w'.cell? ⟨w.heap.size, 0, none⟩ = some (.int .i64 o)) (first | assumption | exact cell_keep (by assumption) (by assumption)) (first | (go_at_call 201; refine (unit_any o D _ (n - 2) (c - 2) (l.drop 2) _ ho ?hx1 (hb.drop 2) ?hx2 ?hx3).mono ?_; exact hbw; omega; omega; rintro e w3 ⟨rfl, hb3⟩))
     all_goals
      go_wp2_with fail
      go_meet
      exact ⟨by rw [HV.out], bdrew (by assumption)⟩
    case rest =>
     obtain ⟨rfl, hb3⟩ := hcut
     have hend : Below w.heap.size w wc := (hW.trans (hb1.mono (by simp))).trans (hb3.mono (by have := hb1.size; simp at this; omega))
     cases hlo : lowF v
     all_goals
      go_wp2_with fail
      refine (low_any v _ vb.1 vb.2).mono ?_
      rintro e w4 ⟨rfl, rfl⟩
      go_wp2_with fail
      go_ret2
      exact ⟨ret_2 (by rw [HA.out, HP2.out, hlo, HV.out]; rfl) (by rw [HS.out, HP2.out, hlo]; rfl), hend⟩
def atomL (l : List Int) : Int := l.getD 0 0
theorem firstL_any (D : Nat -> Prop) (A : Option Addr) (n c : Nat) (l : List Int) (w : World) (hl : Bts w D A n l) (hb : Byt l) (h0 : 0 < n) :
  Calls Tryz.prog 205 #[.agg #[], .slice A n c] w fun e w' => e = .returned (.tuple #[.int .i64 (atomL l), .int .i64 1]) /\ Below w.heap.size w w' := by
 obtain ⟨ad, rfl, hD, hc0⟩ := hl.at_ h0
 rw [add_zero] at hc0
 obtain ⟨x0, hx0⟩ : ∃ x, l.getD 0 0 = x := ⟨_, rfl⟩
 have b0 := hb.at_ 0
 rw [hx0] at hc0 b0
 have HX := Lib.hid hx0
 have hW : Below w.heap.size w (w.alloc (.cells #[] 180)) := (Below.refl _ w).alloc (Nat.le_refl _) _
 have d0 := cell_keep hW hc0
 clear hc0 hx0
 have q0 : (0 : Int) < n := by omega
 go_enter Tryz.func205, Tryz.ntmps205
 go_wp2_with fail
 go_ret2
 exact ⟨ret_2 (by unfold atomL; rw [HX.out]) rfl, hW⟩
def coderV (enc : Int) : Value :=
 if enc = 1 then .iface 126 (.agg #[]) else if enc = 2 then .iface 179 (.agg #[.int .i64 0]) else if enc = 3 then .iface 179 (.agg #[.int .i64 1]) else .iface 180 (.agg #[])
theorem of_any (enc : Int) (w : World) (h : enc = 1 \/ enc = 2 \/ enc = 3 \/ enc = 4) : Calls Tryz.prog 58 #[.int .i64 enc] w fun e w' => e = .returned (coderV enc) /\ w = w' := by
 rcases h with rfl | rfl | rfl | rfl
 all_goals
  go_enter Tryz.func58, Tryz.ntmps58
  go_wp2_with fail
  go_ret
  exact ⟨rfl, rfl⟩
def atomAt (enc : Int) (l : List Int) : Int := if enc = 1 then atom8 l else if enc = 2 then atom16 0 l else if enc = 3 then atom16 1 l else atomL l
def sizeAt (enc : Int) (l : List Int) : Int := if enc = 1 then size8 l else if enc = 2 then size16 0 l else if enc = 3 then size16 1 l else 1
theorem na_eight (w : World) : (nilAhead 373 126 (.agg #[]) "copyist/codec.first").run Tryz.prog w = .ok (some false) w := by kernel_rfl
theorem na_sixteen (o : Int) (w : World) : (nilAhead 373 179 (.agg #[.int .i64 o]) "copyist/codec.first").run Tryz.prog w = .ok (some false) w := by kernel_rfl
theorem na_latin (w : World) : (nilAhead 373 180 (.agg #[]) "copyist/codec.first").run Tryz.prog w = .ok (some false) w := by kernel_rfl
theorem me_eight (w : World) : (method 373 126 (.agg #[]) "copyist/codec.first").run Tryz.prog w = .ok (56, .agg #[]) w := by kernel_rfl
theorem me_sixteen (o : Int) (w : World) : (method 373 179 (.agg #[.int .i64 o]) "copyist/codec.first").run Tryz.prog w = .ok (196, .agg #[.int .i64 o]) w := by kernel_rfl
theorem me_latin (w : World) : (method 373 180 (.agg #[]) "copyist/codec.first").run Tryz.prog w = .ok (205, .agg #[]) w := by kernel_rfl
theorem cnext_any (enc : Int) (D : Nat -> Prop) (A : Option Addr) (n c p : Nat) (l : List Int) (w : World) (he : enc = 1 \/ enc = 2 \/ enc = 3 \/ enc = 4) (hl : Bts w D A n l) (hb : Byt l) (hn : n <= 2147483648) (hcap : n <= c) (hp : p < n) :
  Calls Tryz.prog 33 #[.int .i64 enc, .slice A n c, .int .i64 (p : Int)] w fun e w' => e = .returned (.tuple #[.int .i64 (atomAt enc (l.drop p)), .int .i64 (sizeAt enc (l.drop p))]) /\ Below w.heap.size w w' := by
 obtain ⟨ad, rfl, hD, _⟩ := hl.at_ hp
 have hl1 : Bts w D (some (ad.add p)) (n - p) (l.drop p) := by
  have := Reads.cut hl (Nat.le_of_lt hp) (Nat.le_succ n)
  rw [if_neg (by omega)] at this
  simpa [Bts] using this
 have q1 : ¬ c = p := by omega
 have q2 : (0 : Int) <= (p : Int) := by omega
 have q3 : (p : Int) <= (n : Int) := by omega
 have q4 : (p : Int) <= (c : Int) := by omega
 have hl2 : Bts w.drew D (some (ad.add p)) (n - p) (l.drop p) := hl1
 rcases he with rfl | rfl | rfl | rfl
 ·go_enter Tryz.func33, Tryz.ntmps33
  go_wp2_with fail
  refine (of_any _ _ (by omega)).mono ?_
  rintro e w1 ⟨rfl, rfl⟩
  simp only [coderV, if_true, Int.reduceEq, if_false]
  go_wp2_with fail
  have f1 := na_eight
  have f2 := me_eight
  go_region_with (go_at_call 56; refine (first8_any D _ (n - p) (c - p) (l.drop p) _ hl2 (hb.drop p) (by omega) (by omega) (by omega)).mono ?_; rintro e w3 ⟨rfl, hb3⟩)
  go_wp2_with fail
  go_ret2
  exact ⟨rfl, bdrew hb3⟩
 ·go_enter Tryz.func33, Tryz.ntmps33
  go_wp2_with fail
  refine (of_any _ _ (by omega)).mono ?_
  rintro e w1 ⟨rfl, rfl⟩
  simp only [coderV, if_true, Int.reduceEq, if_false]
  go_wp2_with fail
  have f1 := na_sixteen 0
  have f2 := me_sixteen 0
  go_region_with (go_at_call 196; refine (first16_any 0 D _ (n - p) (c - p) (l.drop p) _ (.inl rfl) hl2 (hb.drop p) (by omega) (by omega) (by omega)).mono ?_; rintro e w3 ⟨rfl, hb3⟩)
  go_wp2_with fail
  go_ret2
  exact ⟨rfl, bdrew hb3⟩
 ·go_enter Tryz.func33, Tryz.ntmps33
  go_wp2_with fail
  refine (of_any _ _ (by omega)).mono ?_
  rintro e w1 ⟨rfl, rfl⟩
  simp only [coderV, if_true, Int.reduceEq, if_false]
  go_wp2_with fail
  have f1 := na_sixteen 1
  have f2 := me_sixteen 1
  go_region_with (go_at_call 196; refine (first16_any 1 D _ (n - p) (c - p) (l.drop p) _ (.inr rfl) hl2 (hb.drop p) (by omega) (by omega) (by omega)).mono ?_; rintro e w3 ⟨rfl, hb3⟩)
  go_wp2_with fail
  go_ret2
  exact ⟨rfl, bdrew hb3⟩
 ·go_enter Tryz.func33, Tryz.ntmps33
  go_wp2_with fail
  refine (of_any _ _ (by omega)).mono ?_
  rintro e w1 ⟨rfl, rfl⟩
  simp only [coderV, if_true, Int.reduceEq, if_false]
  go_wp2_with fail
  have f1 := na_latin
  have f2 := me_latin
  go_region_with (go_at_call 205; refine (firstL_any D _ (n - p) (c - p) (l.drop p) _ hl2 (hb.drop p) (by omega)).mono ?_; rintro e w3 ⟨rfl, hb3⟩)
  go_wp2_with fail
  go_ret2
  exact ⟨rfl, bdrew hb3⟩
theorem balloc {w w1 : World} {o : Obj} (h : Below w.heap.size w w1) : Below w.heap.size w (w1.alloc o) := h.alloc h.size o
structure Sums where
 atoms : Int
 bytes : Int
 breaks : Int
 lf : Bool
 cr : Bool
def Sums.cells (s : Sums) : Array Value := #[.int .i64 s.atoms, .int .i64 s.bytes, .int .i64 s.breaks, .bool s.lf, .bool s.cr]
def Sums.ok (s : Sums) : Prop := 0 <= s.atoms /\ s.atoms <= 2147483648 /\ 0 <= s.bytes /\ s.bytes <= 2147483648 /\ 0 <= s.breaks /\ s.breaks <= 2147483648
def addF (s o : Sums) : Sums :=
 if s.atoms = 0 then o else if o.atoms = 0 then s else
 { atoms := s.atoms + o.atoms, bytes := s.bytes + o.bytes, breaks := if (s.cr && o.lf) = true then s.breaks + o.breaks - 1 else s.breaks + o.breaks, lf := s.lf, cr := o.cr }
theorem add_any (s o : Sums) (w : World) (hs : s.ok) (ho : o.ok) :
  Calls Tryz.prog 59 #[.agg s.cells, .agg o.cells] w fun e w' => e = .returned (.agg (addF s o).cells) /\ Below w.heap.size w w' := by
 obtain ⟨s1, s2, s3, s4, s5, s6⟩ := hs
 obtain ⟨o1, o2, o3, o4, o5, o6⟩ := ho
 obtain ⟨sa, sb, sk, sl, sc⟩ := s
 obtain ⟨oa, ob, ok, ol, oc⟩ := o
 simp only [Sums.cells] at *
 by_cases h1 : sa = 0
 ·have e : addF ⟨sa, sb, sk, sl, sc⟩ ⟨oa, ob, ok, ol, oc⟩ = ⟨oa, ob, ok, ol, oc⟩ := by unfold addF; rw [if_pos h1]
  rw [e]
  have q : (sa == 0) = true := by rw [beq_iff_eq]; exact h1
  clear h1 e
  go_enter Tryz.func59, Tryz.ntmps59
  go_wp2
  refine bodyPost_ret (v := .agg #[.int .i64 oa, .int .i64 ob, .int .i64 ok, .bool ol, .bool oc]) (by simp [results, Tryz.results59, go_sem]) rfl ⟨rfl, ?_⟩
  repeat (first | exact Below.refl _ _ | apply balloc)
 by_cases h2 : oa = 0
 ·have e : addF ⟨sa, sb, sk, sl, sc⟩ ⟨oa, ob, ok, ol, oc⟩ = ⟨sa, sb, sk, sl, sc⟩ := by unfold addF; rw [if_neg h1, if_pos h2]
  rw [e]
  have q : (sa == 0) = false := by rw [beq_eq_false_iff_ne]; exact h1
  have q2 : (oa == 0) = true := by rw [beq_iff_eq]; exact h2
  clear h1 h2 e
  go_enter Tryz.func59, Tryz.ntmps59
  go_wp2
  refine bodyPost_ret (v := .agg #[.int .i64 sa, .int .i64 sb, .int .i64 sk, .bool sl, .bool sc]) (by simp [results, Tryz.results59, go_sem]) rfl ⟨rfl, ?_⟩
  repeat (first | exact Below.refl _ _ | apply balloc)
 have q : (sa == 0) = false := by rw [beq_eq_false_iff_ne]; exact h1
 have q2 : (oa == 0) = false := by rw [beq_eq_false_iff_ne]; exact h2
 cases sc <;> cases ol
 case true.true =>
  have e : addF ⟨sa, sb, sk, sl, true⟩ ⟨oa, ob, ok, true, oc⟩ = ⟨sa + oa, sb + ob, sk + ok - 1, sl, oc⟩ := by unfold addF; rw [if_neg h1, if_neg h2]; rfl
  rw [e]
  clear h1 h2 e
  go_enter Tryz.func59, Tryz.ntmps59
  go_wp2
  refine bodyPost_ret (v := .agg #[.int .i64 (sa + oa), .int .i64 (sb + ob), .int .i64 (sk + ok - 1), .bool sl, .bool oc]) (by simp [results, Tryz.results59, go_sem]) rfl ⟨rfl, ?_⟩
  repeat (first | exact Below.refl _ _ | apply balloc)
 case true.false =>
  have e : addF ⟨sa, sb, sk, sl, true⟩ ⟨oa, ob, ok, false, oc⟩ = ⟨sa + oa, sb + ob, sk + ok, sl, oc⟩ := by unfold addF; rw [if_neg h1, if_neg h2]; rfl
  rw [e]
  clear h1 h2 e
  go_enter Tryz.func59, Tryz.ntmps59
  go_wp2
  refine bodyPost_ret (v := .agg #[.int .i64 (sa + oa), .int .i64 (sb + ob), .int .i64 (sk + ok), .bool sl, .bool oc]) (by simp [results, Tryz.results59, go_sem]) rfl ⟨rfl, ?_⟩
  repeat (first | exact Below.refl _ _ | apply balloc)
 case false.true =>
  have e : addF ⟨sa, sb, sk, sl, false⟩ ⟨oa, ob, ok, true, oc⟩ = ⟨sa + oa, sb + ob, sk + ok, sl, oc⟩ := by unfold addF; rw [if_neg h1, if_neg h2]; rfl
  rw [e]
  clear h1 h2 e
  go_enter Tryz.func59, Tryz.ntmps59
  go_wp2
  refine bodyPost_ret (v := .agg #[.int .i64 (sa + oa), .int .i64 (sb + ob), .int .i64 (sk + ok), .bool sl, .bool oc]) (by simp [results, Tryz.results59, go_sem]) rfl ⟨rfl, ?_⟩
  repeat (first | exact Below.refl _ _ | apply balloc)
 case false.false =>
  have e : addF ⟨sa, sb, sk, sl, false⟩ ⟨oa, ob, ok, false, oc⟩ = ⟨sa + oa, sb + ob, sk + ok, sl, oc⟩ := by unfold addF; rw [if_neg h1, if_neg h2]; rfl
  rw [e]
  clear h1 h2 e
  go_enter Tryz.func59, Tryz.ntmps59
  go_wp2
  refine bodyPost_ret (v := .agg #[.int .i64 (sa + oa), .int .i64 (sb + ob), .int .i64 (sk + ok), .bool sl, .bool oc]) (by simp [results, Tryz.results59, go_sem]) rfl ⟨rfl, ?_⟩
  repeat (first | exact Below.refl _ _ | apply balloc)
end Go.Proofs.YtflhiohjikgedaaGreatDoor
