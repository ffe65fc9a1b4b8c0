/-
  The walks of package codec, second part: the first atom of some bytes in each encoding. The walks of package codec, third part: UTF-16 and Latin-1; Next.
-/
import Derived.Test.YteekabaoocaghaaGreatLHeavy
set_option linter.unusedSimpArgs false
set_option linter.unusedVariables false
namespace Go.Proofs.YteekabaoocaghaaGreat
open Go.RowKit

theorem i64_and (i : Nat) (hi : i ≤ 30) (x : Int) (h0 : 0 ≤ x) (h1 : x < 2147483648) : bits .and .i64 x (2 ^ i - 1) = x % 2 ^ i :=
  bits_mask .i64 31 (by decide) (fun n a b => by rw [IntKind.wrap_i64]; omega) i (by omega) x h0 h1
theorem i64_and31 (x : Int) (h0 : 0 ≤ x) (h1 : x < 256) : bits .and .i64 x 31 = x % 32 := i64_and 5 (by omega) x h0 (by omega)
theorem i64_and15 (x : Int) (h0 : 0 ≤ x) (h1 : x < 256) : bits .and .i64 x 15 = x % 16 := i64_and 4 (by omega) x h0 (by omega)
theorem i64_and7 (x : Int) (h0 : 0 ≤ x) (h1 : x < 256) : bits .and .i64 x 7 = x % 8 := i64_and 3 (by omega) x h0 (by omega)
theorem i64_or6 (x y : Int) (h0 : 0 ≤ x) (h1 : x < 33554432) (h2 : 0 ≤ y) (h3 : y < 64) : bits .or .i64 (x * 64) y = x * 64 + y :=
  bits_join .i64 31 (by decide) (fun n a b => by rw [IntKind.wrap_i64]; omega) 6 (x * 64) y (by omega) (by omega) (by omega) h2 (by omega) (by omega)
/-- the first byte without its mark -/
def leadF (N x : Int) : Int := if N = 2 then x % 32 else if N = 3 then x % 16 else if N = 4 then x % 8 else x
def goOn (a c : Int) : Int := a * 64 + c % 64
def valF8 (l : List Int) : Int := ((l.drop 1).take (bdN (l.getD 0 0) - 1).toNat).foldl goOn (leadF (bdN (l.getD 0 0)) (l.getD 0 0))
def rawF (l : List Int) : Bool := decide (bdN (l.getD 0 0) = 0 ∨ rowHave l < bdN (l.getD 0 0))
def atom8 (l : List Int) : Int := if rawF l = true then -1 - l.getD 0 0 else valF8 l
def size8 (l : List Int) : Int := if rawF l = true then 1 else bdN (l.getD 0 0)

theorem pow64_le (i : Nat) (h : i ≤ 2) : (64 : Int) ^ i ≤ 4096 := by
  have h2 : (64 : Nat) ^ i ≤ 64 ^ 2 := Nat.pow_le_pow_right (by omega) h
  have e : (64 : Nat) ^ 2 = 4096 := by decide
  have h3 : ((64 : Int) ^ i) = ((64 ^ i : Nat) : Int) := by simp
  omega
theorem leadF_bd (N x : Int) (h0 : 0 ≤ x) (h1 : x < 256) : 0 ≤ leadF N x ∧ leadF N x < 256 := by unfold leadF; (repeat' split) <;> omega
theorem rowHave_le (l : List Int) (h : 0 < l.length) : rowHave l ≤ l.length := by
  unfold rowHave
  have := contF_len (bdN (l.getD 0 0) - 2).toNat (l.drop 2)
  simp only [List.length_drop] at this
  (repeat' split) <;> omega
def V8R (l r : List Int) (a0 : Int) (w0 : World) (k : Nat) (q8 q49 : Value) (wr : World) : Prop :=
  ∃ (i : Nat) (a : Int), wr = w0 ∧ q49 = .int .i64 (i : Int) ∧ q8 = .int .i64 a ∧ i ≤ r.length ∧ r.length - i ≤ k ∧ (r.take i).foldl goOn a0 = a ∧ 0 ≤ a ∧ a < 256 * 64 ^ i
set_option maxRecDepth 100000 in
set_option maxHeartbeats 2000000 in
theorem first8_any (D : Nat → Prop) (A : Option Addr) (n c : Nat) (l : List Int) (w : World) (hl : Bts w D A n l) (hb : Byt l) (hn : n ≤ 2147483648) (h0 : 0 < n) (hcap : n ≤ c) :
    Calls Tryz.prog 194 #[.agg #[], .slice A n c] w fun e w' => e = .returned (.tuple #[.int .i64 (atom8 l), .int .i64 (size8 l)]) ∧ Below w.heap.size w w' := by
  have hle1 : l.length ≤ n := Nat.le_of_eq hl.len
  have hle2 : n ≤ l.length := Nat.le_of_eq hl.len.symm
  obtain ⟨ad, rfl, hD, hc0⟩ := hl.at_ h0
  obtain ⟨x0, hx0⟩ : ∃ x, l.getD 0 0 = x := ⟨_, rfl⟩
  have hx0b := hb.at_ 0
  rw [hx0, add_zero] at hc0
  rw [hx0] at hx0b
  obtain ⟨N, hN⟩ : ∃ x, bdN x0 = x := ⟨_, rfl⟩
  obtain ⟨H, hH⟩ : ∃ x, rowHave l = x := ⟨_, rfl⟩
  have hNb := bdN_le x0
  rw [hN] at hNb
  have hNx := Lib.hid hN
  have HHx := Lib.hid hH
  have hrow := row_any D (some ad) n c l (w.alloc (.cells #[] 198)) (Reads.below hl ((Below.refl _ w).alloc (Nat.le_refl _) _)) hb hn h0
  rw [hx0, hN, hH] at hrow
  have hfa : atom8 l = if rawF l = true then -1 - x0 else valF8 l := by unfold atom8; rw [hx0]
  have hfs : size8 l = if rawF l = true then 1 else N := by unfold size8; rw [hx0, hN]
  have hraw : rawF l = decide (N = 0 ∨ H < N) := by unfold rawF; rw [hx0, hN, hH]
  have HA := Lib.hid hfa
  have HS := Lib.hid hfs
  have HR := Lib.hid hraw
  have HW := Lib.hid hrow
  clear hfa hfs hraw hrow
  obtain ⟨hN0, hN4⟩ := hNb
  clear hN hH
  have hW : Below w.heap.size w (w.alloc (.cells #[] 198)) := (Below.refl _ w).alloc (Nat.le_refl _) _
  have hc0' := cell_keep hW hc0
  by_cases hr : N = 0 ∨ H < N
  · have hfa : atom8 l = -1 - x0 := by rw [HA.out, HR.out, if_pos (by simpa using hr)]
    have hfs : size8 l = 1 := by rw [HS.out, HR.out, if_pos (by simpa using hr)]
    have HA2 := Lib.hid hfa
    have HS2 := Lib.hid hfs
    clear hfa hfs
    have hr2 : (N == 0) = true ∨ ((N == 0) = false ∧ H < N) := by
      cases h : (N == 0)
      · rw [beq_eq_false_iff_ne] at h; exact .inr ⟨rfl, by omega⟩
      · exact .inl rfl
    clear hr
    rcases hr2 with hr2 | ⟨hr2, hr3⟩
    all_goals
      go_enter Tryz.func194, Tryz.ntmps194
      go_wp2_with fail
      refine (HW.out).mono ?_
      rintro e w1 ⟨rfl, rfl⟩
      go_wp2_with fail
      go_ret2
      exact ⟨ret_2 (by rw [HA2.out]) (by rw [HS2.out]), (Below.refl _ w).alloc (Nat.le_refl _) _⟩
  · have hfa : atom8 l = valF8 l := by rw [HA.out, HR.out, if_neg (by simpa using hr)]
    have hfs : size8 l = N := by rw [HS.out, HR.out, if_neg (by simpa using hr)]
    have HA2 := Lib.hid hfa
    have HS2 := Lib.hid hfs
    clear hfa hfs
    have q1 : (N == 0) = false := by rw [beq_eq_false_iff_ne]; omega
    have q2 : ¬ H < N := by omega
    have hval : valF8 l = ((l.drop 1).take (N - 1).toNat).foldl goOn (leadF N x0) := by unfold valF8; rw [hx0, hNx.out]
    have HV := Lib.hid hval
    have HH : Hid (H ≤ n) := Lib.hid (by rw [← HHx.out]; have := rowHave_le l (by omega); omega)
    clear hval hx0
    obtain ⟨r, hrr⟩ : ∃ r, (l.drop 1).take (N - 1).toNat = r := ⟨_, rfl⟩
    go_enter Tryz.func194, Tryz.ntmps194
    go_wp2_with fail
    refine (HW.out).mono ?_
    rintro e w1 ⟨rfl, rfl⟩
    have a31 := i64_and31 x0 hx0b.1 hx0b.2
    have a15 := i64_and15 x0 hx0b.1 hx0b.2
    have a7 := i64_and7 x0 hx0b.1 hx0b.2
    go_upto_block 0 with fail
    go_cut [8] (fun s8 wx => s8 = .int .i64 (leadF N x0) ∧ wx = w.alloc (.cells #[] 198))
    case first =>
      go_wp2_with fail
      all_goals
        go_light
        go_meet
        refine ⟨congrArg (Value.int .i64) ?_, rfl⟩
        (try simp only [beq_iff_eq, beq_eq_false_iff_ne, ne_eq] at *)
        unfold leadF
        (repeat' split) <;> first | rfl | omega
    case rest =>
      obtain ⟨rfl, rfl⟩ := hcut
      clear a31 a15 a7 hc0 hc0'
      have hNn : N ≤ n := by have := HH.out; omega
      have q3 : (1 : Int) ≤ N := by simp only [beq_eq_false_iff_ne, ne_eq] at q1; omega
      have q4 : N ≤ (c : Int) := by omega
      obtain ⟨M, rfl⟩ : ∃ M : Nat, N = (M : Int) + 1 := ⟨(N - 1).toNat, by omega⟩
      have hr' : (l.drop 1).take M = r := by rw [← hrr]; congr 1; omega
      have hrl : r.length = M := by rw [← hr', List.length_take, List.length_drop]; omega
      have hrl1 : r.length ≤ M := Nat.le_of_eq hrl
      have hrl2 : M ≤ r.length := Nat.le_of_eq hrl.symm
      have hrb : Byt r := by rw [← hr']; exact (hb.drop 1).take M
      have hl1 := Reads.below hl hW
      have HRR := Lib.hid hr'
      clear hrr hr' hrl
      have q5 : 0 ≤ (M : Int) + 1 := by omega
      have q6 : ((M : Int) + 1).toNat - 1 = M := by omega
      by_cases hc1 : c = 1
      all_goals
        go_wp2_with fail
        go_loopg [8, 49] M (fun k q8 q49 wr => V8R l r (leadF ((M : Int) + 1) x0) (w.alloc (.cells #[] 198)) k q8 q49 wr)
        case atStart =>
          have := leadF_bd ((M : Int) + 1) x0 hx0b.1 hx0b.2
          exact ⟨0, _, rfl, rfl, rfl, by omega, by omega, rfl, this.1, by simpa using this.2⟩
        case round =>
          obtain ⟨i, a, rfl, rfl, rfl, hi, hik, hfo, ha0, ha1⟩ := hrel
          have HFO := Lib.hid hfo
          clear hfo
          by_cases hlt : i < M
          · first
              | (exfalso; omega)
              | (obtain ⟨ad', hade, _, hci⟩ := Bts.at_ hl1 (show 1 + i < n by omega)
                 injection hade with hade
                 subst hade
                 rw [add_pos ad (1 + i) (by omega), ← Nat.add_assoc] at hci
                 obtain ⟨x, hx⟩ : ∃ x, r.getD i 0 = x := ⟨_, rfl⟩
                 have hxl : l.getD (1 + i) 0 = x := by
                   rw [← hx, ← HRR.out, List.getD_eq_getElem?_getD, List.getD_eq_getElem?_getD, List.getElem?_take, if_pos hlt, List.getElem?_drop]
                 have hxb := hrb.at_ i
                 rw [hx] at hxb
                 rw [hxl] at hci
                 have hsn : (r.take (i + 1)).foldl goOn (leadF ((M : Int) + 1) x0) = a * 64 + x % 64 := by
                   rw [List.take_succ_eq_append_getElem (by omega), List.foldl_append, HFO.out, ← hx, List.getD_eq_getElem?_getD, List.getElem?_eq_getElem (by omega)]
                   rfl
                 have HSN := Lib.hid hsn
                 clear hsn hx hxl
                 have hp := pow64_le i (by omega)
                 have hab : a < 33554432 := by omega
                 have hm : 0 ≤ x % 64 ∧ x % 64 < 64 := by omega
                 have k1 := u8_and63 x hxb.1 hxb.2
                 have k2 := i64_or6 a (x % 64) ha0 hab hm.1 hm.2
                 go_wp2_with fail
                 go_roundg (M - (i + 1))
                 case measure => omega
                 case rel =>
                   refine ⟨i + 1, _, rfl, by go_num, rfl, by omega, by omega, ?_, ?_, ?_⟩
                   · exact HSN.out
                   · omega
                   · rw [Int.pow_succ]; omega)
          · have hiM : i = M := by omega
            subst hiM
            have hfo := HFO.out
            rw [List.take_of_length_le (by omega)] at hfo
            have HFO2 := Lib.hid hfo
            clear hfo
            go_wp2_with fail
            go_ret2
            refine ⟨ret_2 ?_ (by rw [HS2.out]), hW⟩
            rw [HA2.out, HV.out, show ((i : Int) + 1 - 1).toNat = i by omega, HRR.out]
            exact HFO2.out.symm
end Go.Proofs.YteekabaoocaghaaGreat
namespace Go.Proofs.YteekabaoocaghaaGreat
open Go.RowKit

theorem nat_mask_hi (u : Nat) (h : u < 65536) : u &&& (2 ^ 64 - 1 - 1023) = u - u % 1024 := by
  have e : u - u % 1024 = (u / 1024) * 2 ^ 10 := by omega
  rw [e]
  apply Nat.eq_of_testBit_eq
  intro i
  rw [Nat.testBit_and, Nat.testBit_mul_two_pow]
  have hm : (2 ^ 64 - 1 - 1023 : Nat) = (2 ^ 54 - 1) * 2 ^ 10 := by decide
  rw [hm, Nat.testBit_mul_two_pow, Nat.testBit_two_pow_sub_one]
  by_cases hi : 10 ≤ i
  · have : u.testBit i = (u / 1024).testBit (i - 10) := by
      have : u / 1024 = u >>> 10 := by rw [Nat.shiftRight_eq_div_pow]
      rw [this, Nat.testBit_shiftRight]; congr 1; omega
    simp only [hi, decide_true, Bool.true_and, this]
    by_cases h2 : i - 10 < 54
    · simp [h2]
    · have : (u / 1024).testBit (i - 10) = false := Nat.testBit_lt_two_pow (by
        have : (2:Nat)^54 ≤ 2 ^ (i - 10) := Nat.pow_le_pow_right (by omega) (by omega)
        have : (2:Nat)^54 = 18014398509481984 := by decide
        omega)
      simp [this]
  · simp [hi]
theorem i64_andNot1023 (u : Int) (h0 : 0 ≤ u) (h1 : u < 65536) : bits .andNot .i64 u 1023 = u - u % 1024 := by
  obtain ⟨a, rfl⟩ := Int.eq_ofNat_of_zero_le h0
  have ha : a < 65536 := by omega
  have hm := nat_mask_hi a ha
  show IntKind.i64.wrap ((BitVec.ofInt 64 (a : Int) &&& ~~~BitVec.ofInt 64 ((1023 : Nat) : Int)).toNat : Int) = _
  rw [BitVec.toNat_and, BitVec.toNat_not, BitVec.ofInt_natCast, BitVec.ofInt_natCast, BitVec.toNat_ofNat, BitVec.toNat_ofNat, Nat.mod_eq_of_lt (show a < 2 ^ 64 by omega), Nat.mod_eq_of_lt (show 1023 < 2 ^ 64 by decide), hm, IntKind.wrap_i64]
  omega
theorem i64_or8 (x y : Int) (h0 : 0 ≤ x) (h1 : x < 256) (h2 : 0 ≤ y) (h3 : y < 256) : bits .or .i64 x (y * 256) = x + y * 256 := by
  have e : bits .or .i64 (y * 256) x = y * 256 + x := bits_join .i64 31 (by decide) (fun n a b => by rw [IntKind.wrap_i64]; omega) 8 (y * 256) x (by omega) (by omega) (by omega) h0 (by omega) (by omega)
  obtain ⟨a, rfl⟩ := Int.eq_ofNat_of_zero_le h0
  obtain ⟨b, rfl⟩ := Int.eq_ofNat_of_zero_le h2
  have hk : ∀ n : Int, 0 ≤ n → n < 2 ^ 31 → IntKind.i64.wrap n = n := fun n a b => by rw [IntKind.wrap_i64]; omega
  have c : ((b : Int) * 256) = ((b * 256 : Nat) : Int) := by omega
  rw [c] at e ⊢
  rw [(bits_nat .i64 31 (by decide) hk _ _ (by omega) (by omega)).2] at e ⊢
  rw [Nat.or_comm, e]
  omega

theorem below_drewN {B : Nat} {a w : World} (h : Below B a w) (n : Nat) : Below B a (w.drewN n) := ⟨h.os, h.tape, h.output, h.size, h.block⟩
theorem i64_and1023 (x : Int) (h0 : 0 ≤ x) (h1 : x < 65536) : bits .and .i64 x 1023 = x % 1024 := i64_and 10 (by omega) x h0 (by omega)
theorem Bts.cut_ {w : World} {D : Nat → Prop} {ad : Addr} {n k : Nat} {l : List Int} (h : Bts w D (some ad) n l) (h0 : 0 < k) (hk : k ≤ n) : Bts w D (some ⟨ad.block, ad.off + k, none⟩) (n - k) (l.drop k) := by
  have := Reads.cut h hk (Nat.le_succ n)
  rw [if_neg (by omega)] at this
  simpa [add_pos ad k h0, Bts] using this
/-! ### UTF-16 -/
/-- the unit that two bytes make; o: the place of the low one -/
def unitF (o : Int) (l : List Int) : Int := if o = 0 then l.getD 0 0 + l.getD 1 0 * 256 else l.getD 1 0 + l.getD 0 0 * 256
theorem unitF_bd (o : Int) (l : List Int) (h : Byt l) : 0 ≤ unitF o l ∧ unitF o l < 65536 := by
  have := h.at_ 0
  have := h.at_ 1
  unfold unitF
  split <;> omega
set_option maxRecDepth 100000 in
set_option maxHeartbeats 2000000 in
theorem unit_any (o : Int) (D : Nat → Prop) (A : Option Addr) (n c : Nat) (l : List Int) (w : World) (ho : o = 0 ∨ o = 1) (hl : Bts w D A n l) (hb : Byt l) (hn : n ≤ 2147483648) (h0 : 2 ≤ n) :
    Calls Tryz.prog 206 #[.agg #[.int .i64 o], .slice A n c] w fun e w' => e = .returned (.int .i64 (unitF o l)) ∧ Below w.heap.size w w' := by
  obtain ⟨ad, rfl, hD, hc0⟩ := hl.at_ (show 0 < n by omega)
  obtain ⟨ad', hade, _, hc1⟩ := hl.at_ (show 1 < n by omega)
  injection hade with hade
  subst hade
  rw [add_zero] at hc0
  rw [add_pos ad 1 (by omega)] at hc1
  obtain ⟨x0, hx0⟩ : ∃ x, l.getD 0 0 = x := ⟨_, rfl⟩
  obtain ⟨x1, hx1⟩ : ∃ x, l.getD 1 0 = x := ⟨_, rfl⟩
  have b0 := hb.at_ 0
  have b1 := hb.at_ 1
  rw [hx0] at hc0 b0
  rw [hx1] at hc1 b1
  have q0 : (0 : Int) < n := by omega
  have q1 : (1 : Int) < n := by omega
  have hW : Below w.heap.size w (w.alloc (.cells #[.int .i64 o] 200)) := (Below.refl _ w).alloc (Nat.le_refl _) _
  have d0 := cell_keep hW hc0
  have d1 := cell_keep hW hc1
  have k1 := i64_or8 x0 x1 b0.1 b0.2 b1.1 b1.2
  have k2 := i64_or8 x1 x0 b1.1 b1.2 b0.1 b0.2
  have hu : unitF o l = if o = 0 then x0 + x1 * 256 else x1 + x0 * 256 := by unfold unitF; rw [hx0, hx1]
  have HU := Lib.hid hu
  clear hu hx0 hx1 hc0 hc1
  rcases ho with rfl | rfl
  all_goals
    go_enter Tryz.func206, Tryz.ntmps206
    go_wp2_with fail
    go_quiet (fail)
    go_wp2_with fail
    go_ret
    refine ⟨ret_i ?_, below_drewN hW _⟩
    rw [HU.out]
    rfl
def highF (u : Int) : Bool := decide (u / 1024 = 54)
def lowF (u : Int) : Bool := decide (u / 1024 = 55)
set_option maxRecDepth 100000 in
theorem high_any (u : Int) (w : World) (h0 : 0 ≤ u) (h1 : u < 65536) : Calls Tryz.prog 207 #[.int .i64 u] w fun e w' => e = .returned (.bool (highF u)) ∧ w = w' := by
  have k := i64_andNot1023 u h0 h1
  go_enter Tryz.func207, Tryz.ntmps207
  go_wp2
  go_ret
  refine ⟨ret_b ?_, rfl⟩
  show ((u - u % 1024) == 55296) = highF u
  unfold highF
  rw [Bool.eq_iff_iff, beq_iff_eq, decide_eq_true_eq]
  omega
set_option maxRecDepth 100000 in
theorem low_any (u : Int) (w : World) (h0 : 0 ≤ u) (h1 : u < 65536) : Calls Tryz.prog 208 #[.int .i64 u] w fun e w' => e = .returned (.bool (lowF u)) ∧ w = w' := by
  have k := i64_andNot1023 u h0 h1
  go_enter Tryz.func208, Tryz.ntmps208
  go_wp2
  go_ret
  refine ⟨ret_b ?_, rfl⟩
  show ((u - u % 1024) == 56320) = lowF u
  unfold lowF
  rw [Bool.eq_iff_iff, beq_iff_eq, decide_eq_true_eq]
  omega
def pairF (o : Int) (l : List Int) : Bool := highF (unitF o l) && decide (4 ≤ l.length) && lowF (unitF o (l.drop 2))
def atom16 (o : Int) (l : List Int) : Int :=
  if l.length = 1 then -1 - l.getD 0 0 else if pairF o l = true then 65536 + unitF o l % 1024 * 1024 + unitF o (l.drop 2) % 1024 else unitF o l
def size16 (o : Int) (l : List Int) : Int := if l.length = 1 then 1 else if pairF o l = true then 4 else 2
set_option maxRecDepth 100000 in
set_option maxHeartbeats 2000000 in
theorem first16_any (o : Int) (D : Nat → Prop) (A : Option Addr) (n c : Nat) (l : List Int) (w : World) (ho : o = 0 ∨ o = 1) (hl : Bts w D A n l) (hb : Byt l) (hn : n ≤ 2147483648) (h0 : 0 < n) (hcap : n ≤ c) :
    Calls Tryz.prog 201 #[.agg #[.int .i64 o], .slice A n c] w fun e w' => e = .returned (.tuple #[.int .i64 (atom16 o l), .int .i64 (size16 o l)]) ∧ Below w.heap.size w w' := by
  have hle1 : l.length ≤ n := Nat.le_of_eq hl.len
  have hle2 : n ≤ l.length := Nat.le_of_eq hl.len.symm
  obtain ⟨ad, rfl, hD, hc0⟩ := hl.at_ h0
  rw [add_zero] at hc0
  obtain ⟨x0, hx0⟩ : ∃ x, l.getD 0 0 = x := ⟨_, rfl⟩
  have b0 := hb.at_ 0
  rw [hx0] at hc0 b0
  have hW : Below w.heap.size w (w.alloc (.cells #[.int .i64 o] 200)) := (Below.refl _ w).alloc (Nat.le_refl _) _
  have d0 := cell_keep hW hc0
  have hl1 := Reads.below hl hW
  clear hc0
  by_cases hn1 : n = 1
  · have hfa : atom16 o l = -1 - x0 := by unfold atom16; rw [if_pos (by omega), hx0]
    have hfs : size16 o l = 1 := by unfold size16; rw [if_pos (by omega)]
    have HA := Lib.hid hfa
    have HS := Lib.hid hfs
    clear hfa hfs hx0
    have q1 : ((n : Int) == 1) = true := by rw [beq_iff_eq]; omega
    have q0 : (0 : Int) < n := by omega
    clear hn1
    go_enter Tryz.func201, Tryz.ntmps201
    go_wp2_with fail
    go_ret2
    exact ⟨ret_2 (by rw [HA.out]) (by rw [HS.out]), hW⟩
  · have q1 : ((n : Int) == 1) = false := by rw [beq_eq_false_iff_ne]; omega
    have ub := unitF_bd o l hb
    obtain ⟨u, hu⟩ : ∃ u, unitF o l = u := ⟨_, rfl⟩
    rw [hu] at ub
    have hun := unit_any o D (some ad) n c l _ ho hl1 hb hn (by omega)
    rw [hu] at hun
    have HUN := Lib.hid hun
    have hfa : atom16 o l = if pairF o l = true then 65536 + u % 1024 * 1024 + unitF o (l.drop 2) % 1024 else u := by unfold atom16; rw [if_neg (by omega), hu]
    have hfs : size16 o l = if pairF o l = true then 4 else 2 := by unfold size16; rw [if_neg (by omega)]
    have hfp : pairF o l = (highF u && decide (4 ≤ l.length) && lowF (unitF o (l.drop 2))) := by unfold pairF; rw [hu]
    have HA := Lib.hid hfa
    have HS := Lib.hid hfs
    have HP := Lib.hid hfp
    clear hfa hfs hfp hx0 hu hun
    cases hh : highF u
    · have hp : pairF o l = false := by rw [HP.out, hh]; rfl
      have HP2 := Lib.hid hp
      clear hp
      go_enter Tryz.func201, Tryz.ntmps201
      go_wp2_with fail
      refine (HUN.out).mono ?_
      rintro e w1 ⟨rfl, hb1⟩
      go_wp2_with fail
      refine (high_any u _ ub.1 ub.2).mono ?_
      rintro e w2 ⟨rfl, rfl⟩
      go_wp2_with fail
      go_ret2
      exact ⟨ret_2 (by rw [HA.out, HP2.out]; rfl) (by rw [HS.out, HP2.out]; rfl), hW.trans (hb1.mono (by simp))⟩
    · by_cases h4 : n < 4
      · have hp : pairF o l = false := by rw [HP.out, hh, show decide (4 ≤ l.length) = false by simp; omega]; rfl
        have HP2 := Lib.hid hp
        clear hp
        have q4 : (n : Int) < 4 := by omega
        go_enter Tryz.func201, Tryz.ntmps201
        go_wp2_with fail
        refine (HUN.out).mono ?_
        rintro e w1 ⟨rfl, hb1⟩
        go_wp2_with fail
        refine (high_any u _ ub.1 ub.2).mono ?_
        rintro e w2 ⟨rfl, rfl⟩
        go_wp2_with fail
        go_ret2
        exact ⟨ret_2 (by rw [HA.out, HP2.out]; rfl) (by rw [HS.out, HP2.out]; rfl), hW.trans (hb1.mono (by simp))⟩
      · have q4 : ¬ (n : Int) < 4 := by omega
        have vb := unitF_bd o (l.drop 2) (hb.drop 2)
        obtain ⟨v, hv⟩ : ∃ v, unitF o (l.drop 2) = v := ⟨_, rfl⟩
        rw [hv] at vb
        have hp : pairF o l = lowF v := by rw [HP.out, hh, show decide (4 ≤ l.length) = true by simp; omega, hv]; rfl
        have HP2 := Lib.hid hp
        have HV := Lib.hid hv
        clear hp hv
        have q5 : (2 : Int) ≤ n := by omega
        have q6 : (n : Int) ≤ c := by omega
        have m1 := i64_and1023 u ub.1 ub.2
        have m2 := i64_and1023 v vb.1 vb.2
        have q7 : ¬ c = 2 := by omega
        have hb2 : Bts (w.alloc (.cells #[.int .i64 o] 200)) D (some ⟨ad.block, ad.off + 2, none⟩) (n - 2) (l.drop 2) := Bts.cut_ hl1 (by omega) (by omega)
        go_enter Tryz.func201, Tryz.ntmps201
        go_wp2_with fail
        refine (HUN.out).mono ?_
        rintro e w1 ⟨rfl, hb1⟩
        go_wp2_with fail
        refine (high_any u _ ub.1 ub.2).mono ?_
        rintro e w2 ⟨rfl, rfl⟩
        go_wp2_with fail
        have hbox : Blk w1 w.heap.size 200 #[.int .i64 o] := (Blk.new w _ _).below hb1
        have c0 := hbox.cell 0
        simp at c0
        have hbw := Reads.below hb2 hb1
        go_cut [7] (fun s7 wx => s7 = .int .i64 v ∧ Below w1.heap.size w1 wx)
        case first =>
          go_region_held3 (fun w' => w'.cell? ⟨w.heap.size, 0, none⟩ = some (.int .i64 o)) (first | assumption | exact cell_keep (by assumption) (by assumption)) (first | (go_at_call 206; refine (unit_any o D _ (n - 2) (c - 2) (l.drop 2) _ ho ?hx1 (hb.drop 2) ?hx2 ?hx3).mono ?_; exact hbw; omega; omega; rintro e w3 ⟨rfl, hb3⟩))
          all_goals
            go_wp2_with fail
            go_meet
            exact ⟨by rw [HV.out], bdrew (by assumption)⟩
        case rest =>
          obtain ⟨rfl, hb3⟩ := hcut
          have hend : Below w.heap.size w wc := (hW.trans (hb1.mono (by simp))).trans (hb3.mono (by have := hb1.size; simp at this; omega))
          cases hlo : lowF v
          all_goals
            go_wp2_with fail
            refine (low_any v _ vb.1 vb.2).mono ?_
            rintro e w4 ⟨rfl, rfl⟩
            go_wp2_with fail
            go_ret2
            exact ⟨ret_2 (by rw [HA.out, HP2.out, hlo, HV.out]; rfl) (by rw [HS.out, HP2.out, hlo]; rfl), hend⟩
def atomL (l : List Int) : Int := l.getD 0 0
set_option maxRecDepth 100000 in
theorem firstL_any (D : Nat → Prop) (A : Option Addr) (n c : Nat) (l : List Int) (w : World) (hl : Bts w D A n l) (hb : Byt l) (h0 : 0 < n) :
    Calls Tryz.prog 210 #[.agg #[], .slice A n c] w fun e w' => e = .returned (.tuple #[.int .i64 (atomL l), .int .i64 1]) ∧ Below w.heap.size w w' := by
  obtain ⟨ad, rfl, hD, hc0⟩ := hl.at_ h0
  rw [add_zero] at hc0
  obtain ⟨x0, hx0⟩ : ∃ x, l.getD 0 0 = x := ⟨_, rfl⟩
  have b0 := hb.at_ 0
  rw [hx0] at hc0 b0
  have HX := Lib.hid hx0
  have hW : Below w.heap.size w (w.alloc (.cells #[] 201)) := (Below.refl _ w).alloc (Nat.le_refl _) _
  have d0 := cell_keep hW hc0
  clear hc0 hx0
  have q0 : (0 : Int) < n := by omega
  go_enter Tryz.func210, Tryz.ntmps210
  go_wp2_with fail
  go_ret2
  exact ⟨ret_2 (by unfold atomL; rw [HX.out]) rfl, hW⟩
end Go.Proofs.YteekabaoocaghaaGreat
