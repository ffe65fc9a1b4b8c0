/-
  The walks of package codec, second part: the first atom of some bytes in each encoding.
-/
import Derived.Test.YtcdhfmkfkhhnoaaGreatLCodec
set_option linter.unusedSimpArgs false
set_option linter.unusedVariables false
namespace Go.Proofs.YtcdhfmkfkhhnoaaGreat
open Go.RowKit

theorem i64_and (i : Nat) (hi : i ≤ 30) (x : Int) (h0 : 0 ≤ x) (h1 : x < 2147483648) : bits .and .i64 x (2 ^ i - 1) = x % 2 ^ i :=
  bits_mask .i64 31 (by decide) (fun n a b => by rw [IntKind.wrap_i64]; omega) i (by omega) x h0 h1
theorem i64_and31 (x : Int) (h0 : 0 ≤ x) (h1 : x < 256) : bits .and .i64 x 31 = x % 32 := i64_and 5 (by omega) x h0 (by omega)
theorem i64_and15 (x : Int) (h0 : 0 ≤ x) (h1 : x < 256) : bits .and .i64 x 15 = x % 16 := i64_and 4 (by omega) x h0 (by omega)
theorem i64_and7 (x : Int) (h0 : 0 ≤ x) (h1 : x < 256) : bits .and .i64 x 7 = x % 8 := i64_and 3 (by omega) x h0 (by omega)
theorem i64_or6 (x y : Int) (h0 : 0 ≤ x) (h1 : x < 33554432) (h2 : 0 ≤ y) (h3 : y < 64) : bits .or .i64 (x * 64) y = x * 64 + y :=
  bits_join .i64 31 (by decide) (fun n a b => by rw [IntKind.wrap_i64]; omega) 6 (x * 64) y (by omega) (by omega) (by omega) h2 (by omega) (by omega)
/-- the first byte without its mark -/
def leadF (N x : Int) : Int := if N = 2 then x % 32 else if N = 3 then x % 16 else if N = 4 then x % 8 else x
def goOn (a c : Int) : Int := a * 64 + c % 64
def valF8 (l : List Int) : Int := ((l.drop 1).take (bdN (l.getD 0 0) - 1).toNat).foldl goOn (leadF (bdN (l.getD 0 0)) (l.getD 0 0))
def rawF (l : List Int) : Bool := decide (bdN (l.getD 0 0) = 0 ∨ rowHave l < bdN (l.getD 0 0))
def atom8 (l : List Int) : Int := if rawF l = true then -1 - l.getD 0 0 else valF8 l
def size8 (l : List Int) : Int := if rawF l = true then 1 else bdN (l.getD 0 0)

theorem pow64_le (i : Nat) (h : i ≤ 2) : (64 : Int) ^ i ≤ 4096 := by
  have h2 : (64 : Nat) ^ i ≤ 64 ^ 2 := Nat.pow_le_pow_right (by omega) h
  have e : (64 : Nat) ^ 2 = 4096 := by decide
  have h3 : ((64 : Int) ^ i) = ((64 ^ i : Nat) : Int) := by simp
  omega
theorem leadF_bd (N x : Int) (h0 : 0 ≤ x) (h1 : x < 256) : 0 ≤ leadF N x ∧ leadF N x < 256 := by unfold leadF; (repeat' split) <;> omega
theorem rowHave_le (l : List Int) (h : 0 < l.length) : rowHave l ≤ l.length := by
  unfold rowHave
  have := contF_len (bdN (l.getD 0 0) - 2).toNat (l.drop 2)
  simp only [List.length_drop] at this
  (repeat' split) <;> omega
def V8R (l r : List Int) (a0 : Int) (w0 : World) (k : Nat) (q8 q49 : Value) (wr : World) : Prop :=
  ∃ (i : Nat) (a : Int), wr = w0 ∧ q49 = .int .i64 (i : Int) ∧ q8 = .int .i64 a ∧ i ≤ r.length ∧ r.length - i ≤ k ∧ (r.take i).foldl goOn a0 = a ∧ 0 ≤ a ∧ a < 256 * 64 ^ i
set_option maxRecDepth 100000 in
set_option maxHeartbeats 2000000 in
theorem first8_any (D : Nat → Prop) (A : Option Addr) (n c : Nat) (l : List Int) (w : World) (hl : Bts w D A n l) (hb : Byt l) (hn : n ≤ 2147483648) (h0 : 0 < n) (hcap : n ≤ c) :
    Calls Tryz.prog 137 #[.agg #[], .slice A n c] w fun e w' => e = .returned (.tuple #[.int .i64 (atom8 l), .int .i64 (size8 l)]) ∧ Below w.heap.size w w' := by
  have hle1 : l.length ≤ n := Nat.le_of_eq hl.len
  have hle2 : n ≤ l.length := Nat.le_of_eq hl.len.symm
  obtain ⟨ad, rfl, hD, hc0⟩ := hl.at_ h0
  obtain ⟨x0, hx0⟩ : ∃ x, l.getD 0 0 = x := ⟨_, rfl⟩
  have hx0b := hb.at_ 0
  rw [hx0, add_zero] at hc0
  rw [hx0] at hx0b
  obtain ⟨N, hN⟩ : ∃ x, bdN x0 = x := ⟨_, rfl⟩
  obtain ⟨H, hH⟩ : ∃ x, rowHave l = x := ⟨_, rfl⟩
  have hNb := bdN_le x0
  rw [hN] at hNb
  have hNx := Lib.hid hN
  have HHx := Lib.hid hH
  have hrow := row_any D (some ad) n c l (w.alloc (.cells #[] 192)) (Reads.below hl ((Below.refl _ w).alloc (Nat.le_refl _) _)) hb hn h0
  rw [hx0, hN, hH] at hrow
  have hfa : atom8 l = if rawF l = true then -1 - x0 else valF8 l := by unfold atom8; rw [hx0]
  have hfs : size8 l = if rawF l = true then 1 else N := by unfold size8; rw [hx0, hN]
  have hraw : rawF l = decide (N = 0 ∨ H < N) := by unfold rawF; rw [hx0, hN, hH]
  have HA := Lib.hid hfa
  have HS := Lib.hid hfs
  have HR := Lib.hid hraw
  have HW := Lib.hid hrow
  clear hfa hfs hraw hrow
  obtain ⟨hN0, hN4⟩ := hNb
  clear hN hH
  have hW : Below w.heap.size w (w.alloc (.cells #[] 192)) := (Below.refl _ w).alloc (Nat.le_refl _) _
  have hc0' := cell_keep hW hc0
  by_cases hr : N = 0 ∨ H < N
  · have hfa : atom8 l = -1 - x0 := by rw [HA.out, HR.out, if_pos (by simpa using hr)]
    have hfs : size8 l = 1 := by rw [HS.out, HR.out, if_pos (by simpa using hr)]
    have HA2 := Lib.hid hfa
    have HS2 := Lib.hid hfs
    clear hfa hfs
    have hr2 : (N == 0) = true ∨ ((N == 0) = false ∧ H < N) := by
      cases h : (N == 0)
      · rw [beq_eq_false_iff_ne] at h; exact .inr ⟨rfl, by omega⟩
      · exact .inl rfl
    clear hr
    rcases hr2 with hr2 | ⟨hr2, hr3⟩
    all_goals
      go_enter Tryz.func137, Tryz.ntmps137
      go_wp2_with fail
      refine (HW.out).mono ?_
      rintro e w1 ⟨rfl, rfl⟩
      go_wp2_with fail
      go_ret2
      exact ⟨ret_2 (by rw [HA2.out]) (by rw [HS2.out]), (Below.refl _ w).alloc (Nat.le_refl _) _⟩
  · have hfa : atom8 l = valF8 l := by rw [HA.out, HR.out, if_neg (by simpa using hr)]
    have hfs : size8 l = N := by rw [HS.out, HR.out, if_neg (by simpa using hr)]
    have HA2 := Lib.hid hfa
    have HS2 := Lib.hid hfs
    clear hfa hfs
    have q1 : (N == 0) = false := by rw [beq_eq_false_iff_ne]; omega
    have q2 : ¬ H < N := by omega
    have hval : valF8 l = ((l.drop 1).take (N - 1).toNat).foldl goOn (leadF N x0) := by unfold valF8; rw [hx0, hNx.out]
    have HV := Lib.hid hval
    have HH : Hid (H ≤ n) := Lib.hid (by rw [← HHx.out]; have := rowHave_le l (by omega); omega)
    clear hval hx0
    obtain ⟨r, hrr⟩ : ∃ r, (l.drop 1).take (N - 1).toNat = r := ⟨_, rfl⟩
    go_enter Tryz.func137, Tryz.ntmps137
    go_wp2_with fail
    refine (HW.out).mono ?_
    rintro e w1 ⟨rfl, rfl⟩
    have a31 := i64_and31 x0 hx0b.1 hx0b.2
    have a15 := i64_and15 x0 hx0b.1 hx0b.2
    have a7 := i64_and7 x0 hx0b.1 hx0b.2
    go_upto_block 0 with fail
    go_cut [8] (fun s8 wx => s8 = .int .i64 (leadF N x0) ∧ wx = w.alloc (.cells #[] 192))
    case first =>
      go_wp2_with fail
      all_goals
        go_light
        go_meet
        refine ⟨congrArg (Value.int .i64) ?_, rfl⟩
        (try simp only [beq_iff_eq, beq_eq_false_iff_ne, ne_eq] at *)
        unfold leadF
        (repeat' split) <;> first | rfl | omega
    case rest =>
      obtain ⟨rfl, rfl⟩ := hcut
      clear a31 a15 a7 hc0 hc0'
      have hNn : N ≤ n := by have := HH.out; omega
      have q3 : (1 : Int) ≤ N := by simp only [beq_eq_false_iff_ne, ne_eq] at q1; omega
      have q4 : N ≤ (c : Int) := by omega
      obtain ⟨M, rfl⟩ : ∃ M : Nat, N = (M : Int) + 1 := ⟨(N - 1).toNat, by omega⟩
      have hr' : (l.drop 1).take M = r := by rw [← hrr]; congr 1; omega
      have hrl : r.length = M := by rw [← hr', List.length_take, List.length_drop]; omega
      have hrl1 : r.length ≤ M := Nat.le_of_eq hrl
      have hrl2 : M ≤ r.length := Nat.le_of_eq hrl.symm
      have hrb : Byt r := by rw [← hr']; exact (hb.drop 1).take M
      have hl1 := Reads.below hl hW
      have HRR := Lib.hid hr'
      clear hrr hr' hrl
      have q5 : 0 ≤ (M : Int) + 1 := by omega
      have q6 : ((M : Int) + 1).toNat - 1 = M := by omega
      by_cases hc1 : c = 1
      all_goals
        go_wp2_with fail
        go_loopg [8, 49] M (fun k q8 q49 wr => V8R l r (leadF ((M : Int) + 1) x0) (w.alloc (.cells #[] 192)) k q8 q49 wr)
        case atStart =>
          have := leadF_bd ((M : Int) + 1) x0 hx0b.1 hx0b.2
          exact ⟨0, _, rfl, rfl, rfl, by omega, by omega, rfl, this.1, by simpa using this.2⟩
        case round =>
          obtain ⟨i, a, rfl, rfl, rfl, hi, hik, hfo, ha0, ha1⟩ := hrel
          have HFO := Lib.hid hfo
          clear hfo
          by_cases hlt : i < M
          · first
              | (exfalso; omega)
              | (obtain ⟨ad', hade, _, hci⟩ := Bts.at_ hl1 (show 1 + i < n by omega)
                 injection hade with hade
                 subst hade
                 rw [add_pos ad (1 + i) (by omega), ← Nat.add_assoc] at hci
                 obtain ⟨x, hx⟩ : ∃ x, r.getD i 0 = x := ⟨_, rfl⟩
                 have hxl : l.getD (1 + i) 0 = x := by
                   rw [← hx, ← HRR.out, List.getD_eq_getElem?_getD, List.getD_eq_getElem?_getD, List.getElem?_take, if_pos hlt, List.getElem?_drop]
                 have hxb := hrb.at_ i
                 rw [hx] at hxb
                 rw [hxl] at hci
                 have hsn : (r.take (i + 1)).foldl goOn (leadF ((M : Int) + 1) x0) = a * 64 + x % 64 := by
                   rw [List.take_succ_eq_append_getElem (by omega), List.foldl_append, HFO.out, ← hx, List.getD_eq_getElem?_getD, List.getElem?_eq_getElem (by omega)]
                   rfl
                 have HSN := Lib.hid hsn
                 clear hsn hx hxl
                 have hp := pow64_le i (by omega)
                 have hab : a < 33554432 := by omega
                 have hm : 0 ≤ x % 64 ∧ x % 64 < 64 := by omega
                 have k1 := u8_and63 x hxb.1 hxb.2
                 have k2 := i64_or6 a (x % 64) ha0 hab hm.1 hm.2
                 go_wp2_with fail
                 go_roundg (M - (i + 1))
                 case measure => omega
                 case rel =>
                   refine ⟨i + 1, _, rfl, by go_num, rfl, by omega, by omega, ?_, ?_, ?_⟩
                   · exact HSN.out
                   · omega
                   · rw [Int.pow_succ]; omega)
          · have hiM : i = M := by omega
            subst hiM
            have hfo := HFO.out
            rw [List.take_of_length_le (by omega)] at hfo
            have HFO2 := Lib.hid hfo
            clear hfo
            go_wp2_with fail
            go_ret2
            refine ⟨ret_2 ?_ (by rw [HS2.out]), hW⟩
            rw [HA2.out, HV.out, show ((i : Int) + 1 - 1).toNat = i by omega, HRR.out]
            exact HFO2.out.symm
end Go.Proofs.YtcdhfmkfkhhnoaaGreat
