/-
  The walks of package codec, second part: the first atom of some bytes in each encoding.
-/
import Derived.Test.YtflhiohjikgedaaGreatDoorLHeavy
set_option linter.unusedSimpArgs false
set_option linter.unusedVariables false
set_option maxRecDepth 100000
set_option maxHeartbeats 32000000
namespace Go.Proofs.YtflhiohjikgedaaGreatDoor
open Go.RowKit
def Byt (l : List Int) : Prop := ∀ x ∈ l, 0 <= x /\ x < 256
theorem Byt.drop {l : List Int} (h : Byt l) (k : Nat) : Byt (l.drop k) := fun x hx => h x (List.mem_of_mem_drop hx)
theorem Byt.take {l : List Int} (h : Byt l) (k : Nat) : Byt (l.take k) := fun x hx => h x (List.mem_of_mem_take hx)
theorem Byt.at_ {l : List Int} (h : Byt l) (k : Nat) : 0 <= l.getD k 0 /\ l.getD k 0 < 256 := by
 rw [List.getD_eq_getElem?_getD]
 cases e : l[k]? with
 | none => simp
 | some v => simpa using h v (List.mem_of_getElem? e)
def Bts (w : World) (D : Nat -> Prop) (A : Option Addr) (n : Nat) (l : List Int) : Prop := Reads w D 1 A n (l.map (Value.int .u8))
theorem Bts.len {w : World} {D : Nat -> Prop} {A : Option Addr} {n : Nat} {l : List Int} (h : Bts w D A n l) : l.length = n := by have := h.1; simpa using this
theorem Bts.at_ {w : World} {D : Nat -> Prop} {A : Option Addr} {n : Nat} {l : List Int} {k : Nat} (h : Bts w D A n l) (hk : k < n) : ∃ ad, A = some ad /\ D ad.block /\ w.cell? (ad.add k) = some (.int .u8 (l.getD k 0)) := by
 obtain ⟨ad, u, e, hd, hx, hc⟩ := Reads.at_ h hk
 refine ⟨ad, e, hd, ?_⟩
 rw [hc, List.getD_eq_getElem?_getD]
 rw [List.getElem?_map] at hx
 cases hl : l[k]? with
 | none => rw [hl] at hx; cases hx
 | some v => rw [hl] at hx; simp at hx; simp [hx]
def bdN (c : Int) : Int := if c < 128 then 1 else if c < 194 then 0 else if c < 224 then 2 else if c < 240 then 3 else if c <= 244 then 4 else 0
def bdLo (c : Int) : Int := if c < 194 then 0 else if c < 224 then 128 else if c = 224 then 160 else if c = 240 then 144 else if c <= 244 then 128 else 0
def bdHi (c : Int) : Int := if c < 194 then 0 else if c < 224 then 191 else if c = 237 then 159 else if c = 244 then 143 else if c < 244 then 191 else 0
theorem ret_3 {j k m : IntKind} {a b c x y z : Int} (h1 : a = x) (h2 : b = y) (h3 : c = z) : Ending.returned (.tuple #[.int j a, .int k b, .int m c]) = .returned (.tuple #[.int j x, .int k y, .int m z]) := by rw [h1, h2, h3]
theorem ret_2 {j k : IntKind} {a b x y : Int} (h1 : a = x) (h2 : b = y) : Ending.returned (.tuple #[.int j a, .int k b]) = .returned (.tuple #[.int j x, .int k y]) := by rw [h1, h2]
theorem bounds_any (c : Int) (w : World) (h0 : 0 <= c) (h1 : c < 256) :
  Calls Tryz.prog 104 #[.int .u8 c] w fun e w' => e = .returned (.tuple #[.int .i64 (bdN c), .int .u8 (bdLo c), .int .u8 (bdHi c)]) /\ w = w' := by
 go_enter Tryz.func104, Tryz.ntmps104
 go_wp2
 all_goals
  go_light
  go_ret3
  refine ⟨ret_3 ?_ ?_ ?_, rfl⟩
  all_goals
   first | show _ = bdN c | show _ = bdLo c | show _ = bdHi c
   simp only [bdN, bdLo, bdHi]
   (try simp only [beq_iff_eq, beq_eq_false_iff_ne, ne_eq] at *)
   (repeat' split) <;> first | rfl | omega
theorem u8_and192 (x : Int) (h0 : 0 <= x) (h1 : x < 256) : bits .and .u8 x 192 = x - x % 64 := by
 have h : ∀ i : Fin 256, bits .and .u8 (i.val : Int) 192 = (i.val : Int) - (i.val : Int) % 64 := by decide +kernel
 have := h ⟨x.toNat, by omega⟩
 simpa [Int.toNat_of_nonneg h0] using this
def contF : Nat -> List Int -> Nat
 | 0, _ => 0
 | _ + 1, [] => 0
 | m + 1, c :: r => if 128 <= c /\ c < 192 then contF m r + 1 else 0
theorem contF_len (m : Nat) (l : List Int) : contF m l <= l.length := by
 induction m generalizing l with
 | zero => simp [contF]
 | succ m ih => cases l with
  | nil => simp [contF]
  | cons c r => simp only [contF]; split <;> simp [ih]
def rowHave (l : List Int) : Int :=
 if bdN (l.getD 0 0) < 2 then bdN (l.getD 0 0)
 else if l.length < 2 \/ l.getD 1 0 < bdLo (l.getD 0 0) \/ bdHi (l.getD 0 0) < l.getD 1 0 then 1
 else 2 + contF (bdN (l.getD 0 0) - 2).toNat (l.drop 2)
theorem drop_getD' (l : List Int) (m : Nat) (h : m < l.length) : l.drop m = l.getD m 0 :: l.drop (m + 1) := by
 rw [List.drop_eq_getElem_cons h, List.getD_eq_getElem?_getD, List.getElem?_eq_getElem h]; rfl
def RowR (l : List Int) (N : Int) (n : Nat) (w0 : World) (k : Nat) (q : Value) (wr : World) : Prop :=
 ∃ h : Nat, wr = w0 /\ q = .int .i64 (h : Int) /\ 2 <= h /\ (h : Int) <= N /\ h <= n /\ N <= h + k /\ 2 + contF (N - 2).toNat (l.drop 2) = h + contF (N - h).toNat (l.drop h)
theorem add_zero (a : Addr) : a.add 0 = a := by simp [Addr.add]
theorem bdN_le (c : Int) : 0 <= bdN c /\ bdN c <= 4 := by unfold bdN; (repeat' split) <;> omega
theorem row_any (D : Nat -> Prop) (A : Option Addr) (n c : Nat) (l : List Int) (w : World) (hl : Bts w D A n l) (hb : Byt l) (hn : n <= 2147483648) (h0 : 0 < n) :
  Calls Tryz.prog 84 #[.slice A n c] w fun e w' => e = .returned (.tuple #[.int .i64 (rowHave l), .int .i64 (bdN (l.getD 0 0))]) /\ w = w' := by
 have hle1 : l.length <= n := Nat.le_of_eq hl.len
 have hle2 : n <= l.length := Nat.le_of_eq hl.len.symm
 obtain ⟨ad, rfl, hD, hc0⟩ := hl.at_ h0
 obtain ⟨x0, hx0⟩ : ∃ x, l.getD 0 0 = x := ⟨_, rfl⟩
 have hx0b := hb.at_ 0
 rw [hx0, add_zero] at hc0
 rw [hx0] at hx0b
 obtain ⟨N, hN⟩ : ∃ x, bdN x0 = x := ⟨_, rfl⟩
 obtain ⟨lo, hlo⟩ : ∃ x, bdLo x0 = x := ⟨_, rfl⟩
 obtain ⟨hi, hhi⟩ : ∃ x, bdHi x0 = x := ⟨_, rfl⟩
 have hNb := bdN_le x0
 rw [hN] at hNb
 have hbn := fun w => bounds_any x0 w hx0b.1 hx0b.2
 rw [hN, hlo, hhi] at hbn
 have hfin : rowHave l = if N < 2 then N else if l.length < 2 \/ l.getD 1 0 < lo \/ hi < l.getD 1 0 then 1 else 2 + contF (N - 2).toNat (l.drop 2) := by
  unfold rowHave
  rw [hx0, hN, hlo, hhi]
 rw [hx0, hN]
 have HF := Lib.hid hfin
 clear hfin hN hlo hhi hx0
 have HB := Lib.hid hbn
 clear hbn
 obtain ⟨hN0, hN4⟩ := hNb
 by_cases hN2 : N < 2
 ·go_enter Tryz.func84, Tryz.ntmps84
  go_wp2_with fail
  refine (HB.out _).mono ?_
  rintro e w1 ⟨rfl, rfl⟩
  go_wp2_with fail
  go_ret2
  exact ⟨ret_2 (by rw [HF.out, if_pos (by omega)]) rfl, rfl⟩
 ·by_cases hlen : n < 2
  ·have hsp : (n : Int) < 2 := by omega
   go_enter Tryz.func84, Tryz.ntmps84
   go_wp2_with fail
   refine (HB.out _).mono ?_
   rintro e w1 ⟨rfl, rfl⟩
   go_wp2_with fail
   go_ret2
   exact ⟨ret_2 (by rw [HF.out, if_neg (by omega), if_pos (.inl (by omega))]) rfl, rfl⟩
  ·obtain ⟨ad', hade, _, hc1⟩ := hl.at_ (show 1 < n by omega)
   injection hade with hade
   subst hade
   rw [add_pos ad 1 (by omega)] at hc1
   obtain ⟨x1, hx1⟩ : ∃ x, l.getD 1 0 = x := ⟨_, rfl⟩
   have hx1b := hb.at_ 1
   rw [hx1] at hc1 hx1b
   have HX := Lib.hid hx1
   clear hx1
   have hsp : ¬ (n : Int) < 2 := by omega
   by_cases hlo : x1 < lo
   ·go_enter Tryz.func84, Tryz.ntmps84
    go_wp2_with fail
    refine (HB.out _).mono ?_
    rintro e w1 ⟨rfl, rfl⟩
    go_wp2_with fail
    go_ret2
    exact ⟨ret_2 (by rw [HF.out, if_neg (by omega), if_pos (.inr (.inl (by rw [HX.out]; exact hlo)))]) rfl, rfl⟩
   ·by_cases hhi : hi < x1
    ·go_enter Tryz.func84, Tryz.ntmps84
     go_wp2_with fail
     refine (HB.out _).mono ?_
     rintro e w1 ⟨rfl, rfl⟩
     go_wp2_with fail
     go_ret2
     exact ⟨ret_2 (by rw [HF.out, if_neg (by omega), if_pos (.inr (.inr (by rw [HX.out]; exact hhi)))]) rfl, rfl⟩
    ·go_enter Tryz.func84, Tryz.ntmps84
     go_wp2_with fail
     refine (HB.out _).mono ?_
     rintro e w1 ⟨rfl, rfl⟩
     go_wp2_with fail
     have hfin : rowHave l = 2 + contF (N - 2).toNat (l.drop 2) := by
      rw [HF.out, if_neg (by omega), if_neg (by rw [HX.out]; omega)]
     have HF := Lib.hid hfin
     clear hfin hc1
     go_loopg [7] (N - 2).toNat (fun k q wr => RowR l N n w k q wr)
     case atStart => exact ⟨2, rfl, rfl, Nat.le_refl _, by omega, by omega, by omega, rfl⟩
     case round =>
      obtain ⟨h, rfl, rfl, h2, hhn, hhl, hk, hct⟩ := hrel
      have HC := Lib.hid hct
      clear hct
      by_cases c1 : (h : Int) < N
      ·by_cases c2 : h < n
       ·obtain ⟨ad', hade, _, hch⟩ := hl.at_ c2
        injection hade with hade
        subst hade
        obtain ⟨x, hx⟩ : ∃ x, l.getD h 0 = x := ⟨_, rfl⟩
        have hxb := hb.at_ h
        rw [hx] at hch hxb
        have hand := u8_and192 x hxb.1 hxb.2
        have hdr : l.drop h = x :: l.drop (h + 1) := by rw [<- hx]; exact drop_getD' l h (by omega)
        have HD := Lib.hid hdr
        clear hx hdr
        by_cases c3 : 128 <= x /\ x < 192
        ·have c4 : (bits .and .u8 x 192 == 128) = true := by rw [beq_iff_eq, hand]; omega
         clear hand
         go_wp2_with fail
         go_roundg (N - (h + 1)).toNat
         case measure => omega
         case rel =>
          refine ⟨h + 1, rfl, by go_num, by omega, by omega, by omega, by omega, ?_⟩
          rw [HC.out, HD.out, show (N - (h : Int)).toNat = (N - ((h + 1 : Nat) : Int)).toNat + 1 by omega, contF, if_pos c3]
          omega
        ·have c4 : (bits .and .u8 x 192 == 128) = false := by rw [beq_eq_false_iff_ne, hand]; omega
         clear hand
         have hz : contF (N - h).toNat (l.drop h) = 0 := by
          rw [HD.out]
          cases (N - (h : Int)).toNat <;> simp [contF]
          omega
         have HZ := Lib.hid hz
         clear hz
         go_wp2_with fail
         go_ret2
         exact ⟨ret_2 (by have := HC.out; have := HZ.out; rw [HF.out]; omega) rfl, rfl⟩
       ·have hz : contF (N - h).toNat (l.drop h) = 0 := by
         rw [List.drop_eq_nil_of_le (by omega)]
         cases (N - (h : Int)).toNat <;> simp [contF]
        have HZ := Lib.hid hz
        clear hz
        have c3 : ¬ (h : Int) < n := by omega
        go_wp2_with fail
        go_ret2
        exact ⟨ret_2 (by have := HC.out; have := HZ.out; rw [HF.out]; omega) rfl, rfl⟩
      ·have hz : contF (N - h).toNat (l.drop h) = 0 := by
        rw [show (N - (h : Int)).toNat = 0 by omega]
        rfl
       have HZ := Lib.hid hz
       clear hz
       go_wp2_with fail
       go_ret2
       exact ⟨ret_2 (by have := HC.out; have := HZ.out; rw [HF.out]; omega) rfl, rfl⟩
theorem i64_and (i : Nat) (hi : i <= 30) (x : Int) (h0 : 0 <= x) (h1 : x < 2147483648) : bits .and .i64 x (2 ^ i - 1) = x % 2 ^ i :=
 bits_mask .i64 31 (by decide) (fun n a b => by rw [IntKind.wrap_i64]; omega) i (by omega) x h0 h1
theorem i64_and31 (x : Int) (h0 : 0 <= x) (h1 : x < 256) : bits .and .i64 x 31 = x % 32 := i64_and 5 (by omega) x h0 (by omega)
theorem i64_and15 (x : Int) (h0 : 0 <= x) (h1 : x < 256) : bits .and .i64 x 15 = x % 16 := i64_and 4 (by omega) x h0 (by omega)
theorem i64_and7 (x : Int) (h0 : 0 <= x) (h1 : x < 256) : bits .and .i64 x 7 = x % 8 := i64_and 3 (by omega) x h0 (by omega)
theorem i64_or6 (x y : Int) (h0 : 0 <= x) (h1 : x < 33554432) (h2 : 0 <= y) (h3 : y < 64) : bits .or .i64 (x * 64) y = x * 64 + y :=
 bits_join .i64 31 (by decide) (fun n a b => by rw [IntKind.wrap_i64]; omega) 6 (x * 64) y (by omega) (by omega) (by omega) h2 (by omega) (by omega)
def leadF (N x : Int) : Int := if N = 2 then x % 32 else if N = 3 then x % 16 else if N = 4 then x % 8 else x
def goOn (a c : Int) : Int := a * 64 + c % 64
def valF8 (l : List Int) : Int := ((l.drop 1).take (bdN (l.getD 0 0) - 1).toNat).foldl goOn (leadF (bdN (l.getD 0 0)) (l.getD 0 0))
def rawF (l : List Int) : Bool := decide (bdN (l.getD 0 0) = 0 \/ rowHave l < bdN (l.getD 0 0))
def atom8 (l : List Int) : Int := if rawF l = true then -1 - l.getD 0 0 else valF8 l
def size8 (l : List Int) : Int := if rawF l = true then 1 else bdN (l.getD 0 0)
theorem pow64_le (i : Nat) (h : i <= 2) : (64 : Int) ^ i <= 4096 := by
 have h2 : (64 : Nat) ^ i <= 64 ^ 2 := Nat.pow_le_pow_right (by omega) h
 have e : (64 : Nat) ^ 2 = 4096 := by decide
 have h3 : ((64 : Int) ^ i) = ((64 ^ i : Nat) : Int) := by simp
 omega
theorem leadF_bd (N x : Int) (h0 : 0 <= x) (h1 : x < 256) : 0 <= leadF N x /\ leadF N x < 256 := by unfold leadF; (repeat' split) <;> omega
theorem rowHave_le (l : List Int) (h : 0 < l.length) : rowHave l <= l.length := by
 unfold rowHave
 have := contF_len (bdN (l.getD 0 0) - 2).toNat (l.drop 2)
 simp only [List.length_drop] at this
 (repeat' split) <;> omega
def V8R (l r : List Int) (a0 : Int) (w0 : World) (k : Nat) (q8 q49 : Value) (wr : World) : Prop :=
 ∃ (i : Nat) (a : Int), wr = w0 /\ q49 = .int .i64 (i : Int) /\ q8 = .int .i64 a /\ i <= r.length /\ r.length - i <= k /\ (r.take i).foldl goOn a0 = a /\ 0 <= a /\ a < 256 * 64 ^ i
theorem first8_any (D : Nat -> Prop) (A : Option Addr) (n c : Nat) (l : List Int) (w : World) (hl : Bts w D A n l) (hb : Byt l) (hn : n <= 2147483648) (h0 : 0 < n) (hcap : n <= c) :
    Calls Tryz.prog 56 #[.agg #[], .slice A n c] w fun e w' => e = .returned (.tuple #[.int .i64 (atom8 l), .int .i64 (size8 l)]) /\ Below w.heap.size w w' := by
  have hle1 : l.length <= n := Nat.le_of_eq hl.len
  have hle2 : n <= l.length := Nat.le_of_eq hl.len.symm
  obtain ⟨ad, rfl, hD, hc0⟩ := hl.at_ h0
  obtain ⟨x0, hx0⟩ : ∃ x, l.getD 0 0 = x := ⟨_, rfl⟩
  have hx0b := hb.at_ 0
  rw [hx0, add_zero] at hc0
  rw [hx0] at hx0b
  obtain ⟨N, hN⟩ : ∃ x, bdN x0 = x := ⟨_, rfl⟩
  obtain ⟨H, hH⟩ : ∃ x, rowHave l = x := ⟨_, rfl⟩
  have hNb := bdN_le x0
  rw [hN] at hNb
  have hNx := Lib.hid hN
  have HHx := Lib.hid hH
  have hrow := row_any D (some ad) n c l (w.alloc (.cells #[] 126)) (Reads.below hl ((Below.refl _ w).alloc (Nat.le_refl _) _)) hb hn h0
  rw [hx0, hN, hH] at hrow
  have hfa : atom8 l = if rawF l = true then -1 - x0 else valF8 l := by unfold atom8; rw [hx0]
  have hfs : size8 l = if rawF l = true then 1 else N := by unfold size8; rw [hx0, hN]
  have hraw : rawF l = decide (N = 0 \/ H < N) := by unfold rawF; rw [hx0, hN, hH]
  have HA := Lib.hid hfa
  have HS := Lib.hid hfs
  have HR := Lib.hid hraw
  have HW := Lib.hid hrow
  clear hfa hfs hraw hrow
  obtain ⟨hN0, hN4⟩ := hNb
  clear hN hH
  have hW : Below w.heap.size w (w.alloc (.cells #[] 126)) := (Below.refl _ w).alloc (Nat.le_refl _) _
  have hc0' := cell_keep hW hc0
  by_cases hr : N = 0 \/ H < N
  · have hfa : atom8 l = -1 - x0 := by rw [HA.out, HR.out, if_pos (by simpa using hr)]
    have hfs : size8 l = 1 := by rw [HS.out, HR.out, if_pos (by simpa using hr)]
    have HA2 := Lib.hid hfa
    have HS2 := Lib.hid hfs
    clear hfa hfs
    have hr2 : (N == 0) = true \/ ((N == 0) = false /\ H < N) := by
      cases h : (N == 0)
      · rw [beq_eq_false_iff_ne] at h; exact .inr ⟨rfl, by omega⟩
      · exact .inl rfl
    clear hr
    rcases hr2 with hr2 | ⟨hr2, hr3⟩
    all_goals
      go_enter Tryz.func56, Tryz.ntmps56
      go_wp2_with fail
      refine (HW.out).mono ?_
      rintro e w1 ⟨rfl, rfl⟩
      go_wp2_with fail
      go_ret2
      exact ⟨ret_2 (by rw [HA2.out]) (by rw [HS2.out]), (Below.refl _ w).alloc (Nat.le_refl _) _⟩
  · have hfa : atom8 l = valF8 l := by rw [HA.out, HR.out, if_neg (by simpa using hr)]
    have hfs : size8 l = N := by rw [HS.out, HR.out, if_neg (by simpa using hr)]
    have HA2 := Lib.hid hfa
    have HS2 := Lib.hid hfs
    clear hfa hfs
    have q1 : (N == 0) = false := by rw [beq_eq_false_iff_ne]; omega
    have q2 : ¬ H < N := by omega
    have hval : valF8 l = ((l.drop 1).take (N - 1).toNat).foldl goOn (leadF N x0) := by unfold valF8; rw [hx0, hNx.out]
    have HV := Lib.hid hval
    have HH : Hid (H <= n) := Lib.hid (by rw [<- HHx.out]; have := rowHave_le l (by omega); omega)
    clear hval hx0
    obtain ⟨r, hrr⟩ : ∃ r, (l.drop 1).take (N - 1).toNat = r := ⟨_, rfl⟩
    go_enter Tryz.func56, Tryz.ntmps56
    go_wp2_with fail
    refine (HW.out).mono ?_
    rintro e w1 ⟨rfl, rfl⟩
    have a31 := i64_and31 x0 hx0b.1 hx0b.2
    have a15 := i64_and15 x0 hx0b.1 hx0b.2
    have a7 := i64_and7 x0 hx0b.1 hx0b.2
    go_upto_block 0 with fail
    go_cut [8] (fun s8 wx => s8 = .int .i64 (leadF N x0) /\ wx = w.alloc (.cells #[] 126))
    case first =>
      go_wp2_with fail
      all_goals
        go_light
        go_meet
        refine ⟨congrArg (Value.int .i64) ?_, rfl⟩
        (try simp only [beq_iff_eq, beq_eq_false_iff_ne, ne_eq] at *)
        unfold leadF
        (repeat' split) <;> first | rfl | omega
    case rest =>
      obtain ⟨rfl, rfl⟩ := hcut
      clear a31 a15 a7 hc0 hc0'
      have hNn : N <= n := by have := HH.out; omega
      have q3 : (1 : Int) <= N := by simp only [beq_eq_false_iff_ne, ne_eq] at q1; omega
      have q4 : N <= (c : Int) := by omega
      obtain ⟨M, rfl⟩ : ∃ M : Nat, N = (M : Int) + 1 := ⟨(N - 1).toNat, by omega⟩
      have hr' : (l.drop 1).take M = r := by rw [<- hrr]; congr 1; omega
      have hrl : r.length = M := by rw [<- hr', List.length_take, List.length_drop]; omega
      have hrl1 : r.length <= M := Nat.le_of_eq hrl
      have hrl2 : M <= r.length := Nat.le_of_eq hrl.symm
      have hrb : Byt r := by rw [<- hr']; exact (hb.drop 1).take M
      have hl1 := Reads.below hl hW
      have HRR := Lib.hid hr'
      clear hrr hr' hrl
      have q5 : 0 <= (M : Int) + 1 := by omega
      have q6 : ((M : Int) + 1).toNat - 1 = M := by omega
      by_cases hc1 : c = 1
      all_goals
        go_wp2_with fail
        go_loopg [8, 49] M (fun k q8 q49 wr => V8R l r (leadF ((M : Int) + 1) x0) (w.alloc (.cells #[] 126)) k q8 q49 wr)
        case atStart =>
          have := leadF_bd ((M : Int) + 1) x0 hx0b.1 hx0b.2
          exact ⟨0, _, rfl, rfl, rfl, by omega, by omega, rfl, this.1, by simpa using this.2⟩
        case round =>
          obtain ⟨i, a, rfl, rfl, rfl, hi, hik, hfo, ha0, ha1⟩ := hrel
          have HFO := Lib.hid hfo
          clear hfo
          by_cases hlt : i < M
          · first
              | (exfalso; omega)
              | (obtain ⟨ad', hade, _, hci⟩ := Bts.at_ hl1 (show 1 + i < n by omega)
                 injection hade with hade
                 subst hade
                 rw [add_pos ad (1 + i) (by omega), <- Nat.add_assoc] at hci
                 obtain ⟨x, hx⟩ : ∃ x, r.getD i 0 = x := ⟨_, rfl⟩
                 have hxl : l.getD (1 + i) 0 = x := by
                   rw [<- hx, <- HRR.out, List.getD_eq_getElem?_getD, List.getD_eq_getElem?_getD, List.getElem?_take, if_pos hlt, List.getElem?_drop]
                 have hxb := hrb.at_ i
                 rw [hx] at hxb
                 rw [hxl] at hci
                 have hsn : (r.take (i + 1)).foldl goOn (leadF ((M : Int) + 1) x0) = a * 64 + x % 64 := by
                   rw [List.take_succ_eq_append_getElem (by omega), List.foldl_append, HFO.out, <- hx, List.getD_eq_getElem?_getD, List.getElem?_eq_getElem (by omega)]
                   rfl
                 have HSN := Lib.hid hsn
                 clear hsn hx hxl
                 have hp := pow64_le i (by omega)
                 have hab : a < 33554432 := by omega
                 have hm : 0 <= x % 64 /\ x % 64 < 64 := by omega
                 have k1 := u8_and63 x hxb.1 hxb.2
                 have k2 := i64_or6 a (x % 64) ha0 hab hm.1 hm.2
                 go_wp2_with fail
                 go_roundg (M - (i + 1))
                 case measure => omega
                 case rel =>
                   refine ⟨i + 1, _, rfl, by go_num, rfl, by omega, by omega, ?_, ?_, ?_⟩
                   · exact HSN.out
                   · omega
                   · rw [Int.pow_succ]; omega)
          · have hiM : i = M := by omega
            subst hiM
            have hfo := HFO.out
            rw [List.take_of_length_le (by omega)] at hfo
            have HFO2 := Lib.hid hfo
            clear hfo
            go_wp2_with fail
            go_ret2
            refine ⟨ret_2 ?_ (by rw [HS2.out]), hW⟩
            rw [HA2.out, HV.out, show ((i : Int) + 1 - 1).toNat = i by omega, HRR.out]
            exact HFO2.out.symm
end Go.Proofs.YtflhiohjikgedaaGreatDoor
