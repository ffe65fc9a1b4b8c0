/-
  The walks of package codec, first part: what the first atom of some bytes is (UTF-8's rows).
-/
import Derived.Test.YtcdhfmkfkhhnoaaGreatLKit
set_option linter.unusedSimpArgs false
set_option linter.unusedVariables false
namespace Go.Proofs.YtcdhfmkfkhhnoaaGreat
open Go.RowKit

/-! ### bytes -/
def Byt (l : List Int) : Prop := ∀ x ∈ l, 0 ≤ x ∧ x < 256
theorem Byt.tail {a : Int} {l : List Int} (h : Byt (a :: l)) : Byt l := fun x hx => h x (List.mem_cons_of_mem _ hx)
theorem Byt.drop {l : List Int} (h : Byt l) (k : Nat) : Byt (l.drop k) := fun x hx => h x (List.mem_of_mem_drop hx)
theorem Byt.take {l : List Int} (h : Byt l) (k : Nat) : Byt (l.take k) := fun x hx => h x (List.mem_of_mem_take hx)
theorem Byt.at_ {l : List Int} (h : Byt l) (k : Nat) : 0 ≤ l.getD k 0 ∧ l.getD k 0 < 256 := by
  rw [List.getD_eq_getElem?_getD]
  cases e : l[k]? with
  | none => simp
  | some v => simpa using h v (List.mem_of_getElem? e)
/-- a slice of bytes -/
def Bts (w : World) (D : Nat → Prop) (A : Option Addr) (n : Nat) (l : List Int) : Prop := Reads w D 1 A n (l.map (Value.int .u8))
theorem Bts.len {w : World} {D : Nat → Prop} {A : Option Addr} {n : Nat} {l : List Int} (h : Bts w D A n l) : l.length = n := by have := h.1; simpa using this
theorem Bts.at_ {w : World} {D : Nat → Prop} {A : Option Addr} {n : Nat} {l : List Int} {k : Nat} (h : Bts w D A n l) (hk : k < n) : ∃ ad, A = some ad ∧ D ad.block ∧ w.cell? (ad.add k) = some (.int .u8 (l.getD k 0)) := by
  obtain ⟨ad, u, e, hd, hx, hc⟩ := Reads.at_ h hk
  refine ⟨ad, e, hd, ?_⟩
  rw [hc, List.getD_eq_getElem?_getD]
  rw [List.getElem?_map] at hx
  cases hl : l[k]? with
  | none => rw [hl] at hx; cases hx
  | some v => rw [hl] at hx; simp at hx; simp [hx]

/-! ### UTF-8 -/
/-- of a first byte: how many bytes its row has, where the second one must lie -/
def bdN (c : Int) : Int := if c < 128 then 1 else if c < 194 then 0 else if c < 224 then 2 else if c < 240 then 3 else if c ≤ 244 then 4 else 0
def bdLo (c : Int) : Int := if c < 194 then 0 else if c < 224 then 128 else if c = 224 then 160 else if c = 240 then 144 else if c ≤ 244 then 128 else 0
def bdHi (c : Int) : Int := if c < 194 then 0 else if c < 224 then 191 else if c = 237 then 159 else if c = 244 then 143 else if c < 244 then 191 else 0
theorem ret_3 {j k m : IntKind} {a b c x y z : Int} (h1 : a = x) (h2 : b = y) (h3 : c = z) : Ending.returned (.tuple #[.int j a, .int k b, .int m c]) = .returned (.tuple #[.int j x, .int k y, .int m z]) := by rw [h1, h2, h3]
theorem ret_2 {j k : IntKind} {a b x y : Int} (h1 : a = x) (h2 : b = y) : Ending.returned (.tuple #[.int j a, .int k b]) = .returned (.tuple #[.int j x, .int k y]) := by rw [h1, h2]
set_option maxRecDepth 100000 in
set_option maxHeartbeats 1000000 in
theorem bounds_any (c : Int) (w : World) (h0 : 0 ≤ c) (h1 : c < 256) :
    Calls Tryz.prog 143 #[.int .u8 c] w fun e w' => e = .returned (.tuple #[.int .i64 (bdN c), .int .u8 (bdLo c), .int .u8 (bdHi c)]) ∧ w = w' := by
  go_enter Tryz.func143, Tryz.ntmps143
  go_wp2
  all_goals
    go_light
    go_ret3
    refine ⟨ret_3 ?_ ?_ ?_, rfl⟩
    all_goals
      first | show _ = bdN c | show _ = bdLo c | show _ = bdHi c
      simp only [bdN, bdLo, bdHi]
      (try simp only [beq_iff_eq, beq_eq_false_iff_ne, ne_eq] at *)
      (repeat' split) <;> first | rfl | omega

theorem u8_and192 (x : Int) (h0 : 0 ≤ x) (h1 : x < 256) : bits .and .u8 x 192 = x - x % 64 := by
  have h : ∀ i : Fin 256, bits .and .u8 (i.val : Int) 192 = (i.val : Int) - (i.val : Int) % 64 := by decide +kernel
  have := h ⟨x.toNat, by omega⟩
  simpa [Int.toNat_of_nonneg h0] using this
/-- how many of the bytes that come next go on with a row, at most m -/
def contF : Nat → List Int → Nat
  | 0, _ => 0
  | _ + 1, [] => 0
  | m + 1, c :: r => if 128 ≤ c ∧ c < 192 then contF m r + 1 else 0
theorem contF_le (m : Nat) (l : List Int) : contF m l ≤ m := by
  induction m generalizing l with
  | zero => simp [contF]
  | succ m ih => cases l with
    | nil => simp [contF]
    | cons c r => simp only [contF]; split <;> simp [ih]
theorem contF_len (m : Nat) (l : List Int) : contF m l ≤ l.length := by
  induction m generalizing l with
  | zero => simp [contF]
  | succ m ih => cases l with
    | nil => simp [contF]
    | cons c r => simp only [contF]; split <;> simp [ih]
def rowHave (l : List Int) : Int :=
  if bdN (l.getD 0 0) < 2 then bdN (l.getD 0 0)
  else if l.length < 2 ∨ l.getD 1 0 < bdLo (l.getD 0 0) ∨ bdHi (l.getD 0 0) < l.getD 1 0 then 1
  else 2 + contF (bdN (l.getD 0 0) - 2).toNat (l.drop 2)
theorem drop_getD' (l : List Int) (m : Nat) (h : m < l.length) : l.drop m = l.getD m 0 :: l.drop (m + 1) := by
  rw [List.drop_eq_getElem_cons h, List.getD_eq_getElem?_getD, List.getElem?_eq_getElem h]; rfl
def RowR (l : List Int) (N : Int) (n : Nat) (w0 : World) (k : Nat) (q : Value) (wr : World) : Prop :=
  ∃ h : Nat, wr = w0 ∧ q = .int .i64 (h : Int) ∧ 2 ≤ h ∧ (h : Int) ≤ N ∧ h ≤ n ∧ N ≤ h + k ∧ 2 + contF (N - 2).toNat (l.drop 2) = h + contF (N - h).toNat (l.drop h)
theorem add_zero (a : Addr) : a.add 0 = a := by simp [Addr.add]
theorem bdN_le (c : Int) : 0 ≤ bdN c ∧ bdN c ≤ 4 := by unfold bdN; (repeat' split) <;> omega
set_option maxRecDepth 100000 in
set_option maxHeartbeats 2000000 in
theorem row_any (D : Nat → Prop) (A : Option Addr) (n c : Nat) (l : List Int) (w : World) (hl : Bts w D A n l) (hb : Byt l) (hn : n ≤ 2147483648) (h0 : 0 < n) :
    Calls Tryz.prog 142 #[.slice A n c] w fun e w' => e = .returned (.tuple #[.int .i64 (rowHave l), .int .i64 (bdN (l.getD 0 0))]) ∧ w = w' := by
  have hle1 : l.length ≤ n := Nat.le_of_eq hl.len
  have hle2 : n ≤ l.length := Nat.le_of_eq hl.len.symm
  obtain ⟨ad, rfl, hD, hc0⟩ := hl.at_ h0
  obtain ⟨x0, hx0⟩ : ∃ x, l.getD 0 0 = x := ⟨_, rfl⟩
  have hx0b := hb.at_ 0
  rw [hx0, add_zero] at hc0
  rw [hx0] at hx0b
  obtain ⟨N, hN⟩ : ∃ x, bdN x0 = x := ⟨_, rfl⟩
  obtain ⟨lo, hlo⟩ : ∃ x, bdLo x0 = x := ⟨_, rfl⟩
  obtain ⟨hi, hhi⟩ : ∃ x, bdHi x0 = x := ⟨_, rfl⟩
  have hNb := bdN_le x0
  rw [hN] at hNb
  have hbn := fun w => bounds_any x0 w hx0b.1 hx0b.2
  rw [hN, hlo, hhi] at hbn
  have hfin : rowHave l = if N < 2 then N else if l.length < 2 ∨ l.getD 1 0 < lo ∨ hi < l.getD 1 0 then 1 else 2 + contF (N - 2).toNat (l.drop 2) := by
    unfold rowHave
    rw [hx0, hN, hlo, hhi]
  rw [hx0, hN]
  have HF := Lib.hid hfin
  clear hfin hN hlo hhi hx0
  have HB := Lib.hid hbn
  clear hbn
  obtain ⟨hN0, hN4⟩ := hNb
  by_cases hN2 : N < 2
  · go_enter Tryz.func142, Tryz.ntmps142
    go_wp2_with fail
    refine (HB.out _).mono ?_
    rintro e w1 ⟨rfl, rfl⟩
    go_wp2_with fail
    go_ret2
    exact ⟨ret_2 (by rw [HF.out, if_pos (by omega)]) rfl, rfl⟩
  · by_cases hlen : n < 2
    · have hsp : (n : Int) < 2 := by omega
      go_enter Tryz.func142, Tryz.ntmps142
      go_wp2_with fail
      refine (HB.out _).mono ?_
      rintro e w1 ⟨rfl, rfl⟩
      go_wp2_with fail
      go_ret2
      exact ⟨ret_2 (by rw [HF.out, if_neg (by omega), if_pos (.inl (by omega))]) rfl, rfl⟩
    · obtain ⟨ad', hade, _, hc1⟩ := hl.at_ (show 1 < n by omega)
      injection hade with hade
      subst hade
      rw [add_pos ad 1 (by omega)] at hc1
      obtain ⟨x1, hx1⟩ : ∃ x, l.getD 1 0 = x := ⟨_, rfl⟩
      have hx1b := hb.at_ 1
      rw [hx1] at hc1 hx1b
      have HX := Lib.hid hx1
      clear hx1
      have hsp : ¬ (n : Int) < 2 := by omega
      by_cases hlo : x1 < lo
      · go_enter Tryz.func142, Tryz.ntmps142
        go_wp2_with fail
        refine (HB.out _).mono ?_
        rintro e w1 ⟨rfl, rfl⟩
        go_wp2_with fail
        go_ret2
        exact ⟨ret_2 (by rw [HF.out, if_neg (by omega), if_pos (.inr (.inl (by rw [HX.out]; exact hlo)))]) rfl, rfl⟩
      · by_cases hhi : hi < x1
        · go_enter Tryz.func142, Tryz.ntmps142
          go_wp2_with fail
          refine (HB.out _).mono ?_
          rintro e w1 ⟨rfl, rfl⟩
          go_wp2_with fail
          go_ret2
          exact ⟨ret_2 (by rw [HF.out, if_neg (by omega), if_pos (.inr (.inr (by rw [HX.out]; exact hhi)))]) rfl, rfl⟩
        · go_enter Tryz.func142, Tryz.ntmps142
          go_wp2_with fail
          refine (HB.out _).mono ?_
          rintro e w1 ⟨rfl, rfl⟩
          go_wp2_with fail
          have hfin : rowHave l = 2 + contF (N - 2).toNat (l.drop 2) := by
            rw [HF.out, if_neg (by omega), if_neg (by rw [HX.out]; omega)]
          have HF := Lib.hid hfin
          clear hfin hc1
          go_loopg [7] (N - 2).toNat (fun k q wr => RowR l N n w k q wr)
          case atStart => exact ⟨2, rfl, rfl, Nat.le_refl _, by omega, by omega, by omega, rfl⟩
          case round =>
            obtain ⟨h, rfl, rfl, h2, hhn, hhl, hk, hct⟩ := hrel
            have HC := Lib.hid hct
            clear hct
            by_cases c1 : (h : Int) < N
            · by_cases c2 : h < n
              · obtain ⟨ad', hade, _, hch⟩ := hl.at_ c2
                injection hade with hade
                subst hade
                obtain ⟨x, hx⟩ : ∃ x, l.getD h 0 = x := ⟨_, rfl⟩
                have hxb := hb.at_ h
                rw [hx] at hch hxb
                have hand := u8_and192 x hxb.1 hxb.2
                have hdr : l.drop h = x :: l.drop (h + 1) := by rw [← hx]; exact drop_getD' l h (by omega)
                have HD := Lib.hid hdr
                clear hx hdr
                by_cases c3 : 128 ≤ x ∧ x < 192
                · have c4 : (bits .and .u8 x 192 == 128) = true := by rw [beq_iff_eq, hand]; omega
                  clear hand
                  go_wp2_with fail
                  go_roundg (N - (h + 1)).toNat
                  case measure => omega
                  case rel =>
                    refine ⟨h + 1, rfl, by go_num, by omega, by omega, by omega, by omega, ?_⟩
                    rw [HC.out, HD.out, show (N - (h : Int)).toNat = (N - ((h + 1 : Nat) : Int)).toNat + 1 by omega, contF, if_pos c3]
                    omega
                · have c4 : (bits .and .u8 x 192 == 128) = false := by rw [beq_eq_false_iff_ne, hand]; omega
                  clear hand
                  have hz : contF (N - h).toNat (l.drop h) = 0 := by
                    rw [HD.out]
                    cases (N - (h : Int)).toNat <;> simp [contF]
                    omega
                  have HZ := Lib.hid hz
                  clear hz
                  go_wp2_with fail
                  go_ret2
                  exact ⟨ret_2 (by have := HC.out; have := HZ.out; rw [HF.out]; omega) rfl, rfl⟩
              · have hz : contF (N - h).toNat (l.drop h) = 0 := by
                  rw [List.drop_eq_nil_of_le (by omega)]
                  cases (N - (h : Int)).toNat <;> simp [contF]
                have HZ := Lib.hid hz
                clear hz
                have c3 : ¬ (h : Int) < n := by omega
                go_wp2_with fail
                go_ret2
                exact ⟨ret_2 (by have := HC.out; have := HZ.out; rw [HF.out]; omega) rfl, rfl⟩
            · have hz : contF (N - h).toNat (l.drop h) = 0 := by
                rw [show (N - (h : Int)).toNat = 0 by omega]
                rfl
              have HZ := Lib.hid hz
              clear hz
              go_wp2_with fail
              go_ret2
              exact ⟨ret_2 (by have := HC.out; have := HZ.out; rw [HF.out]; omega) rfl, rfl⟩
end Go.Proofs.YtcdhfmkfkhhnoaaGreat
