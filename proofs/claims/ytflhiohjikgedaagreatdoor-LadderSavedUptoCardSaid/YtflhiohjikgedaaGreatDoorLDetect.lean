/-
  Byte order marks: codec.Detect, codec.Mark; bytes.Equal, bytes.HasPrefix.
-/
import Derived.Test.YtflhiohjikgedaaGreatDoorLSums
import Derived.Test.YtflhiohjikgedaaGreatDoorLStep
import Derived.Laws.BytesArg
import Derived.Laws.BytesString
set_option linter.unusedSimpArgs false
set_option linter.unusedVariables false
set_option maxRecDepth 100000
set_option maxHeartbeats 32000000
namespace Go.Proofs.YtflhiohjikgedaaGreatDoor
open Go.RowKit
def DetQ (e : Ending) : Prop := ∃ a b : Int, e = .returned (.tuple #[.int .i64 a, .int .i64 b])
theorem detect_any (D : Nat -> Prop) (A : Option Addr) (n c : Nat) (l : List Int) (w : World) (hl : Bts w D A n l) (hn : n <= 2147483648) :
  Calls Tryz.prog 28 #[.slice A n c] w fun e w' => DetQ e /\ w = w' := by
 rcases Nat.lt_or_ge n 2 with h2 | h2
 ·have q1 : ((3 : Int) <= (n : Int)) = False := by simp; omega
  have q2 : ((2 : Int) <= (n : Int)) = False := by simp; omega
  go_enter Tryz.func28, Tryz.ntmps28
  go_wp2_with fail
  go_ret2
  exact ⟨⟨_, _, rfl⟩, rfl⟩
 ·obtain ⟨ad, rfl, _, hc0⟩ := hl.at_ (show 0 < n by omega)
  obtain ⟨ad', hade, _, hc1⟩ := hl.at_ (show 1 < n by omega)
  injection hade with hade
  subst hade
  rw [add_zero] at hc0
  rw [add_pos ad 1 (by omega)] at hc1
  obtain ⟨x, hx⟩ : ∃ x, l.getD 0 0 = x := ⟨_, rfl⟩
  obtain ⟨y, hy⟩ : ∃ y, l.getD 1 0 = y := ⟨_, rfl⟩
  rw [hx] at hc0
  rw [hy] at hc1
  have HC2 : Hid (2 < n -> ∃ z, w.cell? ⟨ad.block, ad.off + 2, none⟩ = some (.int .u8 z)) := Lib.hid (fun h => by
   obtain ⟨ad', hade, _, hc2⟩ := hl.at_ h
   injection hade with hade
   subst hade
   rw [add_pos ad 2 (by omega)] at hc2
   exact ⟨_, hc2⟩)
  have q2 : ((2 : Int) <= (n : Int)) = True := by simp; omega
  have i0 : (0 : Int) < n := by omega
  have i1 : (1 : Int) < n := by omega
  clear hx hy hl
  have first : ∀ (bx : Int) (k : Int), True := fun _ _ => trivial
  clear first
  go_enter Tryz.func28, Tryz.ntmps28
  go_upto_region 1 with fail
  go_cut [4] (fun s wx => (∃ b, s = .bool b) /\ wx = w)
  case first =>
   by_cases h3 : n < 3
   ·have q1 : ((3 : Int) <= (n : Int)) = False := by simp; omega
    go_wp2_with fail
    go_meet
    exact ⟨⟨_, rfl⟩, rfl⟩
   ·have q1 : ((3 : Int) <= (n : Int)) = True := by simp; omega
    obtain ⟨z, hc2⟩ := HC2.out (by omega)
    have i2 : (2 : Int) < n := by omega
    cases ex : (x == 239)
    ·go_wp2_with fail
     go_meet
     exact ⟨⟨_, rfl⟩, rfl⟩
    ·cases ey : (y == 187)
     ·go_wp2_with fail
      go_meet
      exact ⟨⟨_, rfl⟩, rfl⟩
     ·go_wp2_with fail
      go_meet
      exact ⟨⟨_, rfl⟩, rfl⟩
  case rest =>
   obtain ⟨⟨b, rfl⟩, rfl⟩ := hcut
   cases b
   rotate_left
   ·go_wp2_with fail
    go_ret2
    exact ⟨⟨_, _, rfl⟩, rfl⟩
   go_upto_region 3 with fail
   go_cut [26] (fun s wx => (∃ b, s = .bool b) /\ wx = wc)
   case first =>
    cases ex : (x == 255)
    ·go_wp2_with fail
     go_meet
     exact ⟨⟨_, rfl⟩, rfl⟩
    ·go_wp2_with fail
     go_meet
     exact ⟨⟨_, rfl⟩, rfl⟩
   case rest =>
    obtain ⟨⟨b, rfl⟩, rfl⟩ := hcut
    cases b
    rotate_left
    ·go_wp2_with fail
     go_ret2
     exact ⟨⟨_, _, rfl⟩, rfl⟩
    go_upto_region 5 with fail
    go_cut [42] (fun s wx => (∃ b, s = .bool b) /\ wx = wc)
    case first =>
     cases ex : (x == 254)
     ·go_wp2_with fail
      go_meet
      exact ⟨⟨_, rfl⟩, rfl⟩
     ·go_wp2_with fail
      go_meet
      exact ⟨⟨_, rfl⟩, rfl⟩
    case rest =>
     obtain ⟨⟨b, rfl⟩, rfl⟩ := hcut
     cases b
     all_goals
      go_wp2_with fail
      go_ret2
      exact ⟨⟨_, _, rfl⟩, rfl⟩
def markL (enc : Int) : List Int := if enc = 1 then [239, 187, 191] else if enc = 2 then [255, 254] else if enc = 3 then [254, 255] else []
theorem new_bts (w : World) (l : List Int) : Bts (w.alloc (.cells (l.map (Value.int .u8)).toArray 5)) (fun b => w.heap.size <= b) (some ⟨w.heap.size, 0, none⟩) l.length l := by
 refine ⟨by simp, fun _ => ⟨_, rfl, Nat.le_refl _, fun j u hj => ?_⟩⟩
 have := (Blk.new w 5 (l.map (Value.int .u8)).toArray).cell j
 rw [add_cell]
 simp only [Nat.zero_add]
 rw [this]
 simpa using hj
theorem mark_any (enc : Int) (w : World) : Calls Tryz.prog 31 #[.int .i64 enc] w fun e w' => ∃ A c, e = .returned (.slice A (markL enc).length c) /\ Bts w' (fun b => w.heap.size <= b) A (markL enc).length (markL enc) /\ Below w.heap.size w w' := by
 by_cases h1 : enc = 1
 ·subst h1
  go_enter Tryz.func31, Tryz.ntmps31
  go_wp2_with fail
  go_ret
  exact ⟨_, _, rfl, new_bts w [239, 187, 191], balloc (Below.refl _ _)⟩
 by_cases h2 : enc = 2
 ·subst h2
  go_enter Tryz.func31, Tryz.ntmps31
  go_wp2_with fail
  go_ret
  exact ⟨_, _, rfl, new_bts w [255, 254], balloc (Below.refl _ _)⟩
 by_cases h3 : enc = 3
 ·subst h3
  go_enter Tryz.func31, Tryz.ntmps31
  go_wp2_with fail
  go_ret
  exact ⟨_, _, rfl, new_bts w [254, 255], balloc (Below.refl _ _)⟩
 have e : markL enc = [] := by unfold markL; rw [if_neg h1, if_neg h2, if_neg h3]
 rw [e]
 have q1 : (enc == 1) = false := by rw [beq_eq_false_iff_ne]; exact h1
 have q2 : (enc == 2) = false := by rw [beq_eq_false_iff_ne]; exact h2
 have q3 : (enc == 3) = false := by rw [beq_eq_false_iff_ne]; exact h3
 clear e h1 h2 h3
 go_enter Tryz.func31, Tryz.ntmps31
 go_wp2_with fail
 go_ret
 exact ⟨_, _, rfl, Reads.none_, Below.refl _ _⟩
theorem bytes_str (D : Nat -> Prop) (A : Option Addr) (n c : Nat) (l : List Int) (w : World) (hl : Bts w D A n l) : (convert 22 9 (.slice A n c)).run Tryz.prog w = .ok (.string (strOfNums l)) w := by
 have hle := hl.len
 rcases Nat.eq_zero_or_pos n with h0 | h0
 ·subst h0
  have e : l = [] := List.eq_nil_of_length_eq_zero hle
  subst e
  rw [run_convert_bytes_string w _ _ 5 _ 0 c Tryz.underlying22 Tryz.underlying5 Tryz.underlying9]
  cases A <;> simp [Conv.bytesToString, loadCells]
  all_goals rfl
 ·obtain ⟨ad, rfl, _, hc⟩ := hl.at_ h0
  rw [add_zero] at hc
  have hs := cell_spot hc
  rw [hs]
  refine run_convert_bytes_arg w _ 5 Tryz.underlying22 Tryz.underlying5 ad.block ad.off n c l hle (fun i hi => ?_) _ Tryz.underlying9
  obtain ⟨ad', e, _, h⟩ := hl.at_ hi
  injection e with e
  subst e
  rw [hs, add_cell] at h
  exact h
theorem str_inj (l k : List Int) (h1 : Byt l) (h2 : Byt k) : ((strOfNums l).toList == (strOfNums k).toList) = decide (l = k) := by
 rw [ByteArray.toList_eq, ByteArray.toList_eq]
 have hd : ∀ l : List Int, (strOfNums l).data.toList = l.map fun n => UInt8.ofNat n.toNat := fun l => by simp [strOfNums]
 rw [hd, hd]
 by_cases h : l = k
 ·subst h
  simp
 ·rw [decide_eq_false h, beq_eq_false_iff_ne]
  intro e
  refine h (List.ext_getElem ?_ fun i hi hj => ?_)
  ·simpa using congrArg List.length e
  ·have h3 : (l.map fun n => UInt8.ofNat n.toNat)[i]? = (k.map fun n => UInt8.ofNat n.toNat)[i]? := by rw [e]
   rw [List.getElem?_map, List.getElem?_map, List.getElem?_eq_getElem hi, List.getElem?_eq_getElem hj] at h3
   simp only [Option.map_some, Option.some.injEq] at h3
   have h4 := congrArg UInt8.toNat h3
   have b1 := h1 _ (List.getElem_mem hi)
   have b2 := h2 _ (List.getElem_mem hj)
   simp only [UInt8.toNat_ofNat'] at h4
   omega
theorem equal_any (D D' : Nat -> Prop) (A B : Option Addr) (n c m d : Nat) (l k : List Int) (w : World) (hl : Bts w D A n l) (hk : Bts w D' B m k) (h1 : Byt l) (h2 : Byt k) :
  Calls Tryz.prog 57 #[.slice A n c, .slice B m d] w fun e w' => e = .returned (.bool (decide (l = k))) /\ w = w' := by
 have c1 := bytes_str D A n c l w hl
 have c2 := bytes_str D' B m d k w hk
 have hi := str_inj l k h1 h2
 obtain ⟨s, hs⟩ : ∃ s, strOfNums l = s := ⟨_, rfl⟩
 obtain ⟨t, ht⟩ : ∃ t, strOfNums k = t := ⟨_, rfl⟩
 rw [hs] at c1 hi
 rw [ht] at c2 hi
 obtain ⟨b, hb⟩ : ∃ b, decide (l = k) = b := ⟨_, rfl⟩
 rw [hb] at hi ⊢
 clear hs ht hb hl hk h1 h2
 go_enter Tryz.func57, Tryz.ntmps57
 go_wp2_with fail
 go_ret
 exact ⟨rfl, rfl⟩
def preF (k l : List Int) : Bool := decide (l.take k.length = k)
theorem prefix_any (D D' : Nat -> Prop) (A B : Option Addr) (n c m d : Nat) (l k : List Int) (w : World) (hl : Bts w D A n l) (hk : Bts w D' B m k) (h1 : Byt l) (h2 : Byt k) (hc : n <= c) :
  Calls Tryz.prog 30 #[.slice A n c, .slice B m d] w fun e w' => e = .returned (.bool (preF k l)) /\ w = w' := by
 have hkl := hk.len
 have hll := hl.len
 by_cases h : m <= n
 ·have q1 : ((m : Int) <= (n : Int)) = True := by simp; omega
  have hE := equal_any D D' A B m c m d (l.take m) k w (by
   have := Reads.take hl h
   rw [Nat.mul_one, <- List.map_take] at this
   exact this) hk (fun x hx => h1 x (List.mem_of_mem_take hx)) h2
  have e : preF k l = decide (l.take m = k) := by unfold preF; rw [hkl]
  rw [e]
  obtain ⟨b, hb⟩ : ∃ b, decide (l.take m = k) = b := ⟨_, rfl⟩
  rw [hb] at hE ⊢
  have HE := Lib.hid hE
  clear hE hb e hl hk hkl hll
  go_enter Tryz.func30, Tryz.ntmps30
  go_wp2_with fail
  refine (HE.out).mono ?_
  rintro e w1 ⟨rfl, rfl⟩
  go_wp2_with fail
  go_ret
  exact ⟨rfl, rfl⟩
 ·have q1 : ((m : Int) <= (n : Int)) = False := by simp; omega
  have e : preF k l = false := by
   unfold preF
   rw [decide_eq_false]
   intro e
   have := congrArg List.length e
   rw [List.length_take] at this
   omega
  rw [e]
  clear e hkl hll
  go_enter Tryz.func30, Tryz.ntmps30
  go_wp2_with fail
  go_ret
  exact ⟨rfl, rfl⟩
end Go.Proofs.YtflhiohjikgedaaGreatDoor
