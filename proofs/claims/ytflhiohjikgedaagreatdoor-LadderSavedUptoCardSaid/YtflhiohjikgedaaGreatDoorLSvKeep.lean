/-
  What LadderSaved stands on: twin into an own row, among as a value, what stays behind save.Open.
-/
import Derived.Test.YtflhiohjikgedaaGreatDoorLOpen
import Derived.Laws.AppendOwnNone
import Derived.Test.YtflhiohjikgedaaGreatDoorLWalk2
import Derived.Test.YtflhiohjikgedaaGreatDoorLSvLaw
import Derived.Test.YtflhiohjikgedaaGreatDoorLChange
import Derived.Test.YtflhiohjikgedaaGreatDoorLDisk8
import Derived.Test.YtflhiohjikgedaaGreatDoorLBytes
set_option linter.unusedSimpArgs false
set_option linter.unusedVariables false
set_option maxRecDepth 100000
set_option maxHeartbeats 32000000
namespace Go.Proofs.YtflhiohjikgedaaGreatDoor
open Go.RowKit
theorem num_any (x : Int) (w : World) : Calls Tryz.prog 9 #[.int .i64 x] w fun e w' => e = .returned (.int .i64 x) /\ w = w' := by
 go_enter Tryz.func9, Tryz.ntmps9
 go_wp2
 go_ret
 exact ⟨rfl, rfl⟩
def rightF (enc : Int) (n : Nat) : Bool := decide (1 <= enc) && decide (enc <= 4) && decide (n <= 65536)
theorem right_any (enc : Int) (A : Option Addr) (n c : Nat) (w : World) :
  Calls Tryz.prog 4 #[.int .i64 enc, .slice A n c] w fun e w' => e = .returned (.bool (rightF enc n)) /\ w = w' := by
 by_cases h1 : 1 <= enc <;> by_cases h2 : enc <= 4 <;> by_cases h3 : n <= 65536
 all_goals
  have h3' : ((n : Int) <= 65536) = (n <= 65536) := by simp; omega
  go_enter Tryz.func4, Tryz.ntmps4
  go_wp2
  go_ret
  refine ⟨ret_b ?_, rfl⟩
  simp [rightF, h1, h2, h3]
def amongF (i n : Int) : Int := if i < 0 then (-(i + 1)).tmod n else i.tmod n
theorem u8_info : (Tryz.prog.info? 5).map (fun i => (i.zero, i.size, i.bytes)) = some (some (.int .u8 0), 1, 1) := by kernel_rfl
def LSameR (x y : List Int) (w0 : World) (k : Nat) (q : Value) (wr : World) : Prop :=
 ∃ i : Nat, q = .int .i64 (i : Int) /\ i <= x.length /\ x.length - i <= k /\ Hid (∀ j, j < i -> x.getD j 0 = y.getD j 0) /\ Below w0.heap.size w0 wr
theorem list_eq_getD' {x y : List Int} (hl : x.length = y.length) (h : ∀ j, j < x.length -> x.getD j 0 = y.getD j 0) : x = y := by
 apply List.ext_getElem hl
 intro i h1 h2
 have := h i h1
 rw [List.getD_eq_getElem?_getD, List.getD_eq_getElem?_getD, List.getElem?_eq_getElem h1, List.getElem?_eq_getElem h2] at this
 simpa using this
theorem lsame_any (D D' : Nat -> Prop) (A A' : Option Addr) (n c m c' : Nat) (x y : List Int) (w : World) (hx : Ints w D A n x) (hy : Ints w D' A' m y) (hn : n <= 1073741824) (hm : m <= 1073741824) :
  Calls Tryz.prog 18 #[.slice A n c, .slice A' m c'] w fun e w' => e = .returned (.bool (decide (x = y))) /\ Below w.heap.size w w' := by
 have hxl := hx.len
 have hyl := hy.len
 by_cases hnm : n = m
 ·subst hnm
  have q1 : ((n : Int) != (n : Int)) = false := by simp
  go_enter Tryz.func18, Tryz.ntmps18
  go_wp2_with fail
  go_loopg [5] n (fun k q wr => LSameR x y w k q wr)
  case atStart => exact ⟨0, rfl, Nat.zero_le _, by omega, Lib.hid (fun j hj => absurd hj (by omega)), Below.refl _ _⟩
  case round =>
   obtain ⟨i, rfl, hi, hk, hh, hb⟩ := hrel
   by_cases hlt : i < n
   ·obtain ⟨ad, hA, _, c1⟩ := Ints.at_ (Reads.below hx hb) hlt
    obtain ⟨ad', hA', _, c2⟩ := Ints.at_ (Reads.below hy hb) hlt
    subst hA
    subst hA'
    obtain ⟨a, ha⟩ : ∃ a, x.getD i 0 = a := ⟨_, rfl⟩
    obtain ⟨b, hb'⟩ : ∃ b, y.getD i 0 = b := ⟨_, rfl⟩
    rw [ha] at c1
    rw [hb'] at c2
    have HA := Lib.hid ha
    have HB := Lib.hid hb'
    have x1 : (0 : Int) <= (i : Int) := by omega
    have x2 : (i : Int) < (n : Int) := by omega
    clear ha hb'
    by_cases hab : a = b
    ·have hne : (a != b) = false := by simp [hab]
     go_wp2_with fail
     go_quiet (fail)
     go_wp2_with fail
     go_roundg (n - (i + 1))
     case measure => omega
     case rel =>
      refine ⟨i + 1, by go_num, by omega, by omega, Lib.hid (fun j hj => ?_), below_drewN hb _⟩
      rcases Nat.lt_or_ge j i with h | h
      ·exact hh.out j h
      ·rw [show j = i by omega, HA.out, HB.out, hab]
    ·have hne : (a != b) = true := by simp [hab]
     go_wp2_with fail
     go_quiet (fail)
     go_wp2_with fail
     go_ret
     refine ⟨ret_b ?_, below_drewN hb _⟩
     symm
     rw [decide_eq_false_iff_not]
     intro h
     apply hab
     rw [<- HA.out, <- HB.out, h]
   ·go_wp2_with fail
    go_ret
    refine ⟨ret_b ?_, hb⟩
    symm
    rw [decide_eq_true_eq]
    exact list_eq_getD' (by omega) (fun j hj => hh.out j (by omega))
 ·have q1 : ((n : Int) != (m : Int)) = true := by rw [bne_iff_ne]; omega
  go_enter Tryz.func18, Tryz.ntmps18
  go_wp2_with fail
  go_ret
  refine ⟨ret_b ?_, Below.refl _ _⟩
  symm
  rw [decide_eq_false_iff_not]
  intro h
  rw [h] at hxl
  omega
theorem twin_own (D : Nat -> Prop) (A : Option Addr) (n c : Nat) (l : List Int) (w : World) (hl : Bts w D A n l) (hn : n <= 1048576) :
  Calls Tryz.prog 7 #[.slice A n c] w (NewB l w) := by
 obtain ⟨i0, hi, hz0, hz1, hz2⟩ := info_parts u8_info
 have hle := hl.len
 go_enter Tryz.func7, Tryz.ntmps7
 go_wp2_with (at_builtin; refine wpList_append_all _ rfl (.const (.slice none 0 0)) (.tmp 3) 22 rfl w.heap.size 5 i0 (.int .u8 0) 1 1 Tryz.underlying22 hi hz0 hz1 hz2 rfl (by decide) (.slice none 0 0) 0 [] rfl (World.ownsRow_nil _ _ _ _) D A n c (l.map (Value.int .u8)) rfl hl (by intro u hu; obtain ⟨x, _, rfl⟩ := List.mem_map.1 hu; rfl) (by unfold maxLen; omega) (by omega) (Nat.le_refl _) ?_)
 intro v1 w2 ho2 hg2 _
 have hb2 : Below w.heap.size w w2 := (Fr.of_grown (S := No) hg2 (fun k hk _ => by simp [Value.ownBlock] at hk)).below (fun _ _ h => h)
 have ho3 : w2.ownsRow w.heap.size 5 1 v1 l.length (l.map (Value.int .u8)) := by rw [hle]; simpa using ho2
 clear ho2 hg2
 go_wp2_with fail
 go_ret
 exact ⟨_, rfl, ho3, hb2⟩
theorem amongF_bd (i n : Int) (hn : 0 < n) : 0 <= amongF i n /\ amongF i n < n := by
 unfold amongF
 split
 ·exact ⟨Int.tmod_nonneg n (by omega), Int.tmod_lt_of_pos _ hn⟩
 ·exact ⟨Int.tmod_nonneg n (by omega), Int.tmod_lt_of_pos _ hn⟩
theorem among_val (i n : Int) (w : World) (hi : -9223372036854775808 <= i /\ i <= 9223372036854775807) (hn : 0 < n /\ n <= 1073741825) :
  Calls Tryz.prog 11 #[.int .i64 i, .int .i64 n] w fun e w' => e = .returned (.int .i64 (amongF i n)) /\ Below w.heap.size w w' := by
 have hn0 : (n = 0) = False := by simp; omega
 have hn1 : (n == 0) = false := by rw [beq_eq_false_iff_ne]; omega
 have hn2 : (n = -1) = False := by simp; omega
 have hn3 : (n == -1) = false := by rw [beq_eq_false_iff_ne]; omega
 obtain ⟨h0, h1⟩ := amongF_bd i n hn.1
 by_cases h : i < 0
 ·have e1 : IntKind.i64.wrap (i + 1) = i + 1 := IntWalk.i64_in _ (by omega)
  have e2 : IntKind.i64.wrap (-(i + 1)) = -(i + 1) := IntWalk.i64_in _ (by omega)
  have ek : (-(i + 1)).tmod n = amongF i n := by unfold amongF; rw [if_pos h]
  have e3 : IntKind.i64.wrap ((-(i + 1)).tmod n) = amongF i n := by rw [ek]; exact IntWalk.i64_in _ (by omega)
  clear h0 h1
  go_enter Tryz.func11, Tryz.ntmps11
  go_wp2
  go_ret
  exact ⟨by rw [<- e3]; rfl, Below.refl _ _⟩
 ·have ek : i.tmod n = amongF i n := by unfold amongF; rw [if_neg h]
  have e3 : IntKind.i64.wrap (i.tmod n) = amongF i n := by rw [ek]; exact IntWalk.i64_in _ (by omega)
  clear h0 h1
  go_enter Tryz.func11, Tryz.ntmps11
  go_wp2
  go_ret
  exact ⟨by rw [<- e3]; rfl, Below.refl _ _⟩
structure SvK (enc : Int) (d sb lb f n c fb K cm q10 cl : Nat) (A Am Al : Option Addr) (xs : List Int) (W : World) : Prop where
 dk : DkAt W d sb (.map (some lb)) (.slice none 0 0) 1 2
 mp : MapS W sb [(sA, .pointer (some ⟨f, 0, none⟩))]
 fl : FlAt W f 1 (.slice A n c) n 1
 bf : Blk W fb 75 (flC d Am K cm 1 n 1 0 0 0)
 mb : Bts W (U8 W) Am K (xs.take K)
 ld : Blk W q10 34 #[.int .i64 enc, .int .i64 (K : Int), .slice Al (n - K) cl, .bool false]
theorem SvK.below {enc : Int} {d sb lb f n c fb K cm q10 cl N : Nat} {A Am Al : Option Addr} {xs : List Int} {W W' : World} (h : SvK enc d sb lb f n c fb K cm q10 cl A Am Al xs W) (hN : W.heap.size <= N) (hb : Below N W W') : SvK enc d sb lb f n c fb K cm q10 cl A Am Al xs W' := by
 have hb := hb.mono hN
 exact ⟨Blk.below h.dk hb, h.mp.below hb, Blk.below h.fl hb, h.bf.below hb, bu8_below h.mb hb, h.ld.below hb⟩
theorem SvK.ldc {enc : Int} {d sb lb f n c fb K cm q10 cl : Nat} {A Am Al : Option Addr} {xs : List Int} {W : World} (h : SvK enc d sb lb f n c fb K cm q10 cl A Am Al xs W) : W.cell? ⟨q10, 0, none⟩ = some (.int .i64 enc) /\ W.cell? ⟨q10, 1, none⟩ = some (.int .i64 (K : Int)) /\ W.cell? ⟨q10, 2, none⟩ = some (.slice Al (n - K) cl) :=
 ⟨h.ld.cell 0, h.ld.cell 1, h.ld.cell 2⟩
def TxI (B g : Nat) (enc : Int) (i : Nat) (W : World) : Prop :=
 ∃ (n : Nat) (add : Value) (t : Tr) (a : Option Addr) (xs : List Value), TextM W B g enc 65536 n add t a xs /\ szS (decL enc t.list) <= 65536 /\ n <= 131072 * i /\ B <= g
theorem TxI.below {B g : Nat} {enc : Int} {i : Nat} {W W' : World} (h : TxI B g enc i W) (hb : Below W.heap.size W W') : TxI B g enc i W' := by
 obtain ⟨n, add, t, a, xs, h1, h2, h3, h4⟩ := h
 exact ⟨n, add, t, a, xs, h1.below hb, h2, h3, h4⟩
end Go.Proofs.YtflhiohjikgedaaGreatDoor
