/-
  A bank of registers in memory; refuse, store, keep.
-/
import Derived.Test.YtgiihhikdoikgaaGreatLMapIs
import Derived.Test.YtgiihhikdoikgaaGreatLShift1
set_option linter.unusedSimpArgs false
set_option linter.unusedVariables false
set_option maxRecDepth 100000
set_option maxHeartbeats 32000000
namespace Go.Proofs.YtgiihhikdoikgaaGreat
open Go.RowKit
def findR (n : Int) : (Int × Bool) × Bool :=
 if (97 <= n /\ n <= 122) \/ (48 <= n /\ n <= 57) then ((n, false), true)
 else if 65 <= n /\ n <= 90 then ((n + 32, true), true)
 else if n = 0 \/ n = 34 then ((34, false), true)
 else if n = 45 \/ n = 95 \/ n = 46 \/ n = 58 \/ n = 47 then ((n, false), true)
 else ((0, false), false)
def slotV (s : Int × Bool) : Value := .agg #[.int .i64 s.1, .bool s.2]
theorem rfind_any (n : Int) (w : World) :
  Calls Tryz.prog 71 #[.int .i64 n] w fun e w' => e = .returned (.tuple #[slotV (findR n).1, .bool (findR n).2]) /\ Below w.heap.size w w' := by
 have hfin : ∀ (K : Int) (F OK : Bool) (w' : World), findR n = ((K, F), OK) -> Below w.heap.size w w' -> (Ending.returned (.tuple #[.agg #[.int .i64 K, .bool F], .bool OK]) = .returned (.tuple #[slotV (findR n).1, .bool (findR n).2]) /\ Below w.heap.size w w') := fun K F OK w' h hb => ⟨by rw [h]; rfl, hb⟩
 have HF := Lib.hid hfin
 have hbl : ∀ (K : Int) (F : Bool), Below w.heap.size w (w.alloc (.cells #[.int .i64 K, .bool F] 120)) /\ (w.alloc (.cells #[.int .i64 K, .bool F] 120)).cell? ⟨w.heap.size, 0, none⟩ = some (.int .i64 K) /\ (w.alloc (.cells #[.int .i64 K, .bool F] 120)).cell? ⟨w.heap.size, 1, none⟩ = some (.bool F) := fun K F =>
  ⟨balloc (Below.refl _ _), (Blk.new w 120 #[.int .i64 K, .bool F]).cell 0, (Blk.new w 120 #[.int .i64 K, .bool F]).cell 1⟩
 have HB := Lib.hid hbl
 clear hfin hbl
 by_cases e0 : n = 0
 ·subst e0
  obtain ⟨b0, b1, b2⟩ := HB.out 34 false
  go_enter Tryz.func71, Tryz.ntmps71
  go_wp2_with fail
  exact bodyPost_ret (v := .tuple #[.agg #[.int .i64 34, .bool false], .bool true]) (by simp [results, Tryz.results71, go_sem, b1, b2]) rfl (HF.out _ _ _ _ (by decide) b0)
 by_cases e34 : n = 34
 ·subst e34
  obtain ⟨b0, b1, b2⟩ := HB.out 34 false
  go_enter Tryz.func71, Tryz.ntmps71
  go_wp2_with fail
  exact bodyPost_ret (v := .tuple #[.agg #[.int .i64 34, .bool false], .bool true]) (by simp [results, Tryz.results71, go_sem, b1, b2]) rfl (HF.out _ _ _ _ (by decide) b0)
 by_cases e45 : n = 45
 ·subst e45
  obtain ⟨b0, b1, b2⟩ := HB.out 45 false
  go_enter Tryz.func71, Tryz.ntmps71
  go_wp2_with fail
  exact bodyPost_ret (v := .tuple #[.agg #[.int .i64 45, .bool false], .bool true]) (by simp [results, Tryz.results71, go_sem, b1, b2]) rfl (HF.out _ _ _ _ (by decide) b0)
 by_cases e95 : n = 95
 ·subst e95
  obtain ⟨b0, b1, b2⟩ := HB.out 95 false
  go_enter Tryz.func71, Tryz.ntmps71
  go_wp2_with fail
  exact bodyPost_ret (v := .tuple #[.agg #[.int .i64 95, .bool false], .bool true]) (by simp [results, Tryz.results71, go_sem, b1, b2]) rfl (HF.out _ _ _ _ (by decide) b0)
 by_cases e46 : n = 46
 ·subst e46
  obtain ⟨b0, b1, b2⟩ := HB.out 46 false
  go_enter Tryz.func71, Tryz.ntmps71
  go_wp2_with fail
  exact bodyPost_ret (v := .tuple #[.agg #[.int .i64 46, .bool false], .bool true]) (by simp [results, Tryz.results71, go_sem, b1, b2]) rfl (HF.out _ _ _ _ (by decide) b0)
 by_cases e58 : n = 58
 ·subst e58
  obtain ⟨b0, b1, b2⟩ := HB.out 58 false
  go_enter Tryz.func71, Tryz.ntmps71
  go_wp2_with fail
  exact bodyPost_ret (v := .tuple #[.agg #[.int .i64 58, .bool false], .bool true]) (by simp [results, Tryz.results71, go_sem, b1, b2]) rfl (HF.out _ _ _ _ (by decide) b0)
 by_cases e47 : n = 47
 ·subst e47
  obtain ⟨b0, b1, b2⟩ := HB.out 47 false
  go_enter Tryz.func71, Tryz.ntmps71
  go_wp2_with fail
  exact bodyPost_ret (v := .tuple #[.agg #[.int .i64 47, .bool false], .bool true]) (by simp [results, Tryz.results71, go_sem, b1, b2]) rfl (HF.out _ _ _ _ (by decide) b0)
 have q0 : (n == 0) = false := by rw [beq_eq_false_iff_ne]; exact e0
 have q34 : (n == 34) = false := by rw [beq_eq_false_iff_ne]; exact e34
 have q45 : (n == 45) = false := by rw [beq_eq_false_iff_ne]; exact e45
 have q95 : (n == 95) = false := by rw [beq_eq_false_iff_ne]; exact e95
 have q46 : (n == 46) = false := by rw [beq_eq_false_iff_ne]; exact e46
 have q58 : (n == 58) = false := by rw [beq_eq_false_iff_ne]; exact e58
 have q47 : (n == 47) = false := by rw [beq_eq_false_iff_ne]; exact e47
 by_cases h97 : 97 <= n
 ·have p1 : (97 <= n) = True := by simp; exact h97
  by_cases h122 : n <= 122
  ·have p2 : (n <= 122) = True := by simp; exact h122
   obtain ⟨b0, b1, b2⟩ := HB.out n false
   have hr : findR n = ((n, false), true) := by unfold findR; rw [if_pos (.inl ⟨h97, h122⟩)]
   have HR := Lib.hid hr
   clear hr h97 h122 e0 e34 e45 e95 e46 e58 e47
   go_enter Tryz.func71, Tryz.ntmps71
   go_wp2_with fail
   exact bodyPost_ret (v := .tuple #[.agg #[.int .i64 n, .bool false], .bool true]) (by simp [results, Tryz.results71, go_sem, b1, b2]) rfl (HF.out _ _ _ _ HR.out b0)
  ·have p2 : (n <= 122) = False := by simp; omega
   have p3 : (48 <= n) = True := by simp; omega
   have p4 : (n <= 57) = False := by simp; omega
   have p5 : (65 <= n) = True := by simp; omega
   have p6 : (n <= 90) = False := by simp; omega
   obtain ⟨b0, b1, b2⟩ := HB.out 0 false
   have hr : findR n = ((0, false), false) := by unfold findR; rw [if_neg (by omega), if_neg (by omega), if_neg (by omega), if_neg (by omega)]
   have HR := Lib.hid hr
   clear hr h97 h122 e0 e34 e45 e95 e46 e58 e47
   go_enter Tryz.func71, Tryz.ntmps71
   go_wp2_with fail
   exact bodyPost_ret (v := .tuple #[.agg #[.int .i64 0, .bool false], .bool false]) (by simp [results, Tryz.results71, go_sem, b1, b2]) rfl (HF.out _ _ _ _ HR.out b0)
 ·have p1 : (97 <= n) = False := by simp; omega
  by_cases h48 : 48 <= n
  ·have p3 : (48 <= n) = True := by simp; exact h48
   by_cases h57 : n <= 57
   ·have p4 : (n <= 57) = True := by simp; exact h57
    obtain ⟨b0, b1, b2⟩ := HB.out n false
    have hr : findR n = ((n, false), true) := by unfold findR; rw [if_pos (.inr ⟨h48, h57⟩)]
    have HR := Lib.hid hr
    clear hr h97 h48 h57 e0 e34 e45 e95 e46 e58 e47
    go_enter Tryz.func71, Tryz.ntmps71
    go_wp2_with fail
    exact bodyPost_ret (v := .tuple #[.agg #[.int .i64 n, .bool false], .bool true]) (by simp [results, Tryz.results71, go_sem, b1, b2]) rfl (HF.out _ _ _ _ HR.out b0)
   ·have p4 : (n <= 57) = False := by simp; omega
    by_cases h65 : 65 <= n
    ·have p5 : (65 <= n) = True := by simp; exact h65
     by_cases h90 : n <= 90
     ·have p6 : (n <= 90) = True := by simp; exact h90
      have w1 : IntKind.i64.wrap (n + 97) = n + 97 := IntWalk.i64_in _ (by omega)
      have w2 : IntKind.i64.wrap (n + 97 - 65) = n + 32 := by rw [IntWalk.i64_in _ (by omega)]; omega
      obtain ⟨b0, b1, b2⟩ := HB.out (n + 32) true
      have hr : findR n = ((n + 32, true), true) := by unfold findR; rw [if_neg (by omega), if_pos ⟨h65, h90⟩]
      have HR := Lib.hid hr
      clear hr h97 h48 h57 h65 h90 e0 e34 e45 e95 e46 e58 e47
      go_enter Tryz.func71, Tryz.ntmps71
      go_wp2_with fail
      exact bodyPost_ret (v := .tuple #[.agg #[.int .i64 (n + 32), .bool true], .bool true]) (by simp [results, Tryz.results71, go_sem, b1, b2]) rfl (HF.out _ _ _ _ HR.out b0)
     ·have p6 : (n <= 90) = False := by simp; omega
      obtain ⟨b0, b1, b2⟩ := HB.out 0 false
      have hr : findR n = ((0, false), false) := by unfold findR; rw [if_neg (by omega), if_neg (by omega), if_neg (by omega), if_neg (by omega)]
      have HR := Lib.hid hr
      clear hr h97 h48 h57 h65 h90 e0 e34 e45 e95 e46 e58 e47
      go_enter Tryz.func71, Tryz.ntmps71
      go_wp2_with fail
      exact bodyPost_ret (v := .tuple #[.agg #[.int .i64 0, .bool false], .bool false]) (by simp [results, Tryz.results71, go_sem, b1, b2]) rfl (HF.out _ _ _ _ HR.out b0)
    ·have p5 : (65 <= n) = False := by simp; omega
     obtain ⟨b0, b1, b2⟩ := HB.out 0 false
     have hr : findR n = ((0, false), false) := by unfold findR; rw [if_neg (by omega), if_neg (by omega), if_neg (by omega), if_neg (by omega)]
     have HR := Lib.hid hr
     clear hr h97 h48 h57 h65 e0 e34 e45 e95 e46 e58 e47
     go_enter Tryz.func71, Tryz.ntmps71
     go_wp2_with fail
     exact bodyPost_ret (v := .tuple #[.agg #[.int .i64 0, .bool false], .bool false]) (by simp [results, Tryz.results71, go_sem, b1, b2]) rfl (HF.out _ _ _ _ HR.out b0)
  ·have p3 : (48 <= n) = False := by simp; omega
   have p5 : (65 <= n) = False := by simp; omega
   obtain ⟨b0, b1, b2⟩ := HB.out 0 false
   have hr : findR n = ((0, false), false) := by unfold findR; rw [if_neg (by omega), if_neg (by omega), if_neg (by omega), if_neg (by omega)]
   have HR := Lib.hid hr
   clear hr h97 h48 e0 e34 e45 e95 e46 e58 e47
   go_enter Tryz.func71, Tryz.ntmps71
   go_wp2_with fail
   exact bodyPost_ret (v := .tuple #[.agg #[.int .i64 0, .bool false], .bool false]) (by simp [results, Tryz.results71, go_sem, b1, b2]) rfl (HF.out _ _ _ _ HR.out b0)
theorem own_empty (w : World) : (w.alloc (.cells #[] 3)).ownsRow w.heap.size 3 1 (.slice (some ⟨w.heap.size, 0, none⟩) 0 0) 0 [] :=
 ⟨rfl, .inr ⟨w.heap.size, 0, #[], rfl, Nat.le_refl _, heap_alloc_new w _, Nat.le_refl _, Nat.zero_le _, rfl, rfl⟩⟩
theorem ints_nil (A : Option Addr) (n c : Nat) (w : World) : (binOp BinOp.eql 36 (.slice A n c) (.slice none 0 0)).run Tryz.prog w = .ok (.bool A.isNone) w := by
 cases A <;> kernel_rfl
theorem clone_any (A : Option Addr) (n c : Nat) (l : List Int) (w : World) (hl : IntsI w A n l) (hn : n <= 268435456) :
  Calls Tryz.prog 72 #[.slice A n c] w (NewInts l w) := by
 have hln := hl.any.len
 cases A with
 | none =>
  have hn0 : n = 0 := by
   rcases Nat.eq_zero_or_pos n with h | h
   ·exact h
   ·obtain ⟨ad, h1, _⟩ := hl.2 h
    cases h1
  subst hn0
  have HL := Lib.hid hl
  have hnil := ints_nil none 0 c w
  clear hl hln
  go_enter Tryz.func72, Tryz.ntmps72
  go_wp2_with fail
  go_ret
  have hl0 : l = [] := List.eq_nil_of_length_eq_zero (by have := HL.out.any.len; omega)
  subst hl0
  exact ⟨_, rfl, World.ownsRow_nil _ _ _ _, Below.refl _ _⟩
 | some ad =>
  obtain ⟨i0, hi0, hz0, hz1, hz2⟩ := info_parts int_info
  have HII := Lib.hid hi0
  have HL := Lib.hid hl
  have HLN := Lib.hid hln
  have hnil := ints_nil (some ad) n c w
  clear hl hln hi0
  go_enter Tryz.func72, Tryz.ntmps72
  go_wp2_with (at_builtin; refine wpList_append_all _ rfl (.tmp 5) (.tmp 6) 36 rfl w.heap.size 3 i0 (.int .i64 0) 1 8 Tryz.underlying36 HII.out hz0 hz1 hz2 rfl (by decide) (.slice (some ⟨w.heap.size, 0, none⟩) 0 0) 0 [] rfl (own_empty w) (fun b => ∃ cs, Blk (w.alloc (.cells #[] 3)) b 3 cs) (some ad) n c (l.map (Value.int .i64)) rfl (HL.out.bel (balloc (Below.refl _ _))) (by intro u hu; obtain ⟨x, _, rfl⟩ := List.mem_map.1 hu; rfl) (by unfold maxLen; omega) (by omega) (by simp) ?_)
  intro v1 w2 ho2 hg2 _
  have hb2 : Below w.heap.size w w2 := below_grown2 (balloc (Below.refl _ _)) hg2 (fun k hk => own_ge (own_empty w) hk)
  have ho3 : w2.ownsRow w.heap.size 3 1 v1 n (l.map (Value.int .i64)) := by simpa using ho2
  have HO := Lib.hid ho3
  clear ho2 ho3 hg2
  go_wp2_with fail
  go_ret
  exact ⟨_, rfl, by rw [HLN.out]; exact HO.out, hb2⟩
def lbF (l : List Int) : Nat :=
 if 1 < l.length /\ l.getD (l.length - 2) 0 = 13 /\ l.getD (l.length - 1) 0 = 10 then 2 else if 0 < l.length /\ (l.getD (l.length - 1) 0 = 10 \/ l.getD (l.length - 1) 0 = 13) then 1 else 0
def LbPost (l : List Int) (n : Nat) (w : World) (e : Ending) (w' : World) : Prop :=
 ∃ v, e = .returned v /\ (lbF l = 0 -> v = .slice none 0 0) /\ (lbF l ≠ 0 -> ∃ ad c', v = .slice (some ad) (lbF l) c' /\ lbF l <= c' /\ IntsI w (some ad) (lbF l) (l.drop (n - lbF l))) /\ w' = w
theorem LbPost.zero {l : List Int} {n : Nat} {w : World} (h : lbF l = 0) : LbPost l n w (.returned (.slice none 0 0)) w := ⟨_, rfl, fun _ => rfl, fun h' => absurd h h', rfl⟩
theorem LbPost.some {l : List Int} {n k : Nat} {w : World} {ad : Addr} {c : Nat} (h : lbF l = k) (hk : 0 < k) (hn : k <= n) (hl : IntsI w (some ad) n l) (hc : n <= c) : LbPost l n w (.returned (.slice (some (ad.add (n - k))) (n - (n - k)) (c - (n - k)))) w := by
 rw [show n - (n - k) = k by omega]
 refine ⟨_, rfl, fun h' => by omega, fun _ => ⟨ad.add (n - k), c - (n - k), by rw [h], by omega, ?_⟩, rfl⟩
 rw [h]
 obtain ⟨h1, h2⟩ := hl
 obtain ⟨ad', e, hb, hc⟩ := h2 (by omega)
 injection e with e
 subst e
 refine ⟨?_, fun _ => ⟨_, rfl, by rw [block_of_add]; exact hb, fun j u hu => ?_⟩⟩
 ·rw [List.length_map] at h1 ⊢
  rw [List.length_drop]
  omega
 ·rw [add_of_add]
  exact hc (n - k + j) u (by rw [List.getElem?_map] at hu ⊢; rw [List.getElem?_drop] at hu; exact hu)
theorem lastBreak_any (A : Option Addr) (n c : Nat) (l : List Int) (w : World) (hl : IntsI w A n l) (hn : n <= 268435456) (hc : n <= c) :
  Calls Tryz.prog 122 #[.slice A n c] w (LbPost l n w) := by
 have hln := hl.any.len
 rcases Nat.eq_zero_or_pos n with h0 | h0
 ·have hz : lbF l = 0 := by unfold lbF; rw [if_neg (by omega), if_neg (by omega)]
  subst h0
  have HZ := Lib.hid hz
  clear hl hln hz
  go_enter Tryz.func122, Tryz.ntmps122
  go_wp2_with fail
  go_ret
  exact LbPost.zero HZ.out
 ·obtain ⟨y, hy⟩ : ∃ y, l.getD (n - 1) 0 = y := ⟨_, rfl⟩
  obtain ⟨ad, rfl, _, cy⟩ := Ints.at_ hl.any (show n - 1 < n by omega)
  rw [hy] at cy
  have w1 : IntKind.i64.wrap ((n : Int) - 1) = ((n - 1 : Nat) : Int) := by rw [IntWalk.i64_in _ (by omega)]; omega
  have g0 : ((0 : Int) < (n : Int)) = True := by simp; omega
  have i1 : n - 1 < n := by omega
  have i2 : (0 : Int) <= ((n - 1 : Nat) : Int) := by omega
  have i3 : ((n - 1 : Nat) : Int) < (n : Int) := by omega
  have s1 : ((n - 1 : Nat) : Int) <= (n : Int) := by omega
  have s2 : (n : Int) <= (c : Int) := by omega
  have s3 : ((n - 1 : Nat) : Int) <= (c : Int) := by omega
  have HL := Lib.hid hl
  have HLN := Lib.hid hln
  have HY := Lib.hid hy
  rcases (show n <= 1 \/ 1 < n by omega) with hn1 | hn1
  ·obtain rfl : n = 1 := by omega
   rw [show 1 - 1 = 0 from rfl, add_zero] at cy
   have hz1 : lbF l = if y = 10 \/ y = 13 then 1 else 0 := by
    unfold lbF
    rw [if_neg (by omega), hln, hy]
    by_cases h : y = 10 \/ y = 13
    ·rw [if_pos ⟨by omega, h⟩, if_pos h]
    ·rw [if_neg (fun hh => h hh.2), if_neg h]
   have HZ1 := Lib.hid hz1
   clear hl hln hy hz1 w1 g0 i1 i2 i3 s1 s2 s3 hn1 h0 HLN HY
   have g3 : 1 <= c := hc
   have hsome : ∀ (h : lbF l = 1), LbPost l 1 w (.returned (.slice (some ad) 1 c)) w := fun h => by
    have := LbPost.some h (by decide) (Nat.le_refl 1) HL.out hc
    rw [Nat.sub_self, add_zero] at this
    exact this
   have HSM := Lib.hid hsome
   clear hsome
   by_cases y10 : y = 10
   ·have hz : lbF l = 1 := by rw [HZ1.out, if_pos (.inl y10)]
    have HZ := Lib.hid hz
    clear hz
    subst y10
    go_enter Tryz.func122, Tryz.ntmps122
    go_wp2_with fail
    go_ret
    exact HSM.out HZ.out
   ·have q1 : (y == 10) = false := by rw [beq_eq_false_iff_ne]; exact y10
    by_cases y13 : y = 13
    ·have hz : lbF l = 1 := by rw [HZ1.out, if_pos (.inr y13)]
     have HZ := Lib.hid hz
     clear hz
     subst y13
     go_enter Tryz.func122, Tryz.ntmps122
     go_wp2_with fail
     go_ret
     exact HSM.out HZ.out
    ·have q2 : (y == 13) = false := by rw [beq_eq_false_iff_ne]; exact y13
     have hz : lbF l = 0 := by rw [HZ1.out, if_neg (by omega)]
     have HZ := Lib.hid hz
     clear hz
     go_enter Tryz.func122, Tryz.ntmps122
     go_wp2_with fail
     go_ret
     exact LbPost.zero HZ.out
  ·have g1 : ((1 : Int) < (n : Int)) = True := by simp; omega
   obtain ⟨x, hx⟩ : ∃ x, l.getD (n - 2) 0 = x := ⟨_, rfl⟩
   obtain ⟨ad', e', _, cx⟩ := Ints.at_ hl.any (show n - 2 < n by omega)
   injection e' with e'
   subst e'
   rw [hx] at cx
   have w2 : IntKind.i64.wrap ((n : Int) - 2) = ((n - 2 : Nat) : Int) := by rw [IntWalk.i64_in _ (by omega)]; omega
   have j1 : n - 2 < n := by omega
   have j2 : (0 : Int) <= ((n - 2 : Nat) : Int) := by omega
   have j3 : ((n - 2 : Nat) : Int) < (n : Int) := by omega
   have t1 : ((n - 2 : Nat) : Int) <= (n : Int) := by omega
   have t3 : ((n - 2 : Nat) : Int) <= (c : Int) := by omega
   have hz1 : lbF l = if x = 13 /\ y = 10 then 2 else if y = 10 \/ y = 13 then 1 else 0 := by
    unfold lbF
    rw [hln, hx, hy]
    by_cases h : x = 13 /\ y = 10
    ·rw [if_pos ⟨by omega, h⟩, if_pos h]
    ·rw [if_neg (fun hh => h hh.2), if_neg h]
     by_cases h : y = 10 \/ y = 13
     ·rw [if_pos ⟨by omega, h⟩, if_pos h]
     ·rw [if_neg (fun hh => h hh.2), if_neg h]
   have HZ1 := Lib.hid hz1
   clear hl hln hy hx hz1
   by_cases y10 : y = 10
   ·by_cases x13 : x = 13
    ·have hz : lbF l = 2 := by rw [HZ1.out, if_pos ⟨x13, y10⟩]
     have HZ := Lib.hid hz
     clear hz
     subst y10 x13
     go_enter Tryz.func122, Tryz.ntmps122
     go_wp2_with fail
     go_ret
     exact LbPost.some HZ.out (by decide) (by omega) HL.out hc
    ·have q1 : (x == 13) = false := by rw [beq_eq_false_iff_ne]; exact x13
     have hz : lbF l = 1 := by rw [HZ1.out, if_neg (fun h => x13 h.1), if_pos (.inl y10)]
     have HZ := Lib.hid hz
     clear hz
     subst y10
     go_enter Tryz.func122, Tryz.ntmps122
     go_wp2_with fail
     go_ret
     exact LbPost.some HZ.out (by decide) (by omega) HL.out hc
   ·have q1 : (y == 10) = false := by rw [beq_eq_false_iff_ne]; exact y10
    have hxx : (x == 13) = true \/ (x == 13) = false := by cases (x == 13) <;> simp
    by_cases y13 : y = 13
    ·have hz : lbF l = 1 := by rw [HZ1.out, if_neg (fun h => y10 h.2), if_pos (.inr y13)]
     have HZ := Lib.hid hz
     clear hz
     subst y13
     rcases hxx with q3 | q3
     all_goals
      go_enter Tryz.func122, Tryz.ntmps122
      go_wp2_with fail
      go_ret
      exact LbPost.some HZ.out (by decide) (by omega) HL.out hc
    ·have q2 : (y == 13) = false := by rw [beq_eq_false_iff_ne]; exact y13
     have hz : lbF l = 0 := by rw [HZ1.out, if_neg (fun h => y10 h.2), if_neg (by omega)]
     have HZ := Lib.hid hz
     clear hz
     rcases hxx with q3 | q3
     all_goals
      go_enter Tryz.func122, Tryz.ntmps122
      go_wp2_with fail
      go_ret
      exact LbPost.zero HZ.out
def wrF (kd : Int) (l : List Int) : List Int := if kd = 1 /\ lbF l = 0 then l ++ [10] else l
theorem cells2_of {w : World} {g : Nat} {T : TypeId} {a0 a1 : Value} (h : Blk w g T #[a0, a1]) : (w.cell? ⟨g, 0, none⟩ = some a0 /\ w.cell? ⟨g, 1, none⟩ = some a1) /\ w.frozen? ⟨g, 0, none⟩ = false /\ w.frozen? ⟨g, 1, none⟩ = false := ⟨⟨h.cell 0, h.cell 1⟩, h.frozen 0, h.frozen 1⟩
def NewReg (kd : Int) (l : List Int) (w : World) (e : Ending) (w' : World) : Prop := ∃ v, e = .returned (.agg #[.int .i64 kd, v]) /\ w'.ownsRow w.heap.size 3 1 v l.length (l.map (Value.int .i64)) /\ Below w.heap.size w w'
theorem own_base {w : World} {B B' : Nat} {e : TypeId} {size n : Nat} {v : Value} {xs : List Value} (h : w.ownsRow B' e size v n xs) (hb : B <= B') : w.ownsRow B e size v n xs := by
 refine ⟨h.1, ?_⟩
 rcases h.2 with h2 | ⟨g, c, cur, e1, h1, h2⟩
 ·exact .inl h2
 ·exact .inr ⟨g, c, cur, e1, Nat.le_trans hb h1, h2⟩
theorem reg_fin {w w0 w1 : World} {b : Nat} {kd : Int} {v : Value} {l : List Int} (hb0 : Below w.heap.size w w0) (hw : w.heap.size <= b) (hlt : b < w0.heap.size) (ho : w1.ownsRow w0.heap.size 3 1 v l.length (l.map (Value.int .i64))) (hb : Below w0.heap.size w0 w1) :
  NewReg kd l w (.returned (.agg #[.int .i64 kd, v])) ((w1.setCell ⟨b, 0, none⟩ (.int .i64 kd)).setCell ⟨b, 1, none⟩ v) := by
 have hF : Fr (· = b) w1 ((w1.setCell ⟨b, 0, none⟩ (.int .i64 kd)).setCell ⟨b, 1, none⟩ v) := ((Fr.refl _ _).set1 0 _).set1 1 _
 refine ⟨v, rfl, ?_, bfr (bseq hb0 hb) hF (fun i h => by omega)⟩
 refine own_fr (own_base ho hb0.size) hF (fun q hq hs => ?_)
 have := own_ge ho hq
 omega
theorem written_any (kd : Int) (A : Option Addr) (n c : Nat) (l : List Int) (w : World) (hl : IntsI w A n l) (hn : n <= 268435000) :
  Calls Tryz.prog 78 #[.agg #[.int .i64 kd, .slice A n c]] w (NewReg kd (wrF kd l) w) := by
 have hln := hl.any.len
 have hb0 : Below w.heap.size w ((w.alloc (.cells #[.int .i64 kd, .slice A n c] 66)).alloc (.cells #[.int .i64 0, .slice none 0 0] 66)) := balloc (balloc (Below.refl _ _))
 have k1 : Blk ((w.alloc (.cells #[.int .i64 kd, .slice A n c] 66)).alloc (.cells #[.int .i64 0, .slice none 0 0] 66)) w.heap.size 66 #[.int .i64 kd, .slice A n c] := (Blk.new w _ _).alloc _
 have k2 : Blk ((w.alloc (.cells #[.int .i64 kd, .slice A n c] 66)).alloc (.cells #[.int .i64 0, .slice none 0 0] 66)) (w.heap.size + 1) 66 #[.int .i64 0, .slice none 0 0] := Blk.new' (by simp)
 have HCL := Lib.hid (clone_any A n c l _ (hl.bel hb0) (by omega))
 have hz0 : ((w.alloc (.cells #[.int .i64 kd, .slice A n c] 66)).alloc (.cells #[.int .i64 0, .slice none 0 0] 66)).heap.size = w.heap.size + 2 := by simp
 have HLN := Lib.hid hln
 clear hl hln
 go_enter Tryz.func78, Tryz.ntmps78
 go_upto_region 1 with fail
 obtain ⟨w0, hw0⟩ : ∃ x, (w.alloc (.cells #[.int .i64 kd, .slice A n c] 66)).alloc (.cells #[.int .i64 0, .slice none 0 0] 66) = x := ⟨_, rfl⟩
 rw [hw0] at hb0 k1 k2 HCL hz0 ⊢
 clear hw0
 obtain ⟨⟨c0, c1⟩, -⟩ := cells2_of k1
 go_wp2_with fail
 refine (HCL.out).mono ?_
 rintro e w1 ⟨v1, rfl, ho1, hb1⟩
 obtain ⟨A1, c1', rfl, hc1⟩ := own_slice ho1
 have hI1 := IntsI.of_own ho1
 have k11 := k1.below hb1
 have k21 := k2.below hb1
 obtain ⟨⟨d0, d1⟩, -⟩ := cells2_of k11
 obtain ⟨⟨e0, e1⟩, f0, f1⟩ := cells2_of k21
 have hlle : l.length <= 268435000 := by rw [HLN.out]; exact hn
 obtain ⟨N, hN⟩ : ∃ N, l.length = N := ⟨_, rfl⟩
 rw [hN] at ho1 hI1 hc1 hlle ⊢
 have HO := Lib.hid ho1
 have HLB := Lib.hid (lastBreak_any A1 N c1' l w1 hI1 (by omega) hc1)
 have HNN := Lib.hid hN
 have HZ := Lib.hid hz0
 clear c0 c1 ho1 hN hI1 k1 k2 hz0 HCL
 have hw0z : w.heap.size <= w.heap.size + 1 := Nat.le_succ _
 have hlt0 : w.heap.size + 1 < w0.heap.size := by have := HZ.out; omega
 by_cases hk1 : kd = 1
 ·subst hk1
  go_wp2_with fail
  refine (HLB.out).mono ?_
  rintro e w2 ⟨v2, rfl, hv0, hv1, rfl⟩
  by_cases hlb : lbF l = 0
  ·have hv := hv0 hlb
   subst hv
   have hwr : wrF 1 l = l ++ [10] := by unfold wrF; rw [if_pos ⟨rfl, hlb⟩]
   have HW := Lib.hid hwr
   have hnil := ints_nil none 0 0 w2
   obtain ⟨i0, hi0, hz0, hz1, hz2⟩ := info_parts int_info
   have HII := Lib.hid hi0
   have hs1 := hb1.size
   clear hv0 hv1 hlb hwr hi0
   go_wp2_with (at_builtin; refine wpList_append_own_at _ rfl (.tmp 15) (.tmp 16) 36 rfl w0.heap.size 3 i0 (.int .i64 0) 1 8 Tryz.underlying36 HII.out hz0 hz1 hz2 rfl (by decide) (.slice A1 N c1') N _ rfl (HO.out.alloc _) ⟨w2.heap.size, 0, none⟩ 1 1 [.int .i64 10] rfl rfl (cell_one_new _ _ _) (by simp [Value.oneCell']) (by unfold maxLen; omega) (by omega) (by simp; omega) ?_)
   intro v3 w3 ho3 hg3 _ _
   have hb3 : Below w0.heap.size w0 w3 := below_grown2 (balloc hb1) hg3 (fun k hk => own_ge HO.out hk)
   have k13 := k11.alloc (.cells #[.int .i64 10] 3)
   have k23 := k21.alloc (.cells #[.int .i64 10] 3)
   have k14 := k13.grown hg3 (fun e => own_blk_ne (HO.out.alloc _) k13 (by decide) e.symm)
   have k24 := k23.grown hg3 (fun e => own_blk_ne (HO.out.alloc _) k23 (by decide) e.symm)
   obtain ⟨⟨d0, d1⟩, -⟩ := cells2_of k14
   obtain ⟨⟨e0, e1⟩, f0, f1⟩ := cells2_of k24
   obtain ⟨A3, c3, rfl, hc3⟩ := own_slice ho3
   have ho4 : w3.ownsRow w0.heap.size 3 1 (.slice A3 (N + 1) c3) (wrF 1 l).length ((wrF 1 l).map (Value.int .i64)) := by
    rw [HW.out, List.length_append, List.map_append, HNN.out]
    exact ho3
   have hfin := reg_fin (kd := 1) hb0 hw0z hlt0 ho4 hb3
   have HFIN := Lib.hid hfin
   have hr := (cells2_of (((k24.set_ 0 (.int .i64 1)).set_ 1 (.slice A3 (N + 1) c3)).eq_ (show _ = #[.int .i64 1, .slice A3 (N + 1) c3] by simp))).1
   have HR := Lib.hid hr
   clear ho3 hg3 k13 k23 k14 k24 ho4 hfin hr
   go_wp2_with fail
   exact bodyPost_ret (v := .agg #[.int .i64 1, .slice A3 (N + 1) c3]) (by simp [results, Tryz.results78, go_sem, HR.out.1, HR.out.2]) rfl HFIN.out
  ·obtain ⟨ad, c2, rfl, -, -⟩ := hv1 hlb
   have hwr : wrF 1 l = l := by unfold wrF; rw [if_neg (fun h => hlb h.2)]
   have HW := Lib.hid hwr
   have hnil := ints_nil (some ad) (lbF l) c2 w2
   have ho4 : w2.ownsRow w0.heap.size 3 1 (.slice A1 N c1') (wrF 1 l).length ((wrF 1 l).map (Value.int .i64)) := by
    rw [HW.out, HNN.out]
    exact HO.out
   have hfin := reg_fin (kd := 1) hb0 hw0z hlt0 ho4 hb1
   have HFIN := Lib.hid hfin
   have hr := (cells2_of (((k21.set_ 0 (.int .i64 1)).set_ 1 (.slice A1 N c1')).eq_ (show _ = #[.int .i64 1, .slice A1 N c1'] by simp))).1
   have HR := Lib.hid hr
   obtain ⟨K, hK⟩ : ∃ K, lbF l = K := ⟨_, rfl⟩
   rw [hK] at hnil ⊢
   clear hv0 hv1 hlb hwr ho4 hfin hr hK
   go_wp2_with fail
   exact bodyPost_ret (v := .agg #[.int .i64 1, .slice A1 N c1']) (by simp [results, Tryz.results78, go_sem, HR.out.1, HR.out.2]) rfl HFIN.out
 ·have q1 : (kd == 1) = false := by rw [beq_eq_false_iff_ne]; exact hk1
  have hwr : wrF kd l = l := by unfold wrF; rw [if_neg (fun h => hk1 h.1)]
  have HW := Lib.hid hwr
  have ho4 : w1.ownsRow w0.heap.size 3 1 (.slice A1 N c1') (wrF kd l).length ((wrF kd l).map (Value.int .i64)) := by
   rw [HW.out, HNN.out]
   exact HO.out
  have hfin := reg_fin (kd := kd) hb0 hw0z hlt0 ho4 hb1
  have HFIN := Lib.hid hfin
  have hr := (cells2_of (((k21.set_ 0 (.int .i64 kd)).set_ 1 (.slice A1 N c1')).eq_ (show _ = #[.int .i64 kd, .slice A1 N c1'] by simp))).1
  have HR := Lib.hid hr
  clear hwr ho4 hfin hr
  go_wp2_with fail
  exact bodyPost_ret (v := .agg #[.int .i64 kd, .slice A1 N c1']) (by simp [results, Tryz.results78, go_sem, HR.out.1, HR.out.2]) rfl HFIN.out
def RegAt (w : World) (o : Option Value) (r : Option (Int × List Int)) : Prop :=
 match r with
 | none => o = none
 | some p => ∃ A n c, o = some (.agg #[.int .i64 p.1, .slice A n c]) /\ IntsI w A n p.2 /\ n <= c /\ n <= 140000
theorem RegAt.fr {w w' : World} {S : Nat -> Prop} {o : Option Value} {r : Option (Int × List Int)} (h : RegAt w o r) (hf : Fr S w w') (hS : ∀ b, b < w.heap.size -> S b -> ¬ ∃ cs, Blk w b 3 cs) : RegAt w' o r := by
 cases r with
 | none => exact h
 | some p =>
  obtain ⟨A, n, c, h1, h2, h3, h4⟩ := h
  exact ⟨A, n, c, h1, h2.fr hf hS, h3, h4⟩
structure BankIs (w : World) (B gk mk : Nat) (R : Int -> Option (Int × List Int)) (tu : Int) : Prop where
 blk : Blk w gk 125 #[.map (some mk), .int .i64 tu]
 low : B <= gk /\ B <= mk
 map : ∃ l, MapIs w mk l /\ (l.map Prod.fst).Nodup /\ ∀ k, RegAt w (getM l k) (R k)
theorem BankIs.fr {w w' : World} {B gk mk : Nat} {R : Int -> Option (Int × List Int)} {tu : Int} {S : Nat -> Prop} (h : BankIs w B gk mk R tu) (hf : Fr S w w') (hS : ∀ b, b < w.heap.size -> S b -> b ≠ gk /\ ∃ T cs, Blk w b T cs /\ T ≠ 3) : BankIs w' B gk mk R tu := by
 obtain ⟨l, h1, h2, h3⟩ := h.map
 have hi : ∀ b, b < w.heap.size -> S b -> ¬ ∃ cs, Blk w b 3 cs := fun b hb hs ⟨cs, hc⟩ => by
  obtain ⟨_, T, cs', hT, hne⟩ := hS b hb hs
  unfold Blk at hT hc
  rw [hT] at hc
  injection hc with hc
  injection hc with _ hc
  exact hne hc
 refine ⟨h.blk.fr hf (fun hs => (hS _ h.blk.lt hs).1 rfl), h.low, l, h1.fr hf (fun hs => ?_), h2, fun k => (h3 k).fr hf hi⟩
 obtain ⟨_, T, cs, hT, _⟩ := hS _ h1.lt hs
 exact h1.ne_blk hT rfl
theorem BankIs.below {w w' : World} {B gk mk : Nat} {R : Int -> Option (Int × List Int)} {tu : Int} (h : BankIs w B gk mk R tu) (hb : Below w.heap.size w w') : BankIs w' B gk mk R tu := h.fr (S := fun _ => False) (Fr.of_below hb) (fun _ _ hs => hs.elim)
theorem rrefuse_ok (n kd : Int) (A : Option Addr) (m c : Nat) (w : World) (hn : (findR n).2 = true) (hr : (findR n).1.1 ≠ 46 /\ (findR n).1.1 ≠ 58 /\ (findR n).1.1 ≠ 47) (hk : kd = 0 \/ kd = 1) :
  Calls Tryz.prog 77 #[.int .i64 n, .agg #[.int .i64 kd, .slice A m c]] w fun e w' => e = .returned (.tuple #[slotV (findR n).1, .int .i64 0]) /\ Below w.heap.size w w' := by
 have hb0 : Below w.heap.size w ((w.alloc (.cells #[.int .i64 kd, .slice A m c] 66)).alloc (.cells #[.int .i64 0, .bool false] 120)) := balloc (balloc (Below.refl _ _))
 have k1 : Blk ((w.alloc (.cells #[.int .i64 kd, .slice A m c] 66)).alloc (.cells #[.int .i64 0, .bool false] 120)) w.heap.size 66 #[.int .i64 kd, .slice A m c] := (Blk.new w _ _).alloc _
 have k2 : Blk ((w.alloc (.cells #[.int .i64 kd, .slice A m c] 66)).alloc (.cells #[.int .i64 0, .bool false] 120)) (w.heap.size + 1) 120 #[.int .i64 0, .bool false] := Blk.new' (by simp)
 have HFI := Lib.hid (fun w' => rfind_any n w')
 obtain ⟨⟨⟨K, F⟩, OK⟩, hs⟩ : ∃ s, findR n = s := ⟨_, rfl⟩
 rw [hs] at HFI hn hr ⊢
 dsimp only at HFI hn hr ⊢
 unfold slotV at HFI ⊢
 dsimp only at HFI ⊢
 subst hn
 have q1 : (K == 46) = false := by rw [beq_eq_false_iff_ne]; exact hr.1
 have q2 : (K == 58) = false := by rw [beq_eq_false_iff_ne]; exact hr.2.1
 have q3 : (K == 47) = false := by rw [beq_eq_false_iff_ne]; exact hr.2.2
 clear hs hr
 go_enter Tryz.func77, Tryz.ntmps77
 go_upto_region 1 with fail
 obtain ⟨w0, hw0⟩ : ∃ x, (w.alloc (.cells #[.int .i64 kd, .slice A m c] 66)).alloc (.cells #[.int .i64 0, .bool false] 120) = x := ⟨_, rfl⟩
 rw [hw0] at hb0 k1 k2 ⊢
 clear hw0
 go_wp2_with fail
 refine (HFI.out _).mono ?_
 rintro e w1 ⟨rfl, hb1⟩
 go_upto_block 0 with fail
 have k3 := Blk.new w1 120 #[.int .i64 K, .bool F]
 have k12 := (k1.below hb1).alloc (.cells #[.int .i64 K, .bool F] 120)
 have k22 := (k2.below hb1).alloc (.cells #[.int .i64 K, .bool F] 120)
 have hb2 : Below w.heap.size w (w1.alloc (.cells #[.int .i64 K, .bool F] 120)) := balloc (bseq hb0 hb1)
 obtain ⟨b6, hb6⟩ : ∃ x, w1.heap.size = x := ⟨_, rfl⟩
 obtain ⟨w2, hw2⟩ : ∃ x, w1.alloc (.cells #[.int .i64 K, .bool F] 120) = x := ⟨_, rfl⟩
 rw [hb6] at k3 ⊢
 rw [hw2] at k3 k12 k22 hb2 ⊢
 clear hb6 hw2 k1 k2
 obtain ⟨⟨c0, c1⟩, -⟩ := cells2_of k12
 obtain ⟨⟨d0, d1⟩, f0, f1⟩ := cells2_of k22
 obtain ⟨⟨e0, e1⟩, -⟩ := cells2_of k3
 have hr := (cells2_of (((k22.set_ 0 (.int .i64 K)).set_ 1 (.bool F)).eq_ (show _ = #[.int .i64 K, .bool F] by simp))).1
 have HR := Lib.hid hr
 have hfin : Below w.heap.size w ((w2.setCell ⟨w.heap.size + 1, 0, none⟩ (.int .i64 K)).setCell ⟨w.heap.size + 1, 1, none⟩ (.bool F)) := (hb2.setCell (p := ⟨w.heap.size + 1, 0, none⟩) (Nat.le_succ _) _).setCell (p := ⟨w.heap.size + 1, 1, none⟩) (Nat.le_succ _) _
 have HFIN := Lib.hid hfin
 clear hr hfin
 rcases hk with rfl | rfl
 all_goals
  go_wp2_with fail
  exact bodyPost_ret (v := .tuple #[.agg #[.int .i64 K, .bool F], .int .i64 0]) (by simp [results, Tryz.results77, go_sem, HR.out.1, HR.out.2]) rfl ⟨rfl, HFIN.out⟩
def putR (R : Int -> Option (Int × List Int)) (k kd : Int) (xs : List Int) : Int -> Option (Int × List Int) := fun q => if q = k then (if xs = [] then none else some (kd, xs)) else R q
theorem BankIs.put {w w' : World} {B gk mk : Nat} {R : Int -> Option (Int × List Int)} {tu k kd : Int} {l : List (Int × Value)} {A : Option Addr} {n c : Nat} {xs : List Int} (h : BankIs w B gk mk R tu) (hl2 : (l.map Prod.fst).Nodup) (hl3 : ∀ q, RegAt w (getM l q) (R q))
  (hm : MapIs w' mk (putM k (.agg #[.int .i64 kd, .slice A n c]) l)) (hf : Fr (· = mk) w w') (hmk : ∀ T cs, ¬ Blk w mk T cs) (hx : IntsI w A n xs) (hc : n <= c) (h0 : xs ≠ []) (hn : n <= 140000) : BankIs w' B gk mk (putR R k kd xs) tu := by
 have hi : ∀ b, b < w.heap.size -> b = mk -> ¬ ∃ cs, Blk w b 3 cs := fun b _ hs ⟨cs, hc⟩ => hmk _ _ (hs ▸ hc)
 refine ⟨h.blk.fr hf (fun e => hmk _ _ (e ▸ h.blk)), h.low, _, hm, put_nodup _ _ _ hl2, fun q => ?_⟩
 rw [getM_put]
 unfold putR
 by_cases hq : q = k
 ·rw [if_pos hq, if_pos hq, if_neg h0]
  exact ⟨A, n, c, rfl, hx.fr hf hi, hc, hn⟩
 ·rw [if_neg hq, if_neg hq]
  exact (hl3 q).fr hf hi
theorem BankIs.del {w w' : World} {B gk mk : Nat} {R : Int -> Option (Int × List Int)} {tu k kd : Int} {l : List (Int × Value)} (h : BankIs w B gk mk R tu) (hl2 : (l.map Prod.fst).Nodup) (hl3 : ∀ q, RegAt w (getM l q) (R q))
  (hm : MapIs w' mk (delM k l)) (hf : Fr (· = mk) w w') (hmk : ∀ T cs, ¬ Blk w mk T cs) : BankIs w' B gk mk (putR R k kd []) tu := by
 have hi : ∀ b, b < w.heap.size -> b = mk -> ¬ ∃ cs, Blk w b 3 cs := fun b _ hs ⟨cs, hc⟩ => hmk _ _ (hs ▸ hc)
 refine ⟨h.blk.fr hf (fun e => hmk _ _ (e ▸ h.blk)), h.low, _, hm, del_nodup _ _ hl2, fun q => ?_⟩
 rw [getM_del k q l hl2]
 unfold putR
 by_cases hq : q = k
 ·rw [if_pos hq, if_pos hq, if_pos rfl]
  rfl
 ·rw [if_neg hq, if_neg hq]
  exact (hl3 q).fr hf hi
theorem regZero (w : World) : (zeroValue 66).run Tryz.prog w = .ok (.agg #[.int .i64 0, .slice none 0 0]) w := by kernel_rfl
end Go.Proofs.YtgiihhikdoikgaaGreat
