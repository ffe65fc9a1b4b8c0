/-
  The walks of package tree at the pieces, seventh part: Key, Find.
-/
import Derived.Test.YtgiihhikdoikgaaGreatLTree6
set_option linter.unusedSimpArgs false
set_option linter.unusedVariables false
set_option maxRecDepth 100000
set_option maxHeartbeats 32000000
namespace Go.Proofs.YtgiihhikdoikgaaGreat
open Go.RowKit
def keyF (s : Sums) (k : Int) : Int := if k = 0 then s.atoms else if k = 1 then s.breaks else 0
theorem key_any (s : Sums) (k : Int) (w : World) :
  Calls Tryz.prog 218 #[.agg s.cells, .int .i64 k] w fun e w' => e = .returned (.int .i64 (keyF s k)) /\ Below w.heap.size w w' := by
 simp only [Sums.cells]
 have hW : Below w.heap.size w (w.alloc (.cells #[.int .i64 s.atoms, .int .i64 s.bytes, .int .i64 s.breaks, .bool s.lf, .bool s.cr] 99)) := balloc (Below.refl _ _)
 have hr : ∀ v, v = keyF s k -> Ending.returned (.int .i64 v) = .returned (.int .i64 (keyF s k)) := fun v h => by rw [h]
 by_cases h0 : k = 0
 ·have e : s.atoms = keyF s k := by unfold keyF; rw [if_pos h0]
  have HE := Lib.hid e
  have q : (k == 0) = true := by rw [beq_iff_eq]; exact h0
  clear e h0
  go_enter Tryz.func218, Tryz.ntmps218
  go_wp2_with fail
  go_ret
  exact ⟨hr _ HE.out, hW⟩
 ·have q0 : (k == 0) = false := by rw [beq_eq_false_iff_ne]; exact h0
  by_cases h1 : k = 1
  ·have e : s.breaks = keyF s k := by unfold keyF; rw [if_neg h0, if_pos h1]
   have HE := Lib.hid e
   have q : (k == 1) = true := by rw [beq_iff_eq]; exact h1
   clear e h0 h1
   go_enter Tryz.func218, Tryz.ntmps218
   go_wp2_with fail
   go_ret
   exact ⟨hr _ HE.out, hW⟩
  ·have e : 0 = keyF s k := by unfold keyF; rw [if_neg h0, if_neg h1]
   have HE := Lib.hid e
   have q : (k == 1) = false := by rw [beq_eq_false_iff_ne]; exact h1
   clear e h0 h1
   go_enter Tryz.func218, Tryz.ntmps218
   go_wp2_with fail
   go_ret
   exact ⟨hr _ HE.out, hW⟩
theorem me_key (s : Sums) (w : World) : (method 399 99 (.agg s.cells) "Key").run Tryz.prog w = .ok (218, .agg s.cells) w := by kernel_rfl
theorem keyF_mono {a b : Sums} (ha : a.good) (hb : b.good) (k : Int) : keyF a k <= keyF (addF a b) k := by
 obtain ⟨a1, a2, a3, a4, a5, a6⟩ := ha
 obtain ⟨b1, b2, b3, b4, b5, b6⟩ := hb
 by_cases h1 : a.atoms = 0
 ·have e := a4 h1
  rw [e, addF_zero_left]
  unfold keyF
  simp only [zeroS]
  split
  ·omega
  ·split <;> omega
 ·by_cases h2 : b.atoms = 0
  ·have e : addF a b = a := by unfold addF; rw [if_neg h1, if_pos h2]
   rw [e]
   exact Int.le_refl _
  ·rw [addF_nz h1 h2]
   unfold keyF
   dsimp only
   split
   ·omega
   ·split
    ·split
     ·rename_i hc
      simp only [Bool.and_eq_true] at hc
      have := b5 hc.2
      omega
     ·omega
    ·omega
def findL (k n : Int) : Sums -> List Pc -> Int
 | _, [] => 1
 | s, p :: ps => if n <= keyF (addF s p.sum) k then 1 else findL k n (addF s p.sum) ps + 1
theorem findL_left (k n : Int) (m : List Pc) : ∀ (l : List Pc) (s : Sums), s.good -> AllGood l -> ¬ n <= keyF s k -> n <= keyF (addF s (sumL l)) k -> findL k n s (l ++ m) = findL k n s l
 | [], s, hs, _, h1, h2 => by rw [sumL_nil, addF_zero_right hs] at h2; exact absurd h2 h1
 | p :: l, s, hs, hl, h1, h2 => by
  have hp := hl p List.mem_cons_self
  have hl' : AllGood l := fun q hq => hl q (List.mem_cons_of_mem _ hq)
  rw [List.cons_append]
  unfold findL
  split
  ·rfl
  ·rename_i h3
   rw [findL_left k n m l (addF s p.sum) (addF_good hs hp).1 hl' h3 (by rw [addF_assoc hs hp (sumL_good hl').1]; exact h2)]
theorem findL_right (k n : Int) (m : List Pc) : ∀ (l : List Pc) (s : Sums), s.good -> AllGood l -> ¬ n <= keyF (addF s (sumL l)) k -> findL k n s (l ++ m) = findL k n (addF s (sumL l)) m + l.length
 | [], s, hs, _, h2 => by rw [sumL_nil, addF_zero_right hs]; simp
 | p :: l, s, hs, hl, h2 => by
  have hp := hl p List.mem_cons_self
  have hl' : AllGood l := fun q hq => hl q (List.mem_cons_of_mem _ hq)
  have e : addF (addF s p.sum) (sumL l) = addF s (sumL (p :: l)) := by rw [sumL_cons, addF_assoc hs hp (sumL_good hl').1]
  have hm := keyF_mono (addF_good hs hp).1 (sumL_good hl').1 k
  rw [e] at hm
  rw [List.cons_append]
  rw [show findL k n s (p :: (l ++ m)) = if n <= keyF (addF s p.sum) k then 1 else findL k n (addF s p.sum) (l ++ m) + 1 from rfl]
  rw [if_neg (by omega), findL_right k n m l (addF s p.sum) (addF_good hs hp).1 hl' (by rw [e]; exact h2), e, List.length_cons]
  omega
end Go.Proofs.YtgiihhikdoikgaaGreat
