/-
  The walks of package cluster, fifth part: Next.
-/
import Derived.Test.YtoafogibfokblaaGreatLCluster4
set_option linter.unusedSimpArgs false
set_option linter.unusedVariables false
namespace Go.Proofs.YtoafogibfokblaaGreat
open Go.RowKit

set_option maxRecDepth 100000 in
set_option maxHeartbeats 1000000 in
theorem next1_any (ga gf p k s : Nat) (w : World) (ha : Blk w ga 3 #[.int .i64 (p : Int)]) (hf : Blk w gf 3 #[.int .i64 (s : Int)]) (hne : ga ≠ gf) (hk : k ≤ 2147483648) (hp : p ≤ 2147483648) :
    Calls Tryz.prog 39 #[.int .i64 (k : Int), .pointer (some ⟨ga, 0, none⟩), .pointer (some ⟨gf, 0, none⟩)] w fun e w' =>
      e = .returned (.bool (decide (k ≤ p))) ∧ (Blk w' ga 3 #[.int .i64 (p : Int)] ∧ Blk w' gf 3 #[.int .i64 ((if p < k then k else s : Nat) : Int)]) ∧ Fr (· = gf) w w' := by
  have c0 := ha.cell 0
  have c1 := hf.cell 0
  have f1 := hf.frozen 0
  simp at c0 c1
  by_cases h : p < k
  · go_enter Tryz.func39, Tryz.ntmps39
    go_wp2
    go_ret
    refine ⟨ret_b ?_, ⟨ha.far hne _, ?_⟩, (Fr.refl _ _).set1 _ _⟩
    · show decide (k ≤ p) = decide (k ≤ p) <;> rfl
    · exact hf.set_ 0 _
  · go_enter Tryz.func39, Tryz.ntmps39
    go_wp2
    go_ret
    refine ⟨ret_b ?_, ⟨ha, ?_⟩, Fr.refl _ _⟩
    · show decide (k ≤ p) = decide (k ≤ p) <;> rfl
    · exact hf
/-- the least boundary above an offset -/
noncomputable def nextF (l : List Int) (p : Nat) : Nat :=
  if p < l.length then foldU (fun (s k : Nat) => (decide (k ≤ p), if p < k then k else s)) l.length (bnds l (safeF l (p + 1))) else l.length
theorem safeG_le (l : List Int) (k : Nat) : safeG l k ≤ k := by
  induction k with
  | zero => simp [safeG]
  | succ k ih => simp only [safeG]; split <;> omega
theorem safeF_le (l : List Int) (p : Nat) : safeF l p ≤ l.length := by
  have := safeG_le l (min p l.length - 1)
  unfold safeF
  omega
set_option maxRecDepth 100000 in
set_option maxHeartbeats 1000000 in
theorem next_any (D : Nat → Prop) (A : Option Addr) (n c : Nat) (l : List Int) (p : Nat) (w : World) (hl : Ints w D A n l) (hn : n ≤ 2147483647) (hp : p ≤ 2147483647) :
    Calls Tryz.prog 17 #[.slice A n c, .int .i64 (p : Int)] w fun e w' => e = .returned (.int .i64 (nextF l p : Nat)) ∧ Below w.heap.size w w' := by
  have hle1 : l.length ≤ n := Nat.le_of_eq hl.len
  have hle2 : n ≤ l.length := Nat.le_of_eq hl.len.symm
  by_cases h : p < n
  · go_enter Tryz.func17, Tryz.ntmps17
    have h0 : (0 : Int) ≤ (p : Int) ∧ ¬ n ≤ p := ⟨by omega, by omega⟩
    go_wp2_with fail
    have hcast : ((p : Int) + 1) = ((p + 1 : Nat) : Int) := by omega
    rw [hcast]
    clear hcast
    have hW : Below w.heap.size w ((w.alloc (.cells #[.int .i64 (p : Int)] 3)).alloc (.cells #[.int .i64 (n : Int)] 3)) := ((Below.refl _ w).alloc (Nat.le_refl _) _).alloc (by simp) _
    have ha0 : Blk ((w.alloc (.cells #[.int .i64 (p : Int)] 3)).alloc (.cells #[.int .i64 (n : Int)] 3)) w.heap.size 3 #[.int .i64 (p : Int)] := (Blk.new w _ _).alloc _
    have hf0 : Blk ((w.alloc (.cells #[.int .i64 (p : Int)] 3)).alloc (.cells #[.int .i64 (n : Int)] 3)) (w.heap.size + 1) 3 #[.int .i64 (n : Int)] := by
      have := Blk.new (w.alloc (.cells #[.int .i64 (p : Int)] 3)) 3 #[.int .i64 (n : Int)]
      simpa using this
    refine (safe_any D A n c l (p + 1) _ (Reads.below hl hW) (by omega) (by omega)).mono ?_
    rintro e w1 ⟨rfl, hb1⟩
    go_wp2_with fail
    have hl1 : Ints w1 (fun b => b < w.heap.size) A n l := Reads.below (Reads.below (Reads.more hl (fun b _ h => h) (by omega)) hW) hb1
    have ha1 := ha0.below hb1
    have hf1 := hf0.below hb1
    have hz1 : w.heap.size + 2 ≤ w1.heap.size := by have := hb1.size; simp at this; omega
    have hW1 : Below w.heap.size w w1 := hW.trans (hb1.mono (by simp; omega))
    have hy : Yields 39 #[.pointer (some ⟨w.heap.size, 0, none⟩), .pointer (some ⟨w.heap.size + 1, 0, none⟩)] (· = w.heap.size + 1) w1.heap.size
        (fun (s : Nat) w' => Blk w' w.heap.size 3 #[.int .i64 (p : Int)] ∧ Blk w' (w.heap.size + 1) 3 #[.int .i64 (s : Int)]) (fun (s k : Nat) => (decide (k ≤ p), if p < k then k else s)) n (fun _ => 0) := by
      constructor
      · intro s k h; omega
      · intro s k w2 hk _ ⟨j1, j2⟩ _
        exact next1_any _ _ p k s w2 j1 j2 (by omega) (by omega) (by omega)
      · exact Tryz.call39
      · intro s w2 w3 ⟨j1, j2⟩ hk
        exact ⟨hk _ _ j1 (fun cs f e => by injection e with _ e; exact absurd e (by decide)), hk _ _ j2 (fun cs f e => by injection e with _ e; exact absurd e (by decide))⟩
    have hsf := safeF_le l (p + 1)
    refine (cwalk_any _ _ _ _ _ _ _ A n c l (safeF l (p + 1)) n _ hl1 (fun b h _ h' => by omega) (by omega) (by omega) hy ⟨ha1, hf1⟩ (by simp)).mono ?_
    rintro e w2 ⟨rfl, ⟨j1, j2⟩, hf⟩
    have c1 := j2.cell 0
    simp at c1
    have hres : nextF l p = foldU (fun (s k : Nat) => (decide (k ≤ p), if p < k then k else s)) n (bnds l (safeF l (p + 1))) := by
      unfold nextF
      rw [if_pos (by omega), show l.length = n by omega]
    rw [← hres] at c1
    have HR := Lib.hid hres
    clear hres
    go_wp2_with fail
    go_ret
    exact ⟨rfl, bfr hW1 hf (fun i hi => by omega)⟩
  · go_enter Tryz.func17, Tryz.ntmps17
    go_wp2
    all_goals
      go_ret
      refine ⟨ret_i ?_, (Below.refl _ w).alloc (Nat.le_refl _) _⟩
      unfold nextF
      rw [if_neg (by omega)]
      first
        | (show (n : Int) = _; omega)
        | (show (p : Int) = _; omega)
end Go.Proofs.YtoafogibfokblaaGreat
