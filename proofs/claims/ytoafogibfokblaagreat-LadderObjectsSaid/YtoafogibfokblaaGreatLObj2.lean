/-
  Package object, third part: checked, times, the kinds of cells, the runs of one kind. Package object, fourth part: Words.
-/
import Derived.Test.YtoafogibfokblaaGreatLHere
import Derived.Test.YtoafogibfokblaaGreatLSteady
set_option linter.unusedSimpArgs false
set_option linter.unusedVariables false
namespace Go.Proofs.YtoafogibfokblaaGreat
open Go.RowKit

theorem times_any (K : Int) (w : World) : Calls Tryz.prog 32 #[.agg #[.int .i64 K, .int .i64 0, .int .i64 0]] w fun e w' => e = .returned (.int .i64 1) ∧ Below w.heap.size w w' := by
  have hW1 : Below w.heap.size w (w.alloc (.cells #[.int .i64 K, .int .i64 0, .int .i64 0] 44)) := balloc (Below.refl _ _)
  have hM := Blk.new w 44 #[.int .i64 K, .int .i64 0, .int .i64 0]
  have c1 := hM.cell 1
  simp at c1
  go_enter Tryz.func32, Tryz.ntmps32
  go_wp2_with fail
  go_ret
  exact ⟨rfl, hW1⟩
set_option maxRecDepth 100000 in
set_option maxHeartbeats 1000000 in
theorem checked_any (D : Nat → Prop) (g : Nat) (enc : Int) (ds : List (Int × Int)) (at_ : Int) (w : World) (h : TextAt w D g enc ds) (h0 : 0 ≤ at_) (h1 : at_ ≤ (ds.length : Int)) :
    Calls Tryz.prog 27 #[.pointer (some ⟨g, 0, none⟩), .int .i64 at_, .agg #[.int .i64 61, .int .i64 0, .int .i64 0], .int .i64 61, .int .i64 64] w fun e w' => e = .returned (.int .i64 0) ∧ Below w.heap.size w w' := by
  have hW1 : Below w.heap.size w (w.alloc (.cells #[.int .i64 61, .int .i64 0, .int .i64 0] 44)) := balloc (Below.refl _ _)
  have hM := Blk.new w 44 #[.int .i64 61, .int .i64 0, .int .i64 0]
  have hle := len_any D g enc ds _ (h.below hW1)
  have c0 := hM.cell 0
  have c1 := hM.cell 1
  simp at c0 c1
  obtain ⟨n, hn⟩ : ∃ n, ds.length = n := ⟨_, rfl⟩
  rw [hn] at hle h1
  have q1 : (at_ < 0) = False := by simp; omega
  have q2 : ((n : Int) < at_) = False := by simp; omega
  have HLE := Lib.hid hle
  clear hle hn h
  go_enter Tryz.func27, Tryz.ntmps27
  go_wp2_with fail
  refine (HLE.out).mono ?_
  rintro e w2 ⟨rfl, hb2⟩
  go_wp2_with fail
  go_ret
  exact ⟨rfl, bseq hW1 hb2⟩
/-- the closure that tells a cell's kind: what it reads -/
structure SortAt (w : World) (p q N : Nat) (C : List Int) : Prop where
  big : w.cell? ⟨p, 0, none⟩ = some (.bool false)
  ex : ∃ gc oc c, w.cell? ⟨q, 0, none⟩ = some (.slice (some ⟨gc, oc, none⟩) N c) ∧ ∀ k, k < N → w.cell? ⟨gc, oc + k * 5 + 2, none⟩ = some (.int .i64 (kd C k))
theorem SortAt.below {w w' : World} {p q N : Nat} {C : List Int} (h : SortAt w p q N C) (hb : Below w.heap.size w w') : SortAt w' p q N C := by
  obtain ⟨gc, oc, c, h1, h2⟩ := h.ex
  exact ⟨cell_keep hb h.big, gc, oc, c, cell_keep hb h1, fun k hk => cell_keep hb (h2 k hk)⟩
set_option maxRecDepth 100000 in
theorem sort_any (p q N : Nat) (C : List Int) (j : Nat) (w : World) (h : SortAt w p q N C) (hj : j < N) (hN : N ≤ 1073741824) :
    Calls Tryz.prog 29 #[.int .i64 (j : Int), .pointer (some ⟨p, 0, none⟩), .pointer (some ⟨q, 0, none⟩)] w fun e w' => e = .returned (.int .i64 (kd C j)) ∧ w = w' := by
  obtain ⟨c0, gc, oc, c, c1, h2⟩ := h
  have c2 := h2 j hj
  obtain ⟨a, ha⟩ : ∃ a, kd C j = a := ⟨_, rfl⟩
  rw [ha] at c2 ⊢
  have z1 : (0 : Int) ≤ (j : Int) := by omega
  have z2 : (j : Int) < (N : Int) := by omega
  clear h2 ha
  go_enter Tryz.func29, Tryz.ntmps29
  go_wp2_with fail
  go_ret
  exact ⟨rfl, rfl⟩
/-- where the run of one kind ends that goes through the i-th cluster -/
structure RunE (C : List Int) (N i e : Nat) : Prop where
  lt : i < e
  le : e ≤ N
  same : ∀ k, i ≤ k → k < e → kd C k = kd C i
  last : e = N ∨ kd C e ≠ kd C i
structure RunB (C : List Int) (i b : Nat) : Prop where
  le : b ≤ i
  same : ∀ k, b ≤ k → k ≤ i → kd C k = kd C i
  first : b = 0 ∨ kd C (b - 1) ≠ kd C i
def rowsV (p q N : Nat) : Value := .agg #[.int .i64 (N : Int), .func (.func 29) #[] #[.pointer (some ⟨p, 0, none⟩), .pointer (some ⟨q, 0, none⟩)]]
def EndR (C : List Int) (N i : Nat) (w1 : World) (k : Nat) (q5 : Value) (wr : World) : Prop :=
  ∃ j : Nat, q5 = .int .i64 (j : Int) ∧ i < j ∧ j ≤ N ∧ N - j ≤ k ∧ Hid (∀ k, i ≤ k → k < j → kd C k = kd C i) ∧ Below w1.heap.size w1 wr
set_option maxRecDepth 100000 in
set_option maxHeartbeats 1000000 in
theorem end_any (p q N : Nat) (C : List Int) (i : Nat) (w : World) (h : SortAt w p q N C) (hi : i < N) (hN : N ≤ 1073741824) :
    Calls Tryz.prog 51 #[rowsV p q N, .int .i64 (i : Int)] w fun e w' => (∃ j : Nat, e = .returned (.int .i64 (j : Int)) ∧ RunE C N i j) ∧ Below w.heap.size w w' := by
  have hM := Blk.new w 77 #[.int .i64 (N : Int), .func (.func 29) #[] #[.pointer (some ⟨p, 0, none⟩), .pointer (some ⟨q, 0, none⟩)]]
  have hW1 : Below w.heap.size w (w.alloc (.cells #[.int .i64 (N : Int), .func (.func 29) #[] #[.pointer (some ⟨p, 0, none⟩), .pointer (some ⟨q, 0, none⟩)]] 77)) := balloc (Below.refl _ _)
  obtain ⟨w1, hw1⟩ : ∃ x, w.alloc (.cells #[.int .i64 (N : Int), .func (.func 29) #[] #[.pointer (some ⟨p, 0, none⟩), .pointer (some ⟨q, 0, none⟩)]] 77) = x := ⟨_, rfl⟩
  rw [hw1] at hM hW1
  have hF := fun (wy : World) (hy : Below w1.heap.size w1 wy) => (And.intro ((hM.below hy).cell 0) ((hM.below hy).cell 1))
  have hS := fun (wy : World) (hy : Below w1.heap.size w1 wy) (k : Nat) (hk : k < N) => sort_any p q N C k wy (h.below (bseq hW1 hy)) hk hN
  have hsum : IntKind.i64.wrap ((i : Int) + 1) = (i : Int) + 1 := IntWalk.i64_in _ (by omega)
  have he := Tryz.call29
  simp at hF
  have HF := Lib.hid hF
  have HS := Lib.hid hS
  clear hF hS hM h
  unfold rowsV
  go_enter Tryz.func51, Tryz.ntmps51
  go_wp2_with fail
  go_loopg [5] N (fun k q wr => EndR C N i w1 k q wr)
  case atStart => exact ⟨i + 1, by go_num, by omega, by omega, by omega, Lib.hid (fun k h1 h2 => by rw [show k = i by omega]), Below.refl _ _⟩
  case round =>
    obtain ⟨j, rfl, hij, hj, hk, hsame, hw⟩ := hrel
    have HB := Lib.hid hw
    obtain ⟨b, hb⟩ : ∃ a, kd C i = a := ⟨_, rfl⟩
    obtain ⟨a, ha⟩ : ∃ a, kd C j = a := ⟨_, rfl⟩
    have hsi := fun (wy : World) (hy : Below w1.heap.size w1 wy) => HS.out wy hy i hi
    rw [hb] at hsi
    have HI := Lib.hid hsi
    have Hb := Lib.hid hb
    have Ha := Lib.hid ha
    clear hsi hb
    by_cases hlt : j < N
    · have hsj := fun (wy : World) (hy : Below w1.heap.size w1 wy) => HS.out wy hy j hlt
      rw [ha] at hsj
      have HJ := Lib.hid hsj
      have zc : ((j : Int) < (N : Int)) = True := by simp; omega
      have hsm : IntKind.i64.wrap ((j : Int) + 1) = (j : Int) + 1 := IntWalk.i64_in _ (by omega)
      clear hsj ha
      go_upto_region 2 with fail
      refine wp_region_steady (fun w' => Below w1.heap.size w1 w') (by kernel_rfl) (by kernel_rfl) (Below.drew hw) ?_
      repeat (first
        | (refine wpSt_read (v := ?_) (by rfl) (fun w6 hSw => ?_) ?_; rotate_left; (· (obtain ⟨k0, k1⟩ := HF.out _ hSw; go_simp; first | done | with_reducible rfl)); (try simp only [Act.put, List.setIfInBounds_toArray, List.set_cons_zero, List.set_cons_succ]))
        | (refine wpSt_not (by rfl) ?_; (try simp only [Act.put, List.setIfInBounds_toArray, List.set_cons_zero, List.set_cons_succ]))
        | (refine wpSt_call (f := ?_) (args := ?_) (v := .int .i64 a) (by rfl) (fun w6 hSw => ?_) (fun w6 hSw => ?_) ?_; rotate_left 2; (· (obtain ⟨k0, k1⟩ := HF.out _ hSw; go_simp; first | done | (constructor <;> with_reducible rfl) | with_reducible rfl)); (· ((with_reducible refine (HJ.out _ hSw).mono ?_); rintro e w5 ⟨rfl, rfl⟩; exact ⟨rfl, hSw⟩)); (try simp only [Act.put, List.setIfInBounds_toArray, List.set_cons_zero, List.set_cons_succ]))
        | (refine wpSt_call (f := ?_) (args := ?_) (v := .int .i64 b) (by rfl) (fun w6 hSw => ?_) (fun w6 hSw => ?_) ?_; rotate_left 2; (· (obtain ⟨k0, k1⟩ := HF.out _ hSw; go_simp; first | done | (constructor <;> with_reducible rfl) | with_reducible rfl)); (· ((with_reducible refine (HI.out _ hSw).mono ?_); rintro e w5 ⟨rfl, rfl⟩; exact ⟨rfl, hSw⟩)); (try simp only [Act.put, List.setIfInBounds_toArray, List.set_cons_zero, List.set_cons_succ])))
      refine wpSt_nil ?_
      intro w2 hb2
      go_wp2_with fail
      · rename_i hab
        have hab' : a = b := by simpa using hab
        go_roundg (N - (j + 1))
        case measure => omega
        case rel =>
          refine ⟨j + 1, by go_num, by omega, by omega, Nat.le_refl _, Lib.hid (fun k h1 h2 => ?_), hb2⟩
          rcases Nat.eq_or_lt_of_le (show k ≤ j by omega) with h0 | h0
          · rw [h0, Ha.out, Hb.out]; exact hab'
          · exact hsame.out k h1 h0
      · rename_i hab
        have hab' : ¬ a = b := by simpa using hab
        go_ret
        refine ⟨⟨j, rfl, hij, hj, hsame.out, .inr ?_⟩, bseq hW1 hb2⟩
        rw [Ha.out, Hb.out]
        exact hab'
    · have hee : j = N := by omega
      subst hee
      have zc : ((j : Int) < (j : Int)) = False := by simp
      clear ha
      go_upto_region 2 with fail
      refine wp_region_steady (fun w' => Below w1.heap.size w1 w') (by kernel_rfl) (by kernel_rfl) (Below.drew hw) ?_
      repeat (first
        | (refine wpSt_read (v := ?_) (by rfl) (fun w6 hSw => ?_) ?_; rotate_left; (· (obtain ⟨k0, k1⟩ := HF.out _ hSw; go_simp; first | done | with_reducible rfl)); (try simp only [Act.put, List.setIfInBounds_toArray, List.set_cons_zero, List.set_cons_succ]))
        | (refine wpSt_not (by rfl) ?_; (try simp only [Act.put, List.setIfInBounds_toArray, List.set_cons_zero, List.set_cons_succ])))
      refine wpSt_nil ?_
      intro w2 hb2
      go_wp2_with fail
      go_ret
      exact ⟨⟨j, rfl, hij, Nat.le_refl _, hsame.out, .inl rfl⟩, bseq hW1 hb2⟩
def BegR (C : List Int) (i : Nat) (w1 : World) (k : Nat) (q1 : Value) (wr : World) : Prop :=
  ∃ j : Nat, q1 = .int .i64 (j : Int) ∧ j ≤ i ∧ j ≤ k ∧ Hid (∀ k, j ≤ k → k ≤ i → kd C k = kd C i) ∧ Below w1.heap.size w1 wr
set_option maxRecDepth 100000 in
set_option maxHeartbeats 1000000 in
theorem begin_run (p q N : Nat) (C : List Int) (i : Nat) (w : World) (h : SortAt w p q N C) (hi : i < N) (hN : N ≤ 1073741824) :
    Calls Tryz.prog 52 #[rowsV p q N, .int .i64 (i : Int)] w fun e w' => (∃ j : Nat, e = .returned (.int .i64 (j : Int)) ∧ RunB C i j) ∧ Below w.heap.size w w' := by
  have hM := Blk.new w 77 #[.int .i64 (N : Int), .func (.func 29) #[] #[.pointer (some ⟨p, 0, none⟩), .pointer (some ⟨q, 0, none⟩)]]
  have hW1 : Below w.heap.size w (w.alloc (.cells #[.int .i64 (N : Int), .func (.func 29) #[] #[.pointer (some ⟨p, 0, none⟩), .pointer (some ⟨q, 0, none⟩)]] 77)) := balloc (Below.refl _ _)
  obtain ⟨w1, hw1⟩ : ∃ x, w.alloc (.cells #[.int .i64 (N : Int), .func (.func 29) #[] #[.pointer (some ⟨p, 0, none⟩), .pointer (some ⟨q, 0, none⟩)]] 77) = x := ⟨_, rfl⟩
  rw [hw1] at hM hW1
  have hF := fun (wy : World) (hy : Below w1.heap.size w1 wy) => (And.intro ((hM.below hy).cell 0) ((hM.below hy).cell 1))
  have hS := fun (wy : World) (hy : Below w1.heap.size w1 wy) (k : Nat) (hk : k < N) => sort_any p q N C k wy (h.below (bseq hW1 hy)) hk hN
  have he := Tryz.call29
  simp at hF
  have HF := Lib.hid hF
  have HS := Lib.hid hS
  clear hF hS hM h
  unfold rowsV
  go_enter Tryz.func52, Tryz.ntmps52
  go_wp2_with fail
  go_loopg [1] i (fun k q wr => BegR C i w1 k q wr)
  case atStart => exact ⟨i, rfl, by omega, by omega, Lib.hid (fun k h1 h2 => by rw [show k = i by omega]), Below.refl _ _⟩
  case round =>
    obtain ⟨j, rfl, hj, hk, hsame, hw⟩ := hrel
    rcases Nat.eq_zero_or_pos j with hj0 | hj0
    · subst hj0
      go_upto_region 1 with fail
      refine wp_region_steady (fun w' => Below w1.heap.size w1 w') (by kernel_rfl) (by kernel_rfl) (Below.drew hw) ?_
      repeat (first
        | (refine wpSt_read (v := ?_) (by rfl) (fun w6 hSw => ?_) ?_; rotate_left; (· (obtain ⟨k0, k1⟩ := HF.out _ hSw; go_simp; first | done | with_reducible rfl)); (try simp only [Act.put, List.setIfInBounds_toArray, List.set_cons_zero, List.set_cons_succ]))
        | (refine wpSt_not (by rfl) ?_; (try simp only [Act.put, List.setIfInBounds_toArray, List.set_cons_zero, List.set_cons_succ])))
      refine wpSt_nil ?_
      intro w2 hb2
      go_wp2_with fail
      go_ret
      exact ⟨⟨0, rfl, by omega, hsame.out, .inl rfl⟩, bseq hW1 hb2⟩
    · obtain ⟨b, hb⟩ : ∃ a, kd C j = a := ⟨_, rfl⟩
      obtain ⟨a, ha⟩ : ∃ a, kd C (j - 1) = a := ⟨_, rfl⟩
      have hsi := fun (wy : World) (hy : Below w1.heap.size w1 wy) => HS.out wy hy j (by omega)
      have hsj := fun (wy : World) (hy : Below w1.heap.size w1 wy) => HS.out wy hy (j - 1) (by omega)
      rw [hb] at hsi
      rw [ha] at hsj
      have HI := Lib.hid hsi
      have HJ := Lib.hid hsj
      have Hb := Lib.hid hb
      have Ha := Lib.hid ha
      have hji := hsame.out j (Nat.le_refl _) hj
      have HJI := Lib.hid hji
      have zc : (0 < (j : Int)) = True := by simp; omega
      have hsm : IntKind.i64.wrap ((j : Int) - 1) = ((j - 1 : Nat) : Int) := by rw [show (j : Int) - 1 = ((j - 1 : Nat) : Int) by omega]; exact IntWalk.i64_in _ (by omega)
      clear hsi hb hsj ha hji
      go_upto_region 1 with fail
      refine wp_region_steady (fun w' => Below w1.heap.size w1 w') (by kernel_rfl) (by kernel_rfl) (Below.drew hw) ?_
      repeat (first
        | (refine wpSt_read (v := ?_) (by rfl) (fun w6 hSw => ?_) ?_; rotate_left; (· (obtain ⟨k0, k1⟩ := HF.out _ hSw; go_simp; first | done | with_reducible rfl)); (try simp only [Act.put, List.setIfInBounds_toArray, List.set_cons_zero, List.set_cons_succ]))
        | (refine wpSt_not (by rfl) ?_; (try simp only [Act.put, List.setIfInBounds_toArray, List.set_cons_zero, List.set_cons_succ]))
        | (refine wpSt_call (f := ?_) (args := ?_) (v := .int .i64 a) (by rfl) (fun w6 hSw => ?_) (fun w6 hSw => ?_) ?_; rotate_left 2; (· (obtain ⟨k0, k1⟩ := HF.out _ hSw; go_simp; first | done | (constructor <;> with_reducible rfl) | with_reducible rfl)); (· ((with_reducible refine (HJ.out _ hSw).mono ?_); rintro e w5 ⟨rfl, rfl⟩; exact ⟨rfl, hSw⟩)); (try simp only [Act.put, List.setIfInBounds_toArray, List.set_cons_zero, List.set_cons_succ]))
        | (refine wpSt_call (f := ?_) (args := ?_) (v := .int .i64 b) (by rfl) (fun w6 hSw => ?_) (fun w6 hSw => ?_) ?_; rotate_left 2; (· (obtain ⟨k0, k1⟩ := HF.out _ hSw; go_simp; first | done | (constructor <;> with_reducible rfl) | with_reducible rfl)); (· ((with_reducible refine (HI.out _ hSw).mono ?_); rintro e w5 ⟨rfl, rfl⟩; exact ⟨rfl, hSw⟩)); (try simp only [Act.put, List.setIfInBounds_toArray, List.set_cons_zero, List.set_cons_succ])))
      refine wpSt_nil ?_
      intro w2 hb2
      go_wp2_with fail
      · rename_i hab
        have hab' : a = b := by simpa using hab
        go_roundg (j - 1)
        case measure => omega
        case rel =>
          refine ⟨j - 1, rfl, by omega, Nat.le_refl _, Lib.hid (fun k h1 h2 => ?_), hb2⟩
          rcases Nat.eq_or_lt_of_le h1 with h0 | h0
          · rw [← h0, Ha.out, ← HJI.out, Hb.out]; exact hab'
          · exact hsame.out k (by omega) h2
      · rename_i hab
        have hab' : ¬ a = b := by simpa using hab
        go_ret
        refine ⟨⟨j, rfl, hj, hsame.out, .inr ?_⟩, bseq hW1 hb2⟩
        rw [Ha.out, ← HJI.out, Hb.out]
        exact hab'
set_option maxRecDepth 100000 in
set_option maxHeartbeats 1000000 in
theorem inner_any (p q N : Nat) (C : List Int) (i : Nat) (w : World) (h : SortAt w p q N C) (hi : i < N) (hN : N ≤ 1073741824) :
    Calls Tryz.prog 30 #[rowsV p q N, .int .i64 (i : Int), .int .i64 1] w fun e w' => (∃ b j : Nat, e = .returned (.tuple #[.int .i64 (b : Int), .int .i64 (j : Int), .bool true]) ∧ RunB C i b ∧ RunE C N i j) ∧ Below w.heap.size w w' := by
  have hM := Blk.new w 77 #[.int .i64 (N : Int), .func (.func 29) #[] #[.pointer (some ⟨p, 0, none⟩), .pointer (some ⟨q, 0, none⟩)]]
  have hW1 : Below w.heap.size w (w.alloc (.cells #[.int .i64 (N : Int), .func (.func 29) #[] #[.pointer (some ⟨p, 0, none⟩), .pointer (some ⟨q, 0, none⟩)]] 77)) := balloc (Below.refl _ _)
  obtain ⟨w1, hw1⟩ : ∃ x, w.alloc (.cells #[.int .i64 (N : Int), .func (.func 29) #[] #[.pointer (some ⟨p, 0, none⟩), .pointer (some ⟨q, 0, none⟩)]] 77) = x := ⟨_, rfl⟩
  rw [hw1] at hM hW1
  have hF := fun (wy : World) (hy : Below w1.heap.size w1 wy) => (And.intro ((hM.below hy).cell 0) ((hM.below hy).cell 1))
  have hE := fun (wy : World) (hy : Below w1.heap.size w1 wy) => end_any p q N C i wy (h.below (bseq hW1 hy)) hi hN
  have hB := fun (wy : World) (hy : Below w1.heap.size w1 wy) => begin_run p q N C i wy (h.below (bseq hW1 hy)) hi hN
  simp at hF
  unfold rowsV at hE hB
  have HF := Lib.hid hF
  have HE := Lib.hid hE
  have HB := Lib.hid hB
  clear hF hE hB hM h
  unfold rowsV
  go_enter Tryz.func30, Tryz.ntmps30
  go_wp2_with fail
  go_loopg [9, 12] 1 (fun k q9 q12 wr => ((q9 = .int .i64 (i : Int) ∧ q12 = .int .i64 0 ∧ k = 1) ∨ (∃ j : Nat, RunE C N i j ∧ q9 = .int .i64 (j : Int) ∧ q12 = .int .i64 1)) ∧ Below w1.heap.size w1 wr)
  case atStart => exact ⟨.inl ⟨rfl, rfl, rfl⟩, Below.refl _ _⟩
  case round =>
    obtain ⟨⟨rfl, rfl, rfl⟩ | ⟨j, hj, rfl, rfl⟩, hw⟩ := hrel
    · obtain ⟨k0, k1⟩ := HF.out _ hw
      have zc : ((N : Int) ≤ (i : Int)) = False := by simp; omega
      go_wp2_with fail
      refine (HE.out _ hw).mono ?_
      rintro e w2 ⟨⟨j, rfl, hj⟩, hb2⟩
      go_wp2_with fail
      go_roundg 0
      case measure => omega
      case rel => exact ⟨.inr ⟨j, hj, rfl, rfl⟩, bseq hw hb2⟩
    · obtain ⟨k0, k1⟩ := HF.out _ hw
      go_wp2_with fail
      refine (HB.out _ hw).mono ?_
      rintro e w2 ⟨⟨b, rfl, hb⟩, hb2⟩
      go_wp2_with fail
      go_ret3
      exact ⟨⟨b, j, rfl, hb, hj⟩, bseq hW1 (bseq hw hb2)⟩
end Go.Proofs.YtoafogibfokblaaGreat
namespace Go.Proofs.YtoafogibfokblaaGreat
open Go.RowKit

theorem sortAt_of {w : World} {p q gc oc N c : Nat} {F : Int} {C : List Int} (h0 : w.cell? ⟨p, 0, none⟩ = some (.bool false)) (h1 : w.cell? ⟨q, 0, none⟩ = some (.slice (some ⟨gc, oc, none⟩) N c))
    (h2 : ∀ k, k < N → (w.cell? ⟨gc, oc + k * 5, none⟩ = some (.int .i64 (F + (mkb C k : Int))) ∧ w.cell? ⟨gc, oc + k * 5 + 1, none⟩ = some (.int .i64 (F + (mkb C (k + 1) : Int))) ∧
      w.cell? ⟨gc, oc + k * 5 + 2, none⟩ = some (.int .i64 (kd C k)) ∧ w.cell? ⟨gc, oc + k * 5 + 3, none⟩ = some (.bool ((mkb C (k + 1) : Int) == (mkb C k : Int) + 1)) ∧ w.cell? ⟨gc, oc + k * 5 + 4, none⟩ = some (.int .i64 (C.getD (mkb C k) 0)))) : SortAt w p q N C :=
  ⟨h0, gc, oc, c, h1, fun k hk => (h2 k hk).2.2.1⟩
theorem span_ret {w : World} {q : Nat} {x y z u0 u1 u2 : Int} (hB : Blk w q 40 #[.int .i64 u0, .int .i64 u1, .int .i64 u2]) :
    (((w.setCell ⟨q, 0, none⟩ (.int .i64 x)).setCell ⟨q, 1, none⟩ (.int .i64 y)).setCell ⟨q, 2, none⟩ (.int .i64 z)).cell? ⟨q, 0, none⟩ = some (.int .i64 x) ∧
    (((w.setCell ⟨q, 0, none⟩ (.int .i64 x)).setCell ⟨q, 1, none⟩ (.int .i64 y)).setCell ⟨q, 2, none⟩ (.int .i64 z)).cell? ⟨q, 1, none⟩ = some (.int .i64 y) ∧
    (((w.setCell ⟨q, 0, none⟩ (.int .i64 x)).setCell ⟨q, 1, none⟩ (.int .i64 y)).setCell ⟨q, 2, none⟩ (.int .i64 z)).cell? ⟨q, 2, none⟩ = some (.int .i64 z) := by
  have hB3 := ((hB.set_ 0 (.int .i64 x)).set_ 1 (.int .i64 y)).set_ 2 (.int .i64 z)
  have d0 := hB3.cell 0
  have d1 := hB3.cell 1
  have d2 := hB3.cell 2
  simp at d0 d1 d2
  exact ⟨d0, d1, d2⟩
theorem span_facts {w : World} {q : Nat} {u0 u1 u2 : Int} (hB : Blk w q 40 #[.int .i64 u0, .int .i64 u1, .int .i64 u2]) :
    w.cell? ⟨q, 0, none⟩ = some (.int .i64 u0) ∧ w.cell? ⟨q, 1, none⟩ = some (.int .i64 u1) ∧ w.cell? ⟨q, 2, none⟩ = some (.int .i64 u2) ∧ w.frozen? ⟨q, 0, none⟩ = false ∧ w.frozen? ⟨q, 1, none⟩ = false ∧ w.frozen? ⟨q, 2, none⟩ = false :=
  ⟨hB.cell 0, hB.cell 1, hB.cell 2, hB.frozen 0, hB.frozen 1, hB.frozen 2⟩
theorem below_st3 {W w : World} {q : Nat} {x y z : Value} (h : Below W.heap.size W w) (hq : W.heap.size ≤ q) :
    Below W.heap.size W (((w.setCell ⟨q, 0, none⟩ x).setCell ⟨q, 1, none⟩ y).setCell ⟨q, 2, none⟩ z) := ((h.setCell hq _).setCell hq _).setCell hq _
/-- which cell is meant -/
noncomputable def cellX (C : List Int) (j : Nat) : Nat := if j < nC C then j else nC C - 1
def WordsPost (F : Int) (C : List Int) (j : Nat) (w : World) (e : Ending) (w' : World) : Prop :=
  ((nC C = 0 ∧ e = .returned (.tuple #[.agg #[.int .i64 0, .int .i64 0, .int .i64 0], .int .i64 90])) ∨
    (0 < nC C ∧ ∃ b j' : Nat, RunB C (cellX C j) b ∧ RunE C (nC C) (cellX C j) j' ∧ e = .returned (.tuple #[.agg #[.int .i64 (F + (mkb C b : Int)), .int .i64 (F + (mkb C j' : Int)), .int .i64 0], .int .i64 0]))) ∧ Below w.heap.size w w'
set_option maxRecDepth 100000 in
set_option maxHeartbeats 2000000 in
theorem owords_any (D : Nat → Prop) (g : Nat) (enc : Int) (ds : List (Int × Int)) (at_ : Int) (r j : Nat) (w : World) (h : TextAt w D g enc ds) (h0 : 0 ≤ at_) (h1 : at_ ≤ (ds.length : Int)) (hr : at_ = (lineF ds (ofF ds at_)).from_ + (r : Int)) (hj : InC (cont ds (ofF ds at_)) r j) :
    Calls Tryz.prog 14 #[.pointer (some ⟨g, 0, none⟩), .int .i64 at_, .agg #[.int .i64 61, .int .i64 0, .int .i64 0]] w fun e w' => WordsPost (lineF ds (ofF ds at_)).from_ (cont ds (ofF ds at_)) j w e w' := by
  have hp := h.pos
  have hix := ofF_le ds at_
  have hcl := cont_len hp hix
  have hbd := lineF_bd hp hix
  have hlen := h.len
  have hc0 : (cont ds (ofF ds at_)).length ≤ 1073741824 := by omega
  have hM := Blk.new w 44 #[.int .i64 61, .int .i64 0, .int .i64 0]
  have hM1 := hM.alloc (.cells #[.int .i64 0, .int .i64 0, .int .i64 0] 40)
  have hSp := Blk.new (w.alloc (.cells #[.int .i64 61, .int .i64 0, .int .i64 0] 44)) 40 #[.int .i64 0, .int .i64 0, .int .i64 0]
  have hW1 : Below w.heap.size w ((w.alloc (.cells #[.int .i64 61, .int .i64 0, .int .i64 0] 44)).alloc (.cells #[.int .i64 0, .int .i64 0, .int .i64 0] 40)) := balloc (balloc (Below.refl _ _))
  rw [World.size_alloc] at hSp
  have hck := checked_any D g enc ds at_ _ (h.below hW1) h0 h1
  have hhe := fun (wy : World) (hy : Below w.heap.size w wy) => here_any D g enc ds at_ r j wy (h.below hy) hr hj
  obtain ⟨F, hF⟩ : ∃ F, (lineF ds (ofF ds at_)).from_ = F := ⟨_, rfl⟩
  obtain ⟨C, hC⟩ : ∃ C, cont ds (ofF ds at_) = C := ⟨_, rfl⟩
  rw [hF, hC] at hhe
  rw [hC] at hc0
  rw [hF, hC]
  have hnn := nC_le C
  have HCK := Lib.hid hck
  have HHE := Lib.hid hhe
  clear hck hhe hF hC hr hj h hp hix hcl hbd hlen
  have hMc := hM1.cell 0
  have hMd := hM1.cell 1
  have hMe := hM1.cell 2
  simp at hMc hMd hMe
  go_enter Tryz.func14, Tryz.ntmps14
  go_wp2_with fail
  refine (HCK.out).mono ?_
  rintro e w2 ⟨rfl, hb2⟩
  go_wp2_with fail
  refine (HHE.out _ (bseq hW1 hb2)).mono ?_
  rintro e w3 ⟨v, rfl, hown, hb3⟩
  have hW3 := bseq (bseq hW1 hb2) hb3
  have hM3 := (hM1.below hb2).below hb3
  have hSp3 := (hSp.below hb2).below hb3
  clear hMc hMd hMe
  obtain ⟨A, c, rfl, hcc⟩ := own_slice hown
  rcases Nat.eq_zero_or_pos (nC C) with hn0 | hn0
  · have hx : hereX C j = -1 := by unfold hereX; rw [hn0]; simp
    rw [hx]
    have hSp4 := hSp3.alloc (.cells #[.slice A 0 c] 71)
    have HW := Lib.hid hown
    clear hown
    obtain ⟨c0, c1, c2, f0, f1, f2⟩ := span_facts hSp4
    go_wp2_with fail
    obtain ⟨e0, e1, e2⟩ := span_ret (x := 0) (y := 0) (z := 0) hSp4
    exact bodyPost_ret (v := .tuple #[.agg #[.int .i64 0, .int .i64 0, .int .i64 0], .int .i64 90]) (by simp [results, Tryz.results14, go_sem, e0, e1, e2]) rfl ⟨.inl ⟨hn0, rfl⟩, below_st3 (balloc hW3) (by omega)⟩
  · have hRd := Reads.of_own hown
    have HRD := Lib.hid hRd
    clear hRd hown
    obtain ⟨N, hN⟩ : ∃ N, nC C = N := ⟨_, rfl⟩
    have HNN := Lib.hid hN
    rw [hN] at hcc hnn hn0 HRD
    rw [hN]
    obtain ⟨i, hi⟩ : ∃ i, cellX C j = i := ⟨_, rfl⟩
    have hx : hereX C j = (i : Int) := by
      rw [← hi]
      unfold hereX cellX
      rw [hN]
      split
      · rfl
      · omega
    have hiN : i < N := by
      rw [← hi]
      unfold cellX
      rw [hN]
      split <;> omega
    rw [hx]
    have HI := Lib.hid hi
    obtain ⟨gc, oc, rfl, _, hcc5⟩ := cells_form HRD.out hn0
    have HC5 := Lib.hid hcc5
    clear hN hi hx hcc5
    have hWa : Below w3.heap.size w3 (w3.alloc (.cells #[.slice (some ⟨gc, oc, none⟩) N c] 71)) := balloc (Below.refl _ _)
    have hMa := hM3.below hWa
    have m0 := hMa.cell 0
    simp at m0
    go_upto_region 8 with fail
    have hq9 := (Blk.new w3 71 #[.slice (some ⟨gc, oc, none⟩) N c]).alloc (.cells #[.bool false] 4)
    have hq11 := Blk.new (w3.alloc (.cells #[.slice (some ⟨gc, oc, none⟩) N c] 71)) 4 #[.bool false]
    rw [World.size_alloc] at hq11
    have q9c := hq9.cell 0
    simp at q9c
    have hWc : Below w3.heap.size w3 (((w3.alloc (.cells #[.slice (some ⟨gc, oc, none⟩) N c] 71)).alloc (.cells #[.bool false] 4)).alloc (.cells #[.int .i64 (N : Int), .func (.func 29) #[] #[.pointer (some ⟨w3.heap.size + 1, 0, none⟩), .pointer (some ⟨w3.heap.size, 0, none⟩)]] 77)) := balloc (balloc (balloc (Below.refl _ _)))
    have hq12 := Blk.new ((w3.alloc (.cells #[.slice (some ⟨gc, oc, none⟩) N c] 71)).alloc (.cells #[.bool false] 4)) 77 #[.int .i64 (N : Int), .func (.func 29) #[] #[.pointer (some ⟨w3.heap.size + 1, 0, none⟩), .pointer (some ⟨w3.heap.size, 0, none⟩)]]
    have hq9c := hq9.alloc (.cells #[.int .i64 (N : Int), .func (.func 29) #[] #[.pointer (some ⟨w3.heap.size + 1, 0, none⟩), .pointer (some ⟨w3.heap.size, 0, none⟩)]] 77)
    have hq11c := hq11.alloc (.cells #[.int .i64 (N : Int), .func (.func 29) #[] #[.pointer (some ⟨w3.heap.size + 1, 0, none⟩), .pointer (some ⟨w3.heap.size, 0, none⟩)]] 77)
    have hMc := hM3.below hWc
    rw [World.size_alloc, World.size_alloc] at hq12
    have r0 := hq12.cell 0
    have r1 := hq12.cell 1
    have r2 := hq9c.cell 0
    have r3 := hq11c.cell 0
    have n0 := hMc.cell 0
    have n1 := hMc.cell 1
    have n2 := hMc.cell 2
    simp at r0 r1 r2 r3 n0 n1 n2
    have hsa : SortAt _ (w3.heap.size + 1) w3.heap.size N C := sortAt_of r3 r2 (fun k hk => by
      obtain ⟨k0, k1, k2, k3, k4⟩ := HC5.out k hk
      exact ⟨cell_keep hWc k0, cell_keep hWc k1, cell_keep hWc k2, cell_keep hWc k3, cell_keep hWc k4⟩)
    have hti := times_any 61 (((w3.alloc (.cells #[.slice (some ⟨gc, oc, none⟩) N c] 71)).alloc (.cells #[.bool false] 4)).alloc (.cells #[.int .i64 (N : Int), .func (.func 29) #[] #[.pointer (some ⟨w3.heap.size + 1, 0, none⟩), .pointer (some ⟨w3.heap.size, 0, none⟩)]] 77))
    have HTI := Lib.hid hti
    have HSA := Lib.hid hsa
    have HSP := Lib.hid hSp3
    clear hti hsa hSp3 hq9 hq11 hq12 hq9c hq11c hM3 hMa m0
    go_wp2_with fail
    refine (HTI.out).mono ?_
    rintro e w4 ⟨rfl, hb4⟩
    have hin := inner_any (w3.heap.size + 1) w3.heap.size N C i w4 (HSA.out.below hb4) hiN (by omega)
    unfold rowsV at hin
    have HIN := Lib.hid hin
    clear hin
    go_wp2_with fail
    refine (HIN.out).mono ?_
    rintro e w5 ⟨⟨b, j', rfl, hrb, hre⟩, hb5⟩
    have hW5 := bseq (bseq hWc hb4) hb5
    have hr2 := cell_keep hb5 (cell_keep hb4 r2)
    have hb1' := hrb.le
    have he1 := hre.lt
    have he2 := hre.le
    obtain ⟨j1, hj1⟩ : ∃ j1, j1 + 1 = j' := ⟨j' - 1, by omega⟩
    have hcb := cell_keep hW5 (HC5.out b (by omega)).1
    have hce := cell_keep hW5 (HC5.out j1 (by omega)).2.1
    rw [hj1] at hce
    have hsub : IntKind.i64.wrap ((j' : Int) - 1) = (j1 : Int) := by rw [show (j' : Int) - 1 = (j1 : Int) by omega]; exact IntWalk.i64_in _ (by omega)
    have z1 : (0 : Int) ≤ (b : Int) := by omega
    have z2 : (b : Int) < (N : Int) := by omega
    have z3 : (0 : Int) ≤ (j1 : Int) := by omega
    have z4 : (j1 : Int) < (N : Int) := by omega
    have hSp5 := HSP.out.below hW5
    obtain ⟨l0, l1, l2, l3, l4, l5⟩ := span_facts hSp5
    obtain ⟨P, hP⟩ : ∃ P, F + (mkb C b : Int) = P := ⟨_, rfl⟩
    obtain ⟨Q, hQ⟩ : ∃ P, F + (mkb C j' : Int) = P := ⟨_, rfl⟩
    rw [hP] at hcb
    rw [hQ] at hce
    have HP := Lib.hid hP
    have HQ := Lib.hid hQ
    have HJ1 := Lib.hid hj1
    clear hP hQ hj1 r0 r1 r2 r3 n0 n1 n2 q9c
    go_upto_region 15 with fail
    go_still_tail 12, (by kernel_rfl)
    go_wp2_with fail
    obtain ⟨e0, e1, e2⟩ := span_ret (x := P) (y := Q) (z := 0) hSp5
    have e0' : (((w5.setCell ⟨w.heap.size + 1, 0, none⟩ (.int .i64 P)).setCell ⟨w.heap.size + 1, 1, none⟩ (.int .i64 Q)).setCell ⟨w.heap.size + 1, 2, none⟩ (.int .i64 0)).drew.cell? ⟨w.heap.size + 1, 0, none⟩ = some (.int .i64 P) := e0
    have e1' : (((w5.setCell ⟨w.heap.size + 1, 0, none⟩ (.int .i64 P)).setCell ⟨w.heap.size + 1, 1, none⟩ (.int .i64 Q)).setCell ⟨w.heap.size + 1, 2, none⟩ (.int .i64 0)).drew.cell? ⟨w.heap.size + 1, 1, none⟩ = some (.int .i64 Q) := e1
    have e2' : (((w5.setCell ⟨w.heap.size + 1, 0, none⟩ (.int .i64 P)).setCell ⟨w.heap.size + 1, 1, none⟩ (.int .i64 Q)).setCell ⟨w.heap.size + 1, 2, none⟩ (.int .i64 0)).drew.cell? ⟨w.heap.size + 1, 2, none⟩ = some (.int .i64 0) := e2
    refine bodyPost_ret (v := .tuple #[.agg #[.int .i64 P, .int .i64 Q, .int .i64 0], .int .i64 0]) (by simp [results, Tryz.results14, go_sem, e0', e1', e2']) rfl ⟨.inr ⟨by rw [HNN.out]; exact hn0, b, j', ?_, ?_, ?_⟩, Below.drew (below_st3 (bseq hW3 hW5) (by omega))⟩
    · rw [HI.out]; exact hrb
    · rw [HI.out, HNN.out]; exact hre
    · rw [HP.out, HQ.out]
end Go.Proofs.YtoafogibfokblaaGreat
