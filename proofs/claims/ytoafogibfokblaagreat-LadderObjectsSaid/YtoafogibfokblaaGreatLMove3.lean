/-
  The movers of package motion, third part: Clamp ahead of a line's end, wordMove.
-/
import Derived.Test.YtoafogibfokblaaGreatLMove2
import Derived.Test.YtoafogibfokblaaGreatLSure
set_option linter.unusedSimpArgs false
set_option linter.unusedVariables false
namespace Go.Proofs.YtoafogibfokblaaGreat
open Go.RowKit

theorem row7_of {w : World} {b : Nat} {L : Ln} {i : Int} {A1 A2 : Option Addr} {n1 c1 n2 c2 : Nat} (h : Blk w b 109 (rowV L i A1 n1 c1 A2 n2 c2)) :
    w.cell? ⟨b, 0, none⟩ = some (.int .i64 L.from_) ∧ w.cell? ⟨b, 1, none⟩ = some (.int .i64 L.to_) ∧ w.cell? ⟨b, 2, none⟩ = some (.int .i64 L.next) ∧ w.cell? ⟨b, 3, none⟩ = some (.int .i64 L.brk) ∧ w.cell? ⟨b, 4, none⟩ = some (.int .i64 i) ∧
      w.cell? ⟨b, 5, none⟩ = some (.slice A1 n1 c1) ∧ w.cell? ⟨b, 6, none⟩ = some (.slice A2 n2 c2) := (row_facts h).1
set_option maxRecDepth 100000 in
set_option maxHeartbeats 1000000 in
theorem clamp_any (D : Nat → Prop) (g : Nat) (enc : Int) (ds : List (Int × Int)) (at_ : Int) (r j : Nat) (w : World) (h : TextAt w D g enc ds) (hr : at_ = (lineF ds (rowIx ds at_ false)).from_ + (r : Int)) (hlt : at_ < (lineF ds (rowIx ds at_ false)).to_)
    (hj : InC (cont ds (rowIx ds at_ false)) r j) :
    Calls Tryz.prog 54 #[.pointer (some ⟨g, 0, none⟩), .int .i64 at_, .bool false] w fun e w' => e = .returned (.int .i64 ((lineF ds (rowIx ds at_ false)).from_ + (mkb (cont ds (rowIx ds at_ false)) j : Int))) ∧ Below w.heap.size w w' := by
  have hp := h.pos
  have hix := rowIx_le ds at_ false
  have hbd := lineF_bd hp hix
  have hcl := cont_len hp hix
  have hlen := h.len
  have hra := rowAt_any D g enc ds at_ false w h
  have hle := fun (wy : World) (hy : Below w.heap.size w wy) => len_any D g enc ds wy (h.below hy)
  obtain ⟨I, hI⟩ : ∃ I, rowIx ds at_ false = I := ⟨_, rfl⟩
  rw [hI] at hbd hcl hra hr hlt hj ⊢
  obtain ⟨L, hL⟩ : ∃ L, lineF ds I = L := ⟨_, rfl⟩
  obtain ⟨C, hC⟩ : ∃ C, cont ds I = C := ⟨_, rfl⟩
  rw [hL] at hbd hcl hra hr hlt ⊢
  rw [hC] at hcl hra hj ⊢
  obtain ⟨n, hn⟩ : ∃ n, ds.length = n := ⟨_, rfl⟩
  rw [hn] at hle hlen hbd
  have hl0 : 0 ≤ L.from_ ∧ L.from_ ≤ 1073741824 := by omega
  have hc0 : C.length ≤ 1073741824 := by omega
  have ha0 : 0 ≤ at_ := by omega
  have ha1 : at_ ≤ (n : Int) := by omega
  have q1 : (at_ < 0) = False := by simp; omega
  have q2 : ((n : Int) < at_) = False := by simp; omega
  have q3 : max at_ 0 = at_ := by omega
  have q4 : min at_ (n : Int) = at_ := by omega
  have q5 : (L.to_ ≤ at_) = False := by simp; omega
  obtain ⟨P, hP⟩ : ∃ P, L.from_ + (mkb C j : Int) = P := ⟨_, rfl⟩
  rw [hP]
  have HP := Lib.hid hP
  clear hP
  have HRA := Lib.hid hra
  have HLE := Lib.hid hle
  have HR := Lib.hid hr
  have HJ := Lib.hid hj
  clear hra hle hI hL hC hix hp hcl hbd h hr hj hn
  go_enter Tryz.func54, Tryz.ntmps54
  go_wp2_with fail
  refine (HRA.out).mono ?_
  rintro e w1 ⟨v, rfl, hrow, hb1⟩
  have hco := fun (wy : World) (hy : Below w1.heap.size w1 wy) => column_mk _ L I C v r wy (hrow.below hy) hl0 hc0
  have hpl := fun (wy : World) (hy : Below w1.heap.size w1 wy) => place_mk _ L I C v j wy (hrow.below hy) hl0 hc0 HJ.out.le
  rw [← HR.out] at hco
  rw [HP.out] at hpl
  obtain ⟨A1, n1, c1, A2, n2, c2, rfl⟩ := first_v hrow
  have HCO := Lib.hid hco
  have HPL := Lib.hid hpl
  clear hco hrow hpl
  have hf := fun (wy : World) (hy : Below (w1.alloc (.cells (rowV L I A1 n1 c1 A2 n2 c2) 109)).heap.size (w1.alloc (.cells (rowV L I A1 n1 c1 A2 n2 c2) 109)) wy) => row7_of ((Blk.new w1 109 (rowV L I A1 n1 c1 A2 n2 c2)).below hy)
  have hw1 : Below w1.heap.size w1 (w1.alloc (.cells (rowV L I A1 n1 c1 A2 n2 c2) 109)) := balloc (Below.refl _ _)
  obtain ⟨x0, x1, x2, x3⟩ := L
  unfold rowV at HCO HPL hf hw1 ⊢
  dsimp only at HCO HPL hf hl0 hw1 q5 ⊢
  have HF := Lib.hid hf
  clear hf
  go_wp2_with fail
  refine (HLE.out _ (bseq hb1 hw1)).mono ?_
  rintro e w2 ⟨rfl, hb2⟩
  obtain ⟨g0, g1, g2, g3, g4, g5, g6⟩ := HF.out _ hb2
  go_upto_region 7 with fail
  have hb3 := bseq hw1 hb2
  refine wp_region_steady (fun w' => Below w2.heap.size w2 w') (by kernel_rfl) (by kernel_rfl) (Below.drew (Below.refl _ _)) ?_
  repeat (first
    | (refine wpSt_read (v := ?_) (by rfl) (fun w6 hSw => ?_) ?_; rotate_left; (· (obtain ⟨g0, g1, g2, g3, g4, g5, g6⟩ := HF.out _ (bseq hb2 hSw); go_simp; first | done | with_reducible rfl)); (try simp only [Act.put, List.setIfInBounds_toArray, List.set_cons_zero, List.set_cons_succ]))
    | (refine wpSt_not (by rfl) ?_; (try simp only [Act.put, List.setIfInBounds_toArray, List.set_cons_zero, List.set_cons_succ]))
    | (refine wpSt_call (f := ?_) (args := ?_) (v := .int .i64 (j : Int)) (by rfl) (fun w6 hSw => ?_) (fun w6 hSw => ?_) ?_; rotate_left 2; (· (obtain ⟨g0, g1, g2, g3, g4, g5, g6⟩ := HF.out _ (bseq hb2 hSw); go_simp; first | done | (constructor <;> with_reducible rfl) | with_reducible rfl)); (· ((with_reducible refine (HCO.out _ (bseq hb3 hSw)).mono ?_); rintro e w5 ⟨⟨j', rfl, hj'⟩, hb5⟩; have hjj := hj'.uniq HJ.out; subst hjj; exact ⟨rfl, bseq hSw hb5⟩)); (try simp only [Act.put, List.setIfInBounds_toArray, List.set_cons_zero, List.set_cons_succ]))
    | (refine wpSt_call (f := ?_) (args := ?_) (v := .int .i64 P) (by rfl) (fun w6 hSw => ?_) (fun w6 hSw => ?_) ?_; rotate_left 2; (· (obtain ⟨g0, g1, g2, g3, g4, g5, g6⟩ := HF.out _ (bseq hb2 hSw); go_simp; first | done | (constructor <;> with_reducible rfl) | with_reducible rfl)); (· ((with_reducible refine (HPL.out _ (bseq hb3 hSw)).mono ?_); rintro e w5 ⟨rfl, hb5⟩; exact ⟨rfl, bseq hSw hb5⟩)); (try simp only [Act.put, List.setIfInBounds_toArray, List.set_cons_zero, List.set_cons_succ])))
  refine wpSt_nil ?_
  intro w4 hb4
  go_wp2_with fail
  go_ret
  exact ⟨rfl, bseq (bseq hb1 hb3) hb4⟩
theorem wordMove_any (w : World) (K : Int) (f : Nat) (hK : (K = 29 ∧ f = 61) ∨ (K = 22 ∧ f = 58)) :
    Calls Tryz.prog 36 #[.int .i64 K] w fun e w' => e = .returned (.func (.func f) #[] #[]) ∧ w = w' := by
  rcases hK with ⟨rfl, rfl⟩ | ⟨rfl, rfl⟩
  all_goals
    go_enter Tryz.func36, Tryz.ntmps36
    go_wp2
    go_ret
    exact ⟨rfl, rfl⟩
end Go.Proofs.YtoafogibfokblaaGreat
