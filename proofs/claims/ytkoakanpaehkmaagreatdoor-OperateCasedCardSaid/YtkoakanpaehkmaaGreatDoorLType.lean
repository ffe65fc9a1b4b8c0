/-
  operate.Type, where no line end is typed and the cursor is in the text.
-/
import Derived.Test.YtkoakanpaehkmaaGreatDoorLWk4
import Derived.Test.YtkoakanpaehkmaaGreatDoorLTyped
import Derived.Test.YtkoakanpaehkmaaGreatDoorLDel
import Derived.Test.YtkoakanpaehkmaaGreatDoorLEnd3
set_option linter.unusedSimpArgs false
set_option linter.unusedVariables false
set_option maxRecDepth 100000
set_option maxHeartbeats 32000000
namespace Go.Proofs.YtkoakanpaehkmaaGreatDoor
open Go.RowKit
theorem rowc_of {w : World} {b : Nat} {L : Ln} {i : Int} {A1 A2 : Option Addr} {n1 c1 n2 c2 : Nat} (h : Blk w b 94 (rowV L i A1 n1 c1 A2 n2 c2)) :
  w.cell? ⟨b, 0, none⟩ = some (.int .i64 L.from_) /\ w.cell? ⟨b, 1, none⟩ = some (.int .i64 L.to_) /\ w.cell? ⟨b, 2, none⟩ = some (.int .i64 L.next) /\ w.cell? ⟨b, 3, none⟩ = some (.int .i64 L.brk) /\ w.cell? ⟨b, 4, none⟩ = some (.int .i64 i) /\
   w.cell? ⟨b, 5, none⟩ = some (.slice A1 n1 c1) /\ w.cell? ⟨b, 6, none⟩ = some (.slice A2 n2 c2) := (row_facts h).1
theorem place_neg (D : Nat -> Prop) (L : Ln) (i : Int) (C : List Int) (v : Array Value) (w : World) (h : RowC w D L i C v) (hL : 0 <= L.from_ /\ L.from_ <= 1073741824) (hn : (allB C).length <= 1073741825) (hB : ∀ x ∈ allB C, 0 <= x /\ x <= 1073741824) :
  Calls Tryz.prog 53 #[.agg v, .int .i64 (-1)] w fun e w' => e = .returned (.int .i64 (L.from_ + (allB C).getD 0 0)) /\ Below w.heap.size w w' := by
 obtain ⟨A1, n1, c1, A2, n2, c2, rfl, h1, h2, h3, h4⟩ := h
 obtain ⟨x0, x1, x2, x3⟩ := L
 dsimp only at hL ⊢
 have hlen := h3.len
 have hpos : 0 < (allB C).length := by simp [allB]
 obtain ⟨b, off, rfl, hD, hcell⟩ := ints_form h3 (by omega)
 have hc := hcell 0 (by omega)
 have hmb : 0 <= (allB C).getD 0 0 /\ (allB C).getD 0 0 <= 1073741824 := by
  rw [List.getD_eq_getElem?_getD, List.getElem?_eq_getElem (by omega)]
  exact hB _ (List.getElem_mem _)
 obtain ⟨m, hm⟩ : ∃ m, (allB C).getD 0 0 = m := ⟨_, rfl⟩
 rw [hm] at hc hmb ⊢
 rw [Nat.add_zero] at hc
 have hcl := fun (w' : World) => clusters_any ⟨x0, x1, x2, x3⟩ i A1 (some ⟨b, off, none⟩) n1 c1 n2 c2 w' (by omega) (by omega)
 obtain ⟨N, hN⟩ : ∃ N, n2 - 1 = N := ⟨_, rfl⟩
 rw [hN] at hcl
 have hjn : (0 : Int) < (n2 : Int) := by omega
 have hjn2 : 0 < n2 := by omega
 have hjn3 : ¬ n2 <= 0 := by omega
 have hjn4 : ¬ n2 = 0 := by omega
 have hwr : IntKind.i64.wrap (x0 + m) = x0 + m := IntWalk.i64_in _ (by omega)
 have hb0 := Blk.new w 94 (rowV ⟨x0, x1, x2, x3⟩ i A1 n1 c1 (some ⟨b, off, none⟩) n2 c2)
 obtain ⟨⟨g0, g1, g2, g3, g4, g5, g6⟩, _⟩ := row_facts hb0
 have hcw := cell_keep (balloc (o := .cells (rowV ⟨x0, x1, x2, x3⟩ i A1 n1 c1 (some ⟨b, off, none⟩) n2 c2) 94) (Below.refl _ w)) hc
 have hW : Below w.heap.size w (w.alloc (.cells (rowV ⟨x0, x1, x2, x3⟩ i A1 n1 c1 (some ⟨b, off, none⟩) n2 c2) 94)) := balloc (Below.refl _ w)
 unfold rowV at hcl g0 g1 g2 g3 g4 g5 g6 hcw hW
 dsimp only at hcl g0 g1 g2 g3 g4 g5 g6 hcw hW
 have HCL := Lib.hid hcl
 have HW := Lib.hid hW
 have hS := And.intro g0 (And.intro g1 (And.intro g2 (And.intro g3 (And.intro g4 (And.intro g5 (And.intro g6 hcw))))))
 clear hcl hm hN hlen hpos hcell hB hb0 h1 h3 hW
 ·have hz2 : ((N : Int) < 0) = False := by simp
  have hz4 : ((-1 : Int) < 0) = True := by simp
  unfold rowV
  go_enter Tryz.func53, Tryz.ntmps53
  go_upto_region 1 with fail
  go_cut [4] (fun s4 wx => s4 = .int .i64 (x0 + m) /\ Below w.heap.size w wx)
  case first =>
   have hSd := keep8 (Below.drew (Below.refl _ _)) hS
   go_region_held3 (fun w' => w'.cell? ⟨w.heap.size, 0, none⟩ = some (.int .i64 x0) /\ w'.cell? ⟨w.heap.size, 1, none⟩ = some (.int .i64 x1) /\ w'.cell? ⟨w.heap.size, 2, none⟩ = some (.int .i64 x2) /\ w'.cell? ⟨w.heap.size, 3, none⟩ = some (.int .i64 x3) /\ w'.cell? ⟨w.heap.size, 4, none⟩ = some (.int .i64 i) /\ w'.cell? ⟨w.heap.size, 5, none⟩ = some (.slice A1 n1 c1) /\ w'.cell? ⟨w.heap.size, 6, none⟩ = some (.slice (some ⟨b, off, none⟩) n2 c2) /\ w'.cell? ⟨b, off, none⟩ = some (.int .i64 m)) (first | (with_reducible assumption) | (with_reducible exact hSd)) (first | (go_at_call 54; refine (HCL.out _).mono ?_; rintro e w1 ⟨rfl, hb1⟩; have s1 := keep8 (bdrew hb1) hS))
   all_goals
    go_wp2_with fail
    go_meet
    exact ⟨rfl, bseq HW.out (bdrew hb1)⟩
  case rest =>
   obtain ⟨rfl, hb⟩ := hcut
   go_wp2_with fail
   go_ret
   exact ⟨rfl, hb⟩
def ClampOk (ds : List (Int × Int)) (at_ : Int) (j : Nat) : Prop :=
 if (lineF ds (rowIx ds at_ false)).to_ <= min (max at_ 0) (ds.length : Int) then j = nC (cont ds (rowIx ds at_ false)) - 1 else InC (cont ds (rowIx ds at_ false)) (min (max at_ 0) (ds.length : Int) - (lineF ds (rowIx ds at_ false)).from_).toNat j
theorem rowIx_from {ds : List (Int × Int)} (hp : PosD ds) (at_ : Int) : (lineF ds (rowIx ds at_ false)).from_ <= min (max at_ 0) (ds.length : Int) := by
 have hix := rowIx_le ds at_ false
 rw [line_from]
 have h1 : rowIx ds at_ false <= ofF ds at_ := by unfold rowIx; simp; omega
 have := line_sk_le hp (m := min at_.toNat ds.length) (k := rowIx ds at_ false) (by omega) hix h1
 omega
theorem clamp_gen (D : Nat -> Prop) (g : Nat) (enc : Int) (ds : List (Int × Int)) (at_ : Int) (w : World) (h : TextAt w D g enc ds) :
  Calls Tryz.prog 19 #[.pointer (some ⟨g, 0, none⟩), .int .i64 at_, .bool false] w fun e w' => ∃ j : Nat, e = .returned (.int .i64 ((lineF ds (rowIx ds at_ false)).from_ + (mkb (cont ds (rowIx ds at_ false)) j : Int))) /\ ClampOk ds at_ j /\ j <= nC (cont ds (rowIx ds at_ false)) /\ Below w.heap.size w w' := by
 have hp := h.pos
 have hfr := rowIx_from hp at_
 have hix := rowIx_le ds at_ false
 have hbd := lineF_bd hp hix
 have hcl := cont_len hp hix
 have hlen := h.len
 have hra := rowAt_any D g enc ds at_ false w h
 have hle := fun (wy : World) (hy : Below w.heap.size w wy) => len_any D g enc ds wy (h.below hy)
 unfold ClampOk
 obtain ⟨I, hI⟩ : ∃ I, rowIx ds at_ false = I := ⟨_, rfl⟩
 rw [hI] at hbd hcl hra hfr ⊢
 obtain ⟨L, hL⟩ : ∃ L, lineF ds I = L := ⟨_, rfl⟩
 obtain ⟨C, hC⟩ : ∃ C, cont ds I = C := ⟨_, rfl⟩
 rw [hL] at hbd hcl hra hfr ⊢
 rw [hC] at hcl hra ⊢
 obtain ⟨n, hn⟩ : ∃ n, ds.length = n := ⟨_, rfl⟩
 rw [hn] at hle hlen hbd hfr ⊢
 obtain ⟨p, hpp⟩ : ∃ p, min (max at_ 0) (n : Int) = p := ⟨_, rfl⟩
 rw [hpp] at hfr ⊢
 have hl0 : 0 <= L.from_ /\ L.from_ <= 1073741824 := by omega
 have hc0 : C.length <= 1073741824 := by omega
 have hcases : ((at_ < 0) = True /\ ((n : Int) < 0) = False /\ p = 0) \/ ((at_ < 0) = False /\ ((n : Int) < at_) = False /\ p = at_) \/ ((at_ < 0) = False /\ ((n : Int) < at_) = True /\ p = (n : Int)) := by
  simp only [eq_iff_iff, iff_true, iff_false]
  omega
 have hcr : p < L.to_ -> ∃ r : Nat, L.from_ + (r : Int) = p /\ (p - L.from_).toNat = r /\ ∃ j, InC C r j := fun hlt => by
  obtain ⟨j, hj⟩ := inC_ex (C := C) (r := (p - L.from_).toNat) (by omega)
  exact ⟨(p - L.from_).toNat, by omega, rfl, j, hj⟩
 have HRA := Lib.hid hra
 have HLE := Lib.hid hle
 have HCR := Lib.hid hcr
 clear hra hle hI hL hC hix hp hcl hbd h hn hcr hpp
 by_cases hpt : p < L.to_
 ·obtain ⟨r, hr, hr2, j, hj⟩ := HCR.out hpt
  have q5 : (L.to_ <= p) = False := by simp; omega
  have HR := Lib.hid hr
  have HJ := Lib.hid hj
  obtain ⟨P, hP⟩ : ∃ P, L.from_ + (mkb C j : Int) = P := ⟨_, rfl⟩
  have hjle := hj.le
  suffices hs : Calls Tryz.prog 19 #[.pointer (some ⟨g, 0, none⟩), .int .i64 at_, .bool false] w fun e w' => e = .returned (.int .i64 P) /\ Below w.heap.size w w' by
   refine hs.mono ?_
   rintro e w' ⟨rfl, hb⟩
   exact ⟨j, by rw [hP], by rw [if_neg (by omega), hr2]; exact hj, hjle, hb⟩
  have HP := Lib.hid hP
  clear hP hr hr2 hj hfr HCR hpt hjle
  rcases hcases with ⟨q1, q2, rfl⟩ | ⟨q1, q2, rfl⟩ | ⟨q1, q2, rfl⟩
  all_goals
   go_enter Tryz.func19, Tryz.ntmps19
   go_wp2_with fail
   refine (HRA.out).mono ?_
   rintro e w1 ⟨v, rfl, hrow, hb1⟩
   have hco := fun (wy : World) (hy : Below w1.heap.size w1 wy) => column_mk _ L I C v r wy (hrow.below hy) hl0 hc0
   have hpl := fun (wy : World) (hy : Below w1.heap.size w1 wy) => place_mk _ L I C v j wy (hrow.below hy) hl0 hc0 HJ.out.le
   rw [HR.out] at hco
   rw [HP.out] at hpl
   obtain ⟨A1, n1, c1, A2, n2, c2, rfl⟩ := first_v hrow
   have HCO := Lib.hid hco
   have HPL := Lib.hid hpl
   clear hco hrow hpl
   have hf := fun (wy : World) (hy : Below (w1.alloc (.cells (rowV L I A1 n1 c1 A2 n2 c2) 94)).heap.size (w1.alloc (.cells (rowV L I A1 n1 c1 A2 n2 c2) 94)) wy) => rowc_of ((Blk.new w1 94 (rowV L I A1 n1 c1 A2 n2 c2)).below hy)
   have hw1 : Below w1.heap.size w1 (w1.alloc (.cells (rowV L I A1 n1 c1 A2 n2 c2) 94)) := balloc (Below.refl _ _)
   obtain ⟨x0, x1, x2, x3⟩ := L
   unfold rowV at HCO HPL hf hw1 ⊢
   dsimp only at HCO HPL hf hl0 hw1 q5 ⊢
   have HF := Lib.hid hf
   clear hf
   go_wp2_with fail
   refine (HLE.out _ (bseq hb1 hw1)).mono ?_
   rintro e w2 ⟨rfl, hb2⟩
   obtain ⟨g0, g1, g2, g3, g4, g5, g6⟩ := HF.out _ hb2
   go_upto_region 7 with fail
   have hb3 := bseq hw1 hb2
   refine wp_region_steady (fun w' => Below w2.heap.size w2 w') (by kernel_rfl) (by kernel_rfl) (Below.drew (Below.refl _ _)) ?_
   repeat ((first
    | (refine wpSt_read (v := ?_) (by rfl) (fun w6 hSw => ?_) ?_; rotate_left; (· (obtain ⟨g0, g1, g2, g3, g4, g5, g6⟩ := HF.out _ (bseq hb2 hSw); go_simp; try with_reducible rfl)))
    | refine wpSt_not (by rfl) ?_
    | (refine wpSt_call (f := ?_) (args := ?_) (v := .int .i64 (j : Int)) (by rfl) (fun w6 hSw => ?_) (fun w6 hSw => ?_) ?_; rotate_left 2; (· (obtain ⟨g0, g1, g2, g3, g4, g5, g6⟩ := HF.out _ (bseq hb2 hSw); go_simp; first | done | (constructor <;> with_reducible rfl) | with_reducible rfl)); (· ((with_reducible refine (HCO.out _ (bseq hb3 hSw)).mono ?_); rintro e w5 ⟨⟨j', rfl, hj'⟩, hb5⟩; have hjj := hj'.uniq HJ.out; subst hjj; exact ⟨rfl, bseq hSw hb5⟩)))
    | (refine wpSt_call (f := ?_) (args := ?_) (v := .int .i64 P) (by rfl) (fun w6 hSw => ?_) (fun w6 hSw => ?_) ?_; rotate_left 2; (· (obtain ⟨g0, g1, g2, g3, g4, g5, g6⟩ := HF.out _ (bseq hb2 hSw); go_simp; first | done | (constructor <;> with_reducible rfl) | with_reducible rfl)); (· ((with_reducible refine (HPL.out _ (bseq hb3 hSw)).mono ?_); rintro e w5 ⟨rfl, hb5⟩; exact ⟨rfl, bseq hSw hb5⟩)))); (try simp only [Act.put, pA, pB, pC]))
   refine wpSt_nil ?_
   intro w4 hb4
   go_wp2_with fail
   go_ret
   exact ⟨rfl, bseq (bseq hb1 hb3) hb4⟩
 ·have q5 : (L.to_ <= p) = True := by simp; omega
  obtain ⟨P, hP⟩ : ∃ P, L.from_ + ((mkb C (nC C - 1) : Nat) : Int) = P := ⟨_, rfl⟩
  suffices hs : Calls Tryz.prog 19 #[.pointer (some ⟨g, 0, none⟩), .int .i64 at_, .bool false] w fun e w' => e = .returned (.int .i64 P) /\ Below w.heap.size w w' by
   refine hs.mono ?_
   rintro e w' ⟨rfl, hb⟩
   exact ⟨nC C - 1, by rw [<- hP], by rw [if_pos (by omega)], by omega, hb⟩
  have hnc := nC_le C
  obtain ⟨K, hK⟩ : ∃ K : Int, (nC C : Int) - 1 = K := ⟨_, rfl⟩
  have hwr : IntKind.i64.wrap ((nC C : Int) - 1) = K := by rw [IntWalk.i64_in _ (by omega), hK]
  have hpl0 : ∀ (v : Array Value) (wy : World) (D' : Nat -> Prop), RowC wy D' L I C v -> Calls Tryz.prog 53 #[.agg v, .int .i64 K] wy fun e w' => e = .returned (.int .i64 P) /\ Below wy.heap.size wy w' := fun v wy D' hrow => by
   rcases Nat.eq_zero_or_pos (nC C) with h0 | h0
   ·have hk1 : K = -1 := by omega
    have := place_neg D' L I C v wy hrow hl0 (by rw [allB_len]; omega) (allB_bd hc0)
    rw [allB_at (k := 0) (by omega), <- show nC C - 1 = 0 by omega, hP] at this
    rw [hk1]
    exact this
   ·have := place_mk D' L I C v (nC C - 1) wy hrow hl0 hc0 (by omega)
    rw [hP, show ((nC C - 1 : Nat) : Int) = K by omega] at this
    exact this
  obtain ⟨N, hN⟩ : ∃ N, nC C = N := ⟨_, rfl⟩
  have hcn := fun (v : Array Value) (wy : World) (D' : Nat -> Prop) (hrow : RowC wy D' L I C v) => clusters_mk D' L I C v wy hrow hc0
  rw [hN] at hcn hwr
  have HPL0 := Lib.hid hpl0
  have HCN := Lib.hid hcn
  have HWR := Lib.hid hwr
  clear hP hfr HCR hpt hpl0 hcn hnc hK hN hwr
  rcases hcases with ⟨q1, q2, rfl⟩ | ⟨q1, q2, rfl⟩ | ⟨q1, q2, rfl⟩
  all_goals
   go_enter Tryz.func19, Tryz.ntmps19
   go_wp2_with fail
   refine (HRA.out).mono ?_
   rintro e w1 ⟨v, rfl, hrow, hb1⟩
   have hco := fun (wy : World) (hy : Below w1.heap.size w1 wy) => HCN.out v wy _ (hrow.below hy)
   have hpl := fun (wy : World) (hy : Below w1.heap.size w1 wy) => HPL0.out v wy _ (hrow.below hy)
   obtain ⟨A1, n1, c1, A2, n2, c2, rfl⟩ := first_v hrow
   have HCO := Lib.hid hco
   have HPL := Lib.hid hpl
   clear hco hrow hpl
   have hf := fun (wy : World) (hy : Below (w1.alloc (.cells (rowV L I A1 n1 c1 A2 n2 c2) 94)).heap.size (w1.alloc (.cells (rowV L I A1 n1 c1 A2 n2 c2) 94)) wy) => rowc_of ((Blk.new w1 94 (rowV L I A1 n1 c1 A2 n2 c2)).below hy)
   have hw1 : Below w1.heap.size w1 (w1.alloc (.cells (rowV L I A1 n1 c1 A2 n2 c2) 94)) := balloc (Below.refl _ _)
   obtain ⟨x0, x1, x2, x3⟩ := L
   unfold rowV at HCO HPL hf hw1 ⊢
   dsimp only at HCO HPL hf hl0 hw1 q5 ⊢
   have HF := Lib.hid hf
   clear hf
   go_wp2_with fail
   refine (HLE.out _ (bseq hb1 hw1)).mono ?_
   rintro e w2 ⟨rfl, hb2⟩
   obtain ⟨g0, g1, g2, g3, g4, g5, g6⟩ := HF.out _ hb2
   go_upto_region 6 with fail
   have hb3 := bseq hw1 hb2
   have hwr := HWR.out
   refine wp_region_steady (fun w' => Below w2.heap.size w2 w') (by kernel_rfl) (by kernel_rfl) (Below.drew (Below.refl _ _)) ?_
   repeat ((first
    | (refine wpSt_read (v := ?_) (by rfl) (fun w6 hSw => ?_) ?_; rotate_left; (· (obtain ⟨g0, g1, g2, g3, g4, g5, g6⟩ := HF.out _ (bseq hb2 hSw); go_simp; try with_reducible rfl)))
    | refine wpSt_not (by rfl) ?_
    | (refine wpSt_call (f := ?_) (args := ?_) (v := .int .i64 (N : Int)) (by rfl) (fun w6 hSw => ?_) (fun w6 hSw => ?_) ?_; rotate_left 2; (· (obtain ⟨g0, g1, g2, g3, g4, g5, g6⟩ := HF.out _ (bseq hb2 hSw); go_simp; first | done | (constructor <;> with_reducible rfl) | with_reducible rfl)); (· ((with_reducible refine (HCO.out _ (bseq hb3 hSw)).mono ?_); rintro e w5 ⟨rfl, hb5⟩; exact ⟨rfl, bseq hSw hb5⟩)))
    | (refine wpSt_call (f := ?_) (args := ?_) (v := .int .i64 P) (by rfl) (fun w6 hSw => ?_) (fun w6 hSw => ?_) ?_; rotate_left 2; (· (obtain ⟨g0, g1, g2, g3, g4, g5, g6⟩ := HF.out _ (bseq hb2 hSw); go_simp; first | done | (constructor <;> with_reducible rfl) | with_reducible rfl)); (· ((with_reducible refine (HPL.out _ (bseq hb3 hSw)).mono ?_); rintro e w5 ⟨rfl, hb5⟩; exact ⟨rfl, bseq hSw hb5⟩)))); (try simp only [Act.put, pA, pB, pC]))
   refine wpSt_nil ?_
   intro w4 hb4
   go_wp2_with fail
   go_ret
   exact ⟨rfl, bseq (bseq hb1 hb3) hb4⟩
section
variable {B gd gb g n : Nat} {enc lim : Int} {st : BkS} {dc : Array Value} {w : World}
theorem text_desk (h : DeskIs w B gd gb g enc lim n st dc) : Calls Tryz.prog 37 #[.pointer (some ⟨gd, 0, none⟩)] w fun e w' => e = .returned (.pointer (some ⟨g, 0, none⟩)) /\ w = w' := by
 obtain ⟨cs, hb, h0⟩ := h.blkB
 exact desk_text gd gb g dc cs w h.desk h.c0 hb h0
theorem clamp_desk (h : DeskIs w B gd gb g enc lim n st dc) (at_ : Int) :
  Calls Tryz.prog 32 #[.pointer (some ⟨gd, 0, none⟩), .int .i64 at_] w fun e w' => ∃ j : Nat, e = .returned (.int .i64 ((lineF (sizedA enc st.ats) (rowIx (sizedA enc st.ats) at_ false)).from_ + (mkb (cont (sizedA enc st.ats) (rowIx (sizedA enc st.ats) at_ false)) j : Int))) /\ ClampOk (sizedA enc st.ats) at_ j /\ j <= nC (cont (sizedA enc st.ats) (rowIx (sizedA enc st.ats) at_ false)) /\ Below w.heap.size w w' := by
 have HT := Lib.hid (text_desk h)
 have HC := Lib.hid (clamp_gen Any g enc (sizedA enc st.ats) at_ w h.at_)
 clear h
 go_enter Tryz.func32, Tryz.ntmps32
 go_wp2_with fail
 refine (HT.out).mono ?_
 rintro e w1 ⟨rfl, rfl⟩
 go_wp2_with fail
 refine (HC.out).mono ?_
 rintro e w1 ⟨j, rfl, h1, h2, hb⟩
 go_wp2_with fail
 go_ret
 exact ⟨j, rfl, h1, h2, hb⟩
theorem clampV_bd {ds : List (Int × Int)} (hp : PosD ds) {at_ : Int} {j : Nat} (hj : j <= nC (cont ds (rowIx ds at_ false))) : 0 <= (lineF ds (rowIx ds at_ false)).from_ + (mkb (cont ds (rowIx ds at_ false)) j : Int) /\ (lineF ds (rowIx ds at_ false)).from_ + (mkb (cont ds (rowIx ds at_ false)) j : Int) <= (ds.length : Int) := by
 have hix := rowIx_le ds at_ false
 have hbd := lineF_bd hp hix
 have hcl := cont_len hp hix
 have := mk_le hj
 omega
theorem line_desk (h : DeskIs w B gd gb g enc lim n st dc) (i : Nat) (hi : i <= totE (sizedA enc st.ats)) :
  Calls Tryz.prog 36 #[.pointer (some ⟨gd, 0, none⟩), .int .i64 (i : Int)] w fun e w' => e = .returned (.agg (lineF (sizedA enc st.ats) i).cells) /\ Below w.heap.size w w' := by
 have hW : Below w.heap.size w (w.alloc (.cells (Ln.mk 0 0 0 0).cells 75)) := balloc (Below.refl _ w)
 have hb0 : Blk (w.alloc (.cells (Ln.mk 0 0 0 0).cells 75)) w.heap.size 75 (Ln.mk 0 0 0 0).cells := Blk.new w _ _
 have HT := Lib.hid (text_desk (h.below hW))
 have HC := Lib.hid (at_line Any g enc (sizedA enc st.ats) i _ (h.below hW).at_ hi)
 obtain ⟨L, hL⟩ : ∃ L, lineF (sizedA enc st.ats) i = L := ⟨_, rfl⟩
 rw [hL] at HC ⊢
 obtain ⟨x0, x1, x2, x3⟩ := L
 unfold Ln.cells at HT HC hW hb0 ⊢
 dsimp only at HT HC hW hb0 ⊢
 clear h hL
 go_enter Tryz.func36, Tryz.ntmps36
 go_wp2_with fail
 refine (HT.out).mono ?_
 rintro e w1 ⟨rfl, rfl⟩
 go_wp2_with fail
 refine (HC.out).mono ?_
 rintro e w1 ⟨rfl, hb1⟩
 have hb01 := hb0.below hb1
 go_wp2_with fail
 refine (must_ok _).mono ?_
 rintro e w2 ⟨rfl, rfl⟩
 have hb02 := line_facts (l := ⟨0, 0, 0, 0⟩) (hb01.alloc (.cells #[.int .i64 x0, .int .i64 x1, .int .i64 x2, .int .i64 x3] 75))
 dsimp only at hb02
 obtain ⟨⟨d0, d1, d2, d3⟩, f0, f1, f2, f3⟩ := hb02
 have hw2 : Below w.heap.size w (w1.alloc (.cells #[.int .i64 x0, .int .i64 x1, .int .i64 x2, .int .i64 x3] 75)) := balloc (bseq hW hb1)
 obtain ⟨w2, hw20⟩ : ∃ x, w1.alloc (.cells #[.int .i64 x0, .int .i64 x1, .int .i64 x2, .int .i64 x3] 75) = x := ⟨_, rfl⟩
 have hbn : Blk w2 w1.heap.size 75 (Ln.mk x0 x1 x2 x3).cells := hw20 ▸ Blk.new w1 _ _
 rw [hw20] at d0 d1 d2 d3 f0 f1 f2 f3 hw2 ⊢
 have hbn2 := line_facts hbn
 dsimp only at hbn2
 obtain ⟨⟨g0, g1, g2, g3⟩, -⟩ := hbn2
 have HW2 := Lib.hid (fun (u1 u2 u3 u4 : Value) => below_set4 (u1 := u1) (u2 := u2) (u3 := u3) (u4 := u4) hw2 (Nat.le_refl _))
 clear hw20 hbn hb01 hb1 hb0 hW HC HT hw2
 go_wp2_with fail
 refine bodyPost_ret (v := .agg #[.int .i64 x0, .int .i64 x1, .int .i64 x2, .int .i64 x3]) (by simp [results, Tryz.results36, go_sem, d0, d1, d2, d3]) rfl ⟨rfl, HW2.out _ _ _ _⟩
theorem change_desk (h : DeskIs w B gd gb g enc lim n st dc) {o : OpS} (hn : st.now = some o) {D : Nat -> Prop} {A : Option Addr} {k c : Nat} {es : List Ed} (he : EdsAt w D A k es) (hD : ∀ b, D b -> b < w.heap.size -> ∃ T cs, Blk w b T cs /\ Alien T)
  (hp : putN es <= 268435456) (hnn : n + 131072 <= 1073741824) (hom : o.moves.length < 1048576) (hz : refF enc lim (sizedA enc st.ats) es = 0) :
  Calls Tryz.prog 83 #[.pointer (some ⟨gb, 0, none⟩), .slice A k c] w fun e w' => e = .returned (.int .i64 0) /\ DeskIs w' B gd gb g enc lim (n + 131072) { st with ats := edA es st.ats, now := some { o with moves := o.moves ++ [es.map mvOf], changed := o.changed || es.any chg } } dc /\ BkFr B w w' := by
 obtain ⟨N, add, t, a, xs, m, vu, vr, now, n', hn', hk⟩ := h.book
 have he' : EdsAt w (fun b => D b /\ b < w.heap.size) A k es := he.more (fun b h1 h2 => ⟨h1, h2⟩)
 refine (bchange_any N B gb g enc lim n' add st t a xs m vu vr now o (fun b => D b /\ b < w.heap.size) A k c es w hk hn he' (fun b hb => ?_) hp (by omega) hom).mono ?_
 ·obtain ⟨T, cs, hT, hA⟩ := hD b hb.1 hb.2
  refine ⟨Blk.ne_ hT hk.text.blk hA.1.1, fun e0 => own_blk_ne hk.text.row hT (Ne.symm hA.1.2.2) e0, fun e0 => ?_⟩
  have ho := hk.open_
  rw [hn] at ho
  obtain ⟨p, e1, s, m2, vm, vs, h1, _⟩ := ho
  rw [e1] at e0
  injection e0 with e0
  injection e0 with e0
  exact Blk.ne_ hT h1 hA.2.2.2.1 e0.symm
 ·rintro e w' ⟨rfl, -, hpost⟩
  rw [hz] at hpost ⊢
  obtain ⟨n2, add', t', a', xs', hk', hn2, hf⟩ := hpost rfl
  exact ⟨rfl, h.bk hf ⟨N, add', t', a', xs', m, vu, vr, now, n2, by omega, hk'⟩, hf⟩
theorem dchange_desk (h : DeskIs w B gd gb g enc lim n st dc) {o : OpS} (hn : st.now = some o) {D : Nat -> Prop} {A : Option Addr} {k c : Nat} {es : List Ed} (he : EdsAt w D A k es) (hD : ∀ b, D b -> b < w.heap.size -> ∃ T cs, Blk w b T cs /\ Alien T)
  (hp : putN es <= 268435456) (hnn : n + 131072 <= 1073741824) (hom : o.moves.length < 1048576) (hz : refF enc lim (sizedA enc st.ats) es = 0) :
  Calls Tryz.prog 40 #[.pointer (some ⟨gd, 0, none⟩), .slice A k c] w fun e w' => e = .returned (.tuple #[]) /\ DeskIs w' B gd gb g enc lim (n + 131072) { st with ats := edA es st.ats, now := some { o with moves := o.moves ++ [es.map mvOf], changed := o.changed || es.any chg } } dc /\ BkFr B w w' := by
 have HC := Lib.hid (change_desk (c := c) h hn he hD hp hnn hom hz)
 have cd := (h.desk.cell 0).trans h.c0
 clear h he hD hz
 go_enter Tryz.func40, Tryz.ntmps40
 go_wp2_with fail
 refine (HC.out).mono ?_
 rintro e w1 ⟨rfl, hd, hf⟩
 have HD := Lib.hid hd
 clear hd
 go_wp2_with fail
 refine (must_ok _).mono ?_
 rintro e w2 ⟨rfl, rfl⟩
 go_wp2_with fail
 show bodyPost _ _ _ _ _ _
 refine bodyPost_end (results_none rfl _ _ _) rfl ?_
 exact ⟨rfl, HD.out, hf⟩
end
def pushU (us : List Gr) (d : Int) (G : Gr) : List Gr := if (us.length : Int) < d then us ++ [G] else (us ++ [G]).drop 1
theorem pushU_le {us : List Gr} {d : Int} {G : Gr} (h : (us.length : Int) <= d) : ((pushU us d G).length : Int) <= d := by
 unfold pushU
 split
 ·simp; omega
 ·simp; omega
section
variable {B gd gb g n : Nat} {enc lim : Int} {st : BkS} {dc : Array Value} {w : World}
def endF (st : BkS) (o : OpS) (x : Int) : BkS :=
 if o.changed = true then { st with now := none, undo := pushU st.undo st.depth ⟨o.before, st.ats, o.bgn, x, o.moves, o.old, st.last + 1⟩, redo := [], state := st.last + 1, last := st.last + 1 } else { st with now := none }
theorem end_deskF (h : DeskIs w B gd gb g enc lim n st dc) {o : OpS} (hn : st.now = some o) {x : Int} (hx : 0 <= x /\ x <= (st.ats.length : Int)) (hd : (st.undo.length : Int) <= st.depth) (hc : o.changed = true -> st.last < 1073741824) :
  Calls Tryz.prog 77 #[.pointer (some ⟨gb, 0, none⟩), .int .i64 x] w fun e w' => e = .returned (.int .i64 0) /\ DeskIs w' B gd gb g enc lim n (endF st o x) dc /\ BkFr B w w' := by
 obtain ⟨N, add, t, a, xs, m, vu, vr, now, n', hn', hk⟩ := h.book
 cases hch : o.changed with
 | false =>
  have e0 : endF st o x = { st with now := none } := by unfold endF; rw [if_neg (by rw [hch]; decide)]
  rw [e0]
  refine (end_none N B gb g enc lim n' add st t a xs m vu vr now o x w hk hn hx hch).mono ?_
  rintro e w' ⟨rfl, hk', hb⟩
  exact ⟨rfl, h.bk hb ⟨_, add, t, a, xs, m, vu, vr, _, n', hn', hk'⟩, hb⟩
 | true =>
  by_cases hlt : (st.undo.length : Int) < st.depth
  ·have e0 : endF st o x = { st with now := none, undo := st.undo ++ [⟨o.before, st.ats, o.bgn, x, o.moves, o.old, st.last + 1⟩], redo := [], state := st.last + 1, last := st.last + 1 } := by unfold endF pushU; rw [if_pos hch, if_pos hlt]
   rw [e0]
   refine (end_some N B gb g enc lim n' add st t a xs m vu vr now o x w hk hn hx hch hlt (hc hch)).mono ?_
   rintro e w' ⟨rfl, ⟨vu', hk'⟩, hb⟩
   exact ⟨rfl, h.bk hb ⟨_, add, t, a, xs, m, _, _, _, n', hn', hk'⟩, hb⟩
  ·have e0 : endF st o x = { st with now := none, undo := (st.undo ++ [(⟨o.before, st.ats, o.bgn, x, o.moves, o.old, st.last + 1⟩ : Gr)]).drop 1, redo := [], state := st.last + 1, last := st.last + 1 } := by unfold endF pushU; rw [if_pos hch, if_neg hlt]
   rw [e0]
   refine (end_full N B gb g enc lim n' add st t a xs m vu vr now o x w hk hn hx hch (by omega) (hc hch)).mono ?_
   rintro e w' ⟨rfl, ⟨vu', hk'⟩, hb⟩
   exact ⟨rfl, h.bk hb ⟨_, add, t, a, xs, m, _, _, _, n', hn', hk'⟩, hb⟩
theorem drop_desk (h : DeskIs w B gd gb g enc lim n st dc) {o : OpS} (hn : st.now = some o) :
  Calls Tryz.prog 78 #[.pointer (some ⟨gb, 0, none⟩)] w fun e w' => e = .returned (.tuple #[.int .i64 o.bgn, .int .i64 0]) /\ DeskIs w' B gd gb g enc lim n { st with ats := o.before, now := none } dc /\ BkFr B w w' := by
 obtain ⟨N, add, t, a, xs, m, vu, vr, now, n', hn', hk⟩ := h.book
 refine (drop_any N B gb g enc lim n' add st t a xs m vu vr now o w hk hn).mono ?_
 rintro e w' ⟨rfl, ⟨t', a', m', hk'⟩, hb⟩
 exact ⟨rfl, h.bk hb ⟨_, add, t', a', xs, m', _, _, _, n', hn', hk'⟩, hb⟩
end
theorem caught_any (fn : FuncId) (cap : Array Value) (w : World) (Q : World -> Prop) (R : Int -> World -> Prop) (hen : ∀ args w, (callFunc fn args).run Tryz.prog w = .ok (.enter fn args) w)
  (hact : Calls Tryz.prog fn cap (w.alloc (.cells #[.int .i64 0] 37)) fun e w' => (e = .returned (.tuple #[]) /\ Q w') \/ (∃ c, e = .panicked [errPanic c] /\ R c w')) (hQ : ∀ w', Q w' -> Blk w' w.heap.size 37 #[.int .i64 0]) (hR : ∀ c w', R c w' -> Blk w' w.heap.size 37 #[.int .i64 0]) :
  Calls Tryz.prog 74 #[.func (.func fn) #[] cap] w fun e w' => (e = .returned (.int .i64 0) /\ Q w') \/ (∃ c, e = .returned (.int .i64 c) /\ ∃ w1, R c w1 /\ w' = w1.setCell ⟨w.heap.size, 0, none⟩ (.int .i64 c)) := by
 have hmf : ∀ (fn : Fn) (first cap : Array Value) (w : World), (Instr.makeFunc fn first cap).run Tryz.prog w = .ok (.func fn first cap) w := fun _ _ _ _ => rfl
 have HA := Lib.hid hact
 clear hact
 go_enter_defers Tryz.func74, Tryz.ntmps74
 go_wp2_with fail
 refine (HA.out).mono ?_
 rintro e w1 (⟨rfl, hq⟩ | ⟨c, rfl, hq⟩)
 ·have hb := hQ w1 hq
  have hid : w1.setCell ⟨w.heap.size, 0, none⟩ (.int .i64 0) = w1 := setCell_id hb rfl
  have c0 := hb.cell 0
  have f0 := hb.frozen 0
  simp at c0
  go_wp2_with fail
  refine leaves_cons (f := 119) (args := #[.pointer (some ⟨w.heap.size, 0, none⟩)]) (by simp) (by simp [go_sem]) ?_
  refine (caught1_ret w.heap.size _).mono ?_
  rintro e u' w'' ⟨rfl, rfl, rfl⟩
  refine ⟨_, ?_, .inl ⟨rfl, hq⟩⟩
  simp [results, Tryz.results74, go_sem, c0]
 ·have hb := hR c w1 hq
  have c1 := ((hb.set_ 0 (.int .i64 c)).eq_ (show _ = #[.int .i64 c] by simp)).cell 0
  simp at c1
  go_wp2_with fail
  refine leaves_cons (f := 119) (args := #[.pointer (some ⟨w.heap.size, 0, none⟩)]) (by simp) (by simp [go_sem]) ?_
  refine (caught1_code w.heap.size c [] (.int .i64 0) _ (hb.cell 0) (hb.frozen 0)).mono ?_
  rintro e u' w'' ⟨rfl, rfl, rfl⟩
  simp only [Leaves, settle, errPanic, results, Tryz.results74, go_sem, c1]
  refine ⟨_, ?_, .inr ⟨c, rfl, w1, hq, rfl⟩⟩
  simp [results, Tryz.results74, go_sem, c1]
def ActBad (B gd gb g : Nat) (enc lim : Int) (st : BkS) (dc : Array Value) (X : Nat -> Prop) (Bad : Int -> Nat -> Prop) (c : Int) (w1 : World) (w2 : World) : Prop :=
 ∃ ats' o' n', Bad c n' /\ c ≠ 0 /\ o'.before = st.ats /\ DeskIs w2 B gd gb g enc lim n' { st with ats := ats', now := some o' } dc /\ DFr B X w1 w2
def ActAny (B gd gb g : Nat) (enc lim : Int) (st : BkS) (dc : Array Value) (X : Nat -> Prop) (Act : Int -> List (Int × Int) -> OpS -> Nat -> Prop) (Bad : Int -> Nat -> Prop) (w1 : World) (e : Ending) (w2 : World) : Prop :=
 ActPost B gd gb g enc lim st dc X Act w1 e w2 \/ ∃ c, e = .panicked [errPanic c] /\ ActBad B gd gb g enc lim st dc X Bad c w1 w2
def ActAnyZ (B gd gb g : Nat) (enc lim : Int) (st : BkS) (dc : Array Value) (X : Nat -> Prop) (Act : Int -> List (Int × Int) -> OpS -> Nat -> Prop) (Bad : Int -> Nat -> Prop) (Z Zb : Int -> World -> Prop) (w1 : World) (e : Ending) (w2 : World) : Prop :=
 (∃ at' ats' o' n', Act at' ats' o' n' /\ e = .returned (.int .i64 at') /\ DeskIs w2 B gd gb g enc lim n' { st with ats := ats', now := some o' } dc /\ DFr B X w1 w2 /\ Z at' w2) \/ ∃ c, e = .panicked [errPanic c] /\ ActBad B gd gb g enc lim st dc X Bad c w1 w2 /\ Zb c w2
def WkS (w0 : World) (gd : Nat) (w : World) (b : Nat) : Prop := (∃ T cs, Blk w b T cs /\ BookTy T) \/ b = gd \/ (w0.heap.size <= b /\ b < w0.heap.size + 5)
def StZ (w0 : World) (gd : Nat) (Z : Int -> World -> Prop) : Prop := ∀ x w w', Z x w -> Fr (WkS w0 gd w) w w' -> Z x w'
theorem StZ.bk {w0 w w' : World} {gd B : Nat} {Z : Int -> World -> Prop} {x : Int} (h : StZ w0 gd Z) (hz : Z x w) (hf : BkFr B w w') : Z x w' := h x w w' hz (hf.more (fun b _ hs => by
 obtain ⟨_, T, cs, h1, h2⟩ := hs
 exact .inl ⟨T, cs, h1, h2⟩))
theorem StZ.set {w0 w : World} {gd b i : Nat} {Z : Int -> World -> Prop} {x : Int} {u : Value} (h : StZ w0 gd Z) (hz : Z x w) (hb : b = gd \/ (w0.heap.size <= b /\ b < w0.heap.size + 5)) : Z x (w.setCell ⟨b, i, none⟩ u) := h x w _ hz ((Fr.refl _ _).setCell (p := ⟨b, i, none⟩) (.inl (.inr hb)) u)
def Work1F (B gd gb g b4 : Nat) (enc lim : Int) (st : BkS) (dc : Array Value) (X : Nat -> Prop) (Act : Int -> List (Int × Int) -> OpS -> Nat -> Prop) (Z : Int -> World -> Prop) (w1 : World) (w2 : World) : Prop :=
 ∃ at' ats' o' n', Act at' ats' o' n' /\ DeskIs w2 B gd gb g enc lim n' (endF { st with ats := ats', now := some o' } o' at') dc /\ Blk w2 b4 3 #[.int .i64 at'] /\ DFr B (fun b => X b \/ b = b4) w1 w2 /\ Z at' w2
theorem work1_any (B gd gb g n b3 b4 b5 b7 : Nat) (enc lim x : Int) (st : BkS) (dc : Array Value) (fn : FuncId) (cap : Array Value) (X : Nat -> Prop) (Act : Int -> List (Int × Int) -> OpS -> Nat -> Prop) (Bad : Int -> Nat -> Prop) (Z Zb : Int -> World -> Prop) (w0 w : World) (hZ : StZ w0 gd Z) (hb40 : w0.heap.size <= b4 /\ b4 < w0.heap.size + 5)
  (h : DeskIs w B gd gb g enc lim n st dc) (hn : st.now = none) (hx : 0 <= x /\ x <= (st.ats.length : Int))
  (h7 : Blk w b7 4 #[.bool true]) (h3 : Blk w b3 27 #[.pointer (some ⟨gd, 0, none⟩)]) (h4 : Blk w b4 3 #[.int .i64 x]) (h5 : Blk w b5 70 #[.func (.func fn) #[] cap])
  (hen : ∀ args w, (callFunc fn args).run Tryz.prog w = .ok (.enter fn args) w) (hX : ∀ b, X b -> b ≠ b3 /\ b ≠ b4 /\ b ≠ b5 /\ b ≠ b7)
  (hact : ∀ w1, DeskIs w1 B gd gb g enc lim n { st with now := some ⟨st.ats, x, [], st.state, false⟩ } dc -> BkFr B w w1 -> Calls Tryz.prog fn cap w1 (ActAnyZ B gd gb g enc lim st dc X Act Bad Z Zb w1))
  (hfin : ∀ at' ats' o' n', Act at' ats' o' n' -> (0 <= at' /\ at' <= (ats'.length : Int)) /\ (o'.changed = true -> st.last < 1073741824)) (hud : (st.undo.length : Int) <= st.depth) :
  Calls Tryz.prog 75 #[.pointer (some ⟨b7, 0, none⟩), .pointer (some ⟨b3, 0, none⟩), .pointer (some ⟨b4, 0, none⟩), .pointer (some ⟨b5, 0, none⟩)] w fun e w' => (e = .returned (.tuple #[]) /\ Work1F B gd gb g b4 enc lim st dc X Act Z w w') \/ (∃ c, e = .panicked [errPanic c] /\ ActBad B gd gb g enc lim st dc X Bad c w w' /\ Zb c w') := by
 have hkB := fun (w' : World) (hb : BkFr B w w') => And.intro ((hb.blk h7 (by decide)).cell 0) (And.intro ((hb.blk h3 (by decide)).cell 0) (And.intro ((hb.blk h4 (by decide)).cell 0) (And.intro ((hb.blk h5 (by decide)).cell 0) (((hb.blk h.desk (by decide)).cell 0).trans h.c0))))
 have HKB := Lib.hid hkB
 obtain ⟨c7, c3, c4, c5, cd⟩ := hkB w (BkFr.refl _ _)
 have HH := Lib.hid h
 have HA := Lib.hid hact
 have HB := Lib.hid (fun w' (hb : Below w.heap.size w w') => begin_desk (h.below hb) hn hx)
 have HFIN := Lib.hid hfin
 have HXX := Lib.hid hX
 have H7 := Lib.hid h7
 have H3 := Lib.hid h3
 have H4 := Lib.hid h4
 have HZZ := Lib.hid hZ
 have HB40 := Lib.hid hb40
 clear hkB h hact hfin hX h7 h3 h4 h5 hZ hb40
 go_enter Tryz.func75, Tryz.ntmps75
 go_upto_region 1 with fail
 refine wp_region_lin (fun w' => BkFr B w w') (fun w' => w' = w.drew) (fun k => k == 5 || k == 6) (fun k => k == 6) (fun _ => false) (by kernel_rfl) (by kernel_rfl) (rfl) (fun w' h => by subst h; exact BkFr.below (Below.refl _ _).drew) ?_
 repeat ((first
  | (refine wpL_read (v := ?_) (by rfl) (by rfl) (fun w6 hSw => ?_) ?_; rotate_left; (· (obtain ⟨y7, y3, y4, y5, yd⟩ := HKB.out _ hSw; go_simp; try with_reducible rfl)))
  | (refine wpL_free (v := ?_) (by rfl) (fun w6 => ?_) ?_; rotate_left; (· (go_simp; try with_reducible rfl)))
  | refine wpL_not (by rfl) ?_); (try simp only [Act.put, pA, pB, pC]))
 refine wpL_call (f := ?_) (args := ?_) (fun v w' => v = .int .i64 0 /\ DeskIs w' B gd gb g enc lim n { st with now := some ⟨st.ats, x, [], st.state, false⟩ } dc /\ BkFr B w w') (by rfl) (by rfl) (fun w6 hSw => ?_) (fun w6 hSw => ?_) (.inr (fun v6 w6 hT6 => ?_)) (fun v6 hv6 => ?_)
 rotate_left 2
 ·(skip; go_simp; first | done | (constructor <;> with_reducible rfl) | with_reducible rfl)
 ·(subst hSw; refine (HB.out _ (Below.refl _ _).drew).mono ?_; rintro e w' ⟨rfl, hd, hb⟩; exact ⟨_, rfl, rfl, hd, (BkFr.below (Below.refl _ _).drew).trans hb⟩)
 ·(exact hT6.2.2)
 obtain ⟨wz, rfl, -⟩ := hv6
 (try simp only [Act.put, pA, pB, pC])
 repeat ((first
  | (refine wpL_read (v := ?_) (by rfl) (by rfl) (fun w6 hSw => ?_) ?_; rotate_left; (· (obtain ⟨y7, y3, y4, y5, yd⟩ := HKB.out _ hSw; go_simp; try with_reducible rfl)))
  | (refine wpL_free (v := ?_) (by rfl) (fun w6 => ?_) ?_; rotate_left; (· (go_simp; try with_reducible rfl)))
  | refine wpL_not (by rfl) ?_); (try simp only [Act.put, pA, pB, pC]))
 refine wpL_call (f := ?_) (args := ?_) (fun v w' => DeskIs w' B gd gb g enc lim n { st with now := some ⟨st.ats, x, [], st.state, false⟩ } dc /\ BkFr B w w') (by rfl) (by rfl) (fun w6 hSw => ?_) (fun w6 hSw => ?_) (.inl (by rfl)) (fun v6 hv6 => ?_)
 rotate_left 2
 ·(skip; go_simp; first | done | (constructor <;> with_reducible rfl) | with_reducible rfl)
 ·(refine (must_ok _).mono ?_; rintro e w' ⟨rfl, rfl⟩; exact ⟨_, rfl, hSw.2⟩)
 skip
 (try simp only [Act.put, pA, pB, pC])
 refine wpL_nil ?_
 rintro w1 ⟨hd1, hb1⟩
 obtain ⟨c7, c3, c4, c5, cd⟩ := HKB.out _ hb1
 simp at c7 c3 c4 c5
 go_wp2_with fail
 refine (HA.out _ hd1 hb1).mono ?_
 rintro e w2 (⟨at', ats', o', n', hA, rfl, hd2, hf2, hz2⟩ | ⟨c, rfl, ⟨ats', o', n', hA, hc0, hbf, hd2, hf2⟩, hz2⟩)
 case inr =>
  have hq : ActBad B gd gb g enc lim st dc X Bad c w w2 /\ Zb c w2 := ⟨⟨ats', o', n', hA, hc0, hbf, hd2, (DFr.of_bk hb1).trans hf2⟩, hz2⟩
  have HQ := Lib.hid hq
  clear hq
  go_wp2_with fail
  exact ⟨rfl, .inr ⟨c, rfl, HQ.out⟩⟩
 have X7 := HXX.out
 have k7 := hf2.blk (hb1.blk H7.out (by decide)) (by decide) (fun hx => (HXX.out b7 hx).2.2.2 rfl)
 have k3 := hf2.blk (hb1.blk H3.out (by decide)) (by decide) (fun hx => (HXX.out b3 hx).1 rfl)
 have k4 := hf2.blk (hb1.blk H4.out (by decide)) (by decide) (fun hx => (HXX.out b4 hx).2.1 rfl)
 have e4 := k4.cell 0
 have f4 := k4.frozen 0
 have n74 : b7 ≠ b4 := Blk.ne_ k7 k4 (by decide)
 have n34 : b3 ≠ b4 := Blk.ne_ k3 k4 (by decide)
 have g7 := (k7.far (p := ⟨b4, 0, none⟩) n74 (.int .i64 at')).cell 0
 have hd3 := hd2.alien (show Fr (· = b4) w2 (w2.setCell ⟨b4, 0, none⟩ (.int .i64 at')) from (Fr.refl _ _).set1 0 _) (fun k _ hk => ⟨fun e => Blk.ne_ k4 hd2.desk (by decide) (hk.symm.trans e), _, _, hk ▸ k4, by decide⟩)
 have k33 := k3.far (p := ⟨b4, 0, none⟩) n34 (.int .i64 at')
 have k43 := (k4.set_ 0 (.int .i64 at')).eq_ (show _ = #[.int .i64 at'] by simp)
 obtain ⟨hat, hch⟩ := HFIN.out _ _ _ _ hA
 have hF3 : DFr B (fun b => X b \/ b = b4) w (w2.setCell ⟨b4, 0, none⟩ (.int .i64 at')) := ((DFr.of_bk hb1).trans (hf2.wide (Nat.le_refl _) (fun _ _ h => .inl h))).trans (DFr.of_x ((Fr.refl _ _).setCell (p := ⟨b4, 0, none⟩) (.inl (.inr rfl)) _))
 have HZ2 := Lib.hid (HZZ.out.set (b := b4) (i := 0) (u := .int .i64 at') hz2 (.inr HB40.out))
 clear hz2
 simp at e4 g7
 have G7 := Lib.hid g7
 clear c7 c3 c4 c5 cd hd1 hf2 k7 k3 k4 n74 n34 hd2 g7
 go_upto_region 3 with fail
 obtain ⟨w3, hw3⟩ : ∃ x, w2.setCell ⟨b4, 0, none⟩ (.int .i64 at') = x := ⟨_, rfl⟩
 have g7 := G7.out
 rw [hw3] at g7 hd3 k33 k43 hF3 HZ2 ⊢
 have hkE := fun (w' : World) (hb : BkFr B w3 w') => And.intro ((hb.blk k33 (by decide)).cell 0) (And.intro ((hb.blk k43 (by decide)).cell 0) (((hb.blk hd3.desk (by decide)).cell 0).trans hd3.c0))
 have HKE := Lib.hid hkE
 have HE := Lib.hid (fun w' (hb : Below w3.heap.size w3 w') => end_deskF (h := hd3.below hb) (o := o') rfl (x := at') hat hud hch)
 have HA2 := Lib.hid hA
 have HF3 := Lib.hid hF3
 have HK43 := Lib.hid k43
 clear hkE hA hF3 e4 f4 hat hch hd3 G7 k33 k43
 go_upto_region 4 with fail
 refine wp_region_lin (fun w' => BkFr B w3 w') (fun w' => w' = w3.drew) (fun k => k == 5 || k == 6) (fun k => k == 6) (fun _ => false) (by kernel_rfl) (by kernel_rfl) (rfl) (fun w' h => by subst h; exact BkFr.below (Below.refl _ _).drew) ?_
 repeat ((first
  | (refine wpL_read (v := ?_) (by rfl) (by rfl) (fun w6 hSw => ?_) ?_; rotate_left; (· (obtain ⟨y3, y4, yd⟩ := HKE.out _ hSw; go_simp; try with_reducible rfl)))
  | (refine wpL_free (v := ?_) (by rfl) (fun w6 => ?_) ?_; rotate_left; (· (go_simp; try with_reducible rfl)))
  | refine wpL_not (by rfl) ?_); (try simp only [Act.put, pA, pB, pC]))
 refine wpL_call (f := ?_) (args := ?_) (fun v w' => v = .int .i64 0 /\ DeskIs w' B gd gb g enc lim n' (endF { st with ats := ats', now := some o' } o' at') dc /\ BkFr B w3 w') (by rfl) (by rfl) (fun w6 hSw => ?_) (fun w6 hSw => ?_) (.inr (fun v6 w6 hT6 => ?_)) (fun v6 hv6 => ?_)
 rotate_left 2
 ·(skip; go_simp; first | done | (constructor <;> with_reducible rfl) | with_reducible rfl)
 ·(subst hSw; refine (HE.out _ (Below.refl _ _).drew).mono ?_; rintro e w' ⟨rfl, hd, hb⟩; exact ⟨_, rfl, rfl, hd, (BkFr.below (Below.refl _ _).drew).trans hb⟩)
 ·(exact hT6.2.2)
 obtain ⟨wz, rfl, -⟩ := hv6
 (try simp only [Act.put, pA, pB, pC])
 repeat ((first
  | (refine wpL_read (v := ?_) (by rfl) (by rfl) (fun w6 hSw => ?_) ?_; rotate_left; (· (obtain ⟨y3, y4, yd⟩ := HKE.out _ hSw; go_simp; try with_reducible rfl)))
  | (refine wpL_free (v := ?_) (by rfl) (fun w6 => ?_) ?_; rotate_left; (· (go_simp; try with_reducible rfl)))
  | refine wpL_not (by rfl) ?_); (try simp only [Act.put, pA, pB, pC]))
 refine wpL_call (f := ?_) (args := ?_) (fun v w' => DeskIs w' B gd gb g enc lim n' (endF { st with ats := ats', now := some o' } o' at') dc /\ BkFr B w3 w') (by rfl) (by rfl) (fun w6 hSw => ?_) (fun w6 hSw => ?_) (.inl (by rfl)) (fun v6 hv6 => ?_)
 rotate_left 2
 ·(skip; go_simp; first | done | (constructor <;> with_reducible rfl) | with_reducible rfl)
 ·(refine (must_ok _).mono ?_; rintro e w' ⟨rfl, rfl⟩; exact ⟨_, rfl, hSw.2⟩)
 skip
 (try simp only [Act.put, pA, pB, pC])
 refine wpL_nil ?_
 rintro w5 ⟨hd5, hb5⟩
 show bodyPost _ _ _ _ _ _
 refine bodyPost_end (results_none rfl _ _ _) rfl ?_
 exact .inl ⟨rfl, at', ats', o', n', HA2.out, hd5, hb5.blk HK43.out (by decide), HF3.out.trans (DFr.of_bk hb5), HZZ.out.bk HZ2.out hb5⟩
theorem work_size {w w1 w7 : World} {o : Obj} (h : w7.heap.size = w.heap.size + 4) (h1 : (w7.alloc o).heap.size <= w1.heap.size) : w.heap.size + 5 <= w1.heap.size := by
 have h2 : (w7.alloc o).heap.size = w7.heap.size + 1 := by simp
 omega
def WorkFZ (B gd gb g : Nat) (enc lim : Int) (st : BkS) (dc : Array Value) (X : Nat -> Prop) (Act : Int -> List (Int × Int) -> OpS -> Nat -> Prop) (Bad : Int -> Nat -> Prop) (Z Zb : Int -> World -> Prop) (w : World) (e : Ending) (w' : World) : Prop :=
 (e = .returned (.int .i64 0) /\ ∃ at' ats' o' n', Act at' ats' o' n' /\ DeskIs w' B gd gb g enc lim n' (endF { st with ats := ats', now := some o' } o' at') (dc.setIfInBounds 2 (.int .i64 at')) /\ DFr B (fun b => X b \/ b = gd) w w' /\ Z at' w') \/
 (∃ c n', e = .returned (.int .i64 c) /\ c ≠ 0 /\ Bad c n' /\ DeskIs w' B gd gb g enc lim n' st dc /\ DFr B X w w' /\ Zb c w')
def WorkF (B gd gb g : Nat) (enc lim : Int) (st : BkS) (dc : Array Value) (X : Nat -> Prop) (Act : Int -> List (Int × Int) -> OpS -> Nat -> Prop) (Bad : Int -> Nat -> Prop) (w : World) (e : Ending) (w' : World) : Prop :=
 (e = .returned (.int .i64 0) /\ ∃ at' ats' o' n', Act at' ats' o' n' /\ DeskIs w' B gd gb g enc lim n' (endF { st with ats := ats', now := some o' } o' at') (dc.setIfInBounds 2 (.int .i64 at')) /\ DFr B (fun b => X b \/ b = gd) w w') \/
 (∃ c n', e = .returned (.int .i64 c) /\ c ≠ 0 /\ Bad c n' /\ DeskIs w' B gd gb g enc lim n' st dc /\ DFr B X w w')
theorem workZ_any (B gd gb g n : Nat) (enc lim x : Int) (st : BkS) (dc : Array Value) (fn : FuncId) (cap : Array Value) (X : Nat -> Prop) (Act : Int -> List (Int × Int) -> OpS -> Nat -> Prop) (Bad : Int -> Nat -> Prop) (Z Zb : Int -> World -> Prop) (w : World) (hZ : StZ w gd Z) (hZb : StZ w gd Zb)
  (h : DeskIs w B gd gb g enc lim n st dc) (hn : st.now = none) (hx : 0 <= x /\ x <= (st.ats.length : Int)) (hdz : dc.size = 10)
  (hen : ∀ args w, (callFunc fn args).run Tryz.prog w = .ok (.enter fn args) w) (hX : ∀ b, X b -> b < w.heap.size /\ b ≠ gd)
  (hact : ∀ w1, DeskIs w1 B gd gb g enc lim n { st with now := some ⟨st.ats, x, [], st.state, false⟩ } dc -> DFr B (fun _ => False) w w1 -> w.heap.size + 5 <= w1.heap.size -> Calls Tryz.prog fn cap w1 (ActAnyZ B gd gb g enc lim st dc X Act Bad Z Zb w1))
  (hfin : ∀ at' ats' o' n', Act at' ats' o' n' -> (0 <= at' /\ at' <= (ats'.length : Int)) /\ (o'.changed = true -> st.last < 1073741824)) (hud : (st.undo.length : Int) <= st.depth) :
  Calls Tryz.prog 31 #[.pointer (some ⟨gd, 0, none⟩), .int .i64 x, .func (.func fn) #[] cap] w (WorkFZ B gd gb g enc lim st dc X Act Bad Z Zb w) := by
 have hmf : ∀ (fn : Fn) (first cap : Array Value) (w : World), (Instr.makeFunc fn first cap).run Tryz.prog w = .ok (.func fn first cap) w := fun _ _ _ _ => rfl
 have hw3 : Below w.heap.size w (((w.alloc (.cells #[.pointer (some ⟨gd, 0, none⟩)] 27)).alloc (.cells #[.int .i64 x] 3)).alloc (.cells #[.func (.func fn) #[] cap] 70)) := balloc (balloc (balloc (Below.refl _ _)))
 have b3 : Blk (((w.alloc (.cells #[.pointer (some ⟨gd, 0, none⟩)] 27)).alloc (.cells #[.int .i64 x] 3)).alloc (.cells #[.func (.func fn) #[] cap] 70)) w.heap.size 27 #[.pointer (some ⟨gd, 0, none⟩)] := ((Blk.new w _ _).alloc _).alloc _
 have b4 : Blk (((w.alloc (.cells #[.pointer (some ⟨gd, 0, none⟩)] 27)).alloc (.cells #[.int .i64 x] 3)).alloc (.cells #[.func (.func fn) #[] cap] 70)) (w.heap.size + 1) 3 #[.int .i64 x] := (Blk.new' (by simp)).alloc _
 have b5 : Blk (((w.alloc (.cells #[.pointer (some ⟨gd, 0, none⟩)] 27)).alloc (.cells #[.int .i64 x] 3)).alloc (.cells #[.func (.func fn) #[] cap] 70)) (w.heap.size + 1 + 1) 70 #[.func (.func fn) #[] cap] := Blk.new' (by simp)
 have hd0 := h.below hw3
 have cd := (hd0.desk.cell 0).trans hd0.c0
 have c3 := b3.cell 0
 have hsz : (((w.alloc (.cells #[.pointer (some ⟨gd, 0, none⟩)] 27)).alloc (.cells #[.int .i64 x] 3)).alloc (.cells #[.func (.func fn) #[] cap] 70)).heap.size = w.heap.size + 3 := by simp
 simp only [List.getElem?_toArray, List.getElem?_cons_zero] at c3
 have hio := isOpen_desk hd0
 rw [hn] at hio
 have HIO := Lib.hid hio
 have HH := Lib.hid h
 have HA := Lib.hid hact
 have HFIN := Lib.hid hfin
 have HXX := Lib.hid hX
 have HEN := Lib.hid hen
 have HZZ := Lib.hid hZ
 have HZB := Lib.hid hZb
 clear h hact hfin hX hio hen hZ hZb
 go_enter Tryz.func31, Tryz.ntmps31
 go_wp2_with fail
 obtain ⟨w0, hw0⟩ : ∃ x', (((w.alloc (.cells #[.pointer (some ⟨gd, 0, none⟩)] 27)).alloc (.cells #[.int .i64 x] 3)).alloc (.cells #[.func (.func fn) #[] cap] 70)) = x' := ⟨_, rfl⟩
 rw [hw0] at HIO hw3 b3 b4 b5 hd0 cd c3 hsz ⊢
 refine (HIO.out).mono ?_
 rintro e wz ⟨rfl, rfl⟩
 go_wp2_with fail
 have hw7 : Below w.heap.size w (w0.alloc (.cells #[.bool true] 4)) := balloc hw3
 have b7 : Blk (w0.alloc (.cells #[.bool true] 4)) (w.heap.size + 3) 4 #[.bool true] := Blk.new' hsz
 have b31 := b3.alloc (.cells #[.bool true] 4)
 have b41 := b4.alloc (.cells #[.bool true] 4)
 have b51 := b5.alloc (.cells #[.bool true] 4)
 have hz7 : (w0.alloc (.cells #[.bool true] 4)).heap.size = w.heap.size + 4 := by simp [hsz]
 obtain ⟨w7, hw70⟩ : ∃ x', w0.alloc (.cells #[.bool true] 4) = x' := ⟨_, rfl⟩
 rw [hw70] at hw7 b7 b31 b41 b51 hz7 ⊢
 clear b3 b4 b5 cd c3 hd0 HIO hw0 hw70 hsz hw3
 have hw8 : Below w.heap.size w (w7.alloc (.cells #[.int .i64 0] 37)) := balloc hw7
 have be : Blk (w7.alloc (.cells #[.int .i64 0] 37)) w7.heap.size 37 #[.int .i64 0] := Blk.new w7 _ _
 have hcall := caught_any 75 #[.pointer (some ⟨w.heap.size + 3, 0, none⟩), .pointer (some ⟨w.heap.size, 0, none⟩), .pointer (some ⟨w.heap.size + 1, 0, none⟩), .pointer (some ⟨w.heap.size + 1 + 1, 0, none⟩)] w7
  (fun w' => Work1F B gd gb g (w.heap.size + 1) enc lim st dc X Act Z (w7.alloc (.cells #[.int .i64 0] 37)) w') (fun c w' => ActBad B gd gb g enc lim st dc X Bad c (w7.alloc (.cells #[.int .i64 0] 37)) w' /\ Zb c w') Tryz.call75
  (work1_any B gd gb g n w.heap.size (w.heap.size + 1) (w.heap.size + 1 + 1) (w.heap.size + 3) enc lim x st dc fn cap X Act Bad Z Zb w _ HZZ.out ⟨by omega, by omega⟩ (HH.out.below hw8) hn hx (b7.alloc _) (b31.alloc _) (b41.alloc _) (b51.alloc _) HEN.out (fun b hb => by have := (HXX.out b hb).1; omega)
   (fun w1 hd1 hb1 => HA.out w1 hd1 ((DFr.of_below hw8).trans (DFr.of_bk hb1)) (work_size hz7 hb1.size)) HFIN.out hud)
  (fun w' hq => by
   obtain ⟨_, _, _, _, _, _, _, hf, _⟩ := hq
   exact hf.blk be (by decide) (fun hx => by
    rcases hx with hx | hx
    ·have := (HXX.out _ hx).1
     omega
    ·omega))
  (fun c w' hq => by
   obtain ⟨⟨_, _, _, _, _, _, _, hf⟩, _⟩ := hq
   exact hf.blk be (by decide) (fun hx => by
    have := (HXX.out _ hx).1
    omega))
 have HC := Lib.hid hcall
 clear hcall HA
 refine (HC.out).mono ?_
 rintro e w9 (⟨rfl, at', ats', o', n', hA, hd9, hb49, hf9, hz9⟩ | ⟨c, rfl, w8, ⟨⟨ats', o', n', hA, hc0, hbf, hd8, hf8⟩, hz8⟩, rfl⟩)
 case inl =>
  have b39 := hf9.blk (b31.alloc _) (by decide) (fun hx => by
   rcases hx with hx | hx
   ·have := (HXX.out _ hx).1
    omega
   ·omega)
  have e3 := b39.cell 0
  have e4 := hb49.cell 0
  have ed := hd9.desk.cell 2
  have fd := hd9.desk.frozen 2
  rw [Array.getElem?_eq_getElem (by omega)] at ed
  simp at e3 e4
  have hfin : WorkFZ B gd gb g enc lim st dc X Act Bad Z Zb w (.returned (.int .i64 0)) (w9.setCell ⟨gd, 2, none⟩ (.int .i64 at')) := by
   refine .inl ⟨rfl, at', ats', o', n', hA, hd9.set (by decide) _, ?_, HZZ.out.set hz9 (.inl rfl)⟩
   have h1 : DFr B (fun b => X b \/ b = gd) w w9 := DFr.call' hw8 hf9 (fun b hb h => by
    rcases h with h | h
    ·exact .inl h
    ·omega)
   exact h1.trans (DFr.of_x ((Fr.refl _ _).setCell (p := ⟨gd, 2, none⟩) (.inl (.inr rfl)) _))
  have HFN := Lib.hid hfin
  clear hfin hA hd9 hb49 hf9 hz9 b39 HC HH HXX HFIN HEN b7 b31 b41 b51 be
  go_wp2_with fail
  go_ret
  exact HFN.out
 case inr =>
  have hX8 : ∀ b, b < w.heap.size + 4 -> X b -> b < w.heap.size := fun b _ hx => (HXX.out b hx).1
  have b78 := hf8.blk (b7.alloc _) (by decide) (fun hx => by have := (HXX.out _ hx).1; omega)
  have b38 := hf8.blk (b31.alloc _) (by decide) (fun hx => by have := (HXX.out _ hx).1; omega)
  have be8 := hf8.blk be (by decide) (fun hx => by have := (HXX.out _ hx).1; omega)
  have hFe : Fr (· = w7.heap.size) w8 (w8.setCell ⟨w7.heap.size, 0, none⟩ (.int .i64 c)) := (Fr.refl _ _).set1 0 _
  have hd9 := hd8.alien hFe (fun k _ hk => ⟨fun e => Blk.ne_ be8 hd8.desk (by decide) (hk.symm.trans e), _, _, hk ▸ be8, by decide⟩)
  have b79 := b78.fr hFe (fun e => Blk.ne_ b78 be8 (by decide) e)
  have b39 := b38.fr hFe (fun e => Blk.ne_ b38 be8 (by decide) e)
  have HZ9 := Lib.hid (HZB.out.set (b := w7.heap.size) (i := 0) (u := .int .i64 c) hz8 (.inr ⟨by omega, by omega⟩))
  clear hz8
  have hF9 : DFr B X w (w8.setCell ⟨w7.heap.size, 0, none⟩ (.int .i64 c)) := by
   have h1 : DFr B (fun b => X b \/ b = w7.heap.size) (w7.alloc (.cells #[.int .i64 0] 37)) (w8.setCell ⟨w7.heap.size, 0, none⟩ (.int .i64 c)) := (hf8.wide (Nat.le_refl _) (fun _ _ h => .inl h)).trans (DFr.of_x (hFe.more (fun _ _ h => .inr h)))
   refine DFr.call' hw8 h1 (fun b hb h => ?_)
   rcases h with h | h
   ·exact h
   ·omega
  obtain ⟨w9, hw9⟩ : ∃ x', w8.setCell ⟨w7.heap.size, 0, none⟩ (.int .i64 c) = x' := ⟨_, rfl⟩
  rw [hw9] at hd9 b79 b39 hF9 HZ9 ⊢
  have hS : ∀ w', Below w9.heap.size w9 w' -> w'.cell? ⟨w.heap.size + 3, 0, none⟩ = some (.bool true) /\ w'.cell? ⟨w.heap.size, 0, none⟩ = some (.pointer (some ⟨gd, 0, none⟩)) /\ w'.cell? ⟨gd, 0, none⟩ = some (.pointer (some ⟨gb, 0, none⟩)) := fun w' hb => ⟨(b79.below hb).cell 0, (b39.below hb).cell 0, ((hd9.below hb).desk.cell 0).trans hd9.c0⟩
  have q0 : (c == 0) = false := by rw [beq_eq_false_iff_ne]; exact hc0
  have hio := isOpen_desk hd9
  have hsm : ({ st with ats := ats', now := some o' } : BkS).now.isSome = true := rfl
  rw [hsm] at hio
  have HIO := Lib.hid hio
  have hdr := drop_desk hd9 (o := o') rfl
  have hst0 : ({ { st with ats := ats', now := some o' } with ats := o'.before, now := none } : BkS) = st := by
   rw [hbf]
   cases st
   simp at hn ⊢
   exact hn.symm
  rw [hst0] at hdr
  have HDR := Lib.hid hdr
  have HF9 := Lib.hid hF9
  have HAA := Lib.hid hA
  obtain ⟨s7, s3, s0⟩ := hS w9 (Below.refl _ _)
  clear hS hio hdr hF9 hA hd8 hd9 hf8 be8 b78 b38 b79 b39 hFe hw9 hst0 hsm HC HH HXX HFIN HEN b7 b31 b41 b51 be hbf hc0
  go_wp2_with fail
  refine (HIO.out).mono ?_
  rintro e wz ⟨rfl, rfl⟩
  go_wp2_with fail
  refine (HDR.out).mono ?_
  rintro e w10 ⟨rfl, hd10, hb10⟩
  have HD := Lib.hid hd10
  have HB := Lib.hid hb10
  clear hd10 hb10
  go_wp2_with fail
  go_ret
  exact .inr ⟨c, n', rfl, by rw [beq_eq_false_iff_ne] at q0; exact q0, HAA.out, HD.out, HF9.out.trans (DFr.of_bk HB.out), HZB.out.bk HZ9.out HB.out⟩
theorem work_any (B gd gb g n : Nat) (enc lim x : Int) (st : BkS) (dc : Array Value) (fn : FuncId) (cap : Array Value) (X : Nat -> Prop) (Act : Int -> List (Int × Int) -> OpS -> Nat -> Prop) (Bad : Int -> Nat -> Prop) (w : World)
  (h : DeskIs w B gd gb g enc lim n st dc) (hn : st.now = none) (hx : 0 <= x /\ x <= (st.ats.length : Int)) (hdz : dc.size = 10)
  (hen : ∀ args w, (callFunc fn args).run Tryz.prog w = .ok (.enter fn args) w) (hX : ∀ b, X b -> b < w.heap.size /\ b ≠ gd)
  (hact : ∀ w1, DeskIs w1 B gd gb g enc lim n { st with now := some ⟨st.ats, x, [], st.state, false⟩ } dc -> DFr B (fun _ => False) w w1 -> Calls Tryz.prog fn cap w1 (ActAny B gd gb g enc lim st dc X Act Bad w1))
  (hfin : ∀ at' ats' o' n', Act at' ats' o' n' -> (0 <= at' /\ at' <= (ats'.length : Int)) /\ (o'.changed = true -> st.last < 1073741824)) (hud : (st.undo.length : Int) <= st.depth) :
  Calls Tryz.prog 31 #[.pointer (some ⟨gd, 0, none⟩), .int .i64 x, .func (.func fn) #[] cap] w (WorkF B gd gb g enc lim st dc X Act Bad w) := by
 refine (workZ_any B gd gb g n enc lim x st dc fn cap X Act Bad (fun _ _ => True) (fun _ _ => True) w (fun _ _ _ _ _ => trivial) (fun _ _ _ _ _ => trivial) h hn hx hdz hen hX (fun w1 hd1 hf1 _ => (hact w1 hd1 hf1).mono (fun e w2 hp => ?_)) hfin hud).mono (fun e w' hp => ?_)
 ·rcases hp with ⟨at', ats', o', n', h1, h2, h3, h4⟩ | ⟨c, h1, h2⟩
  ·exact .inl ⟨at', ats', o', n', h1, h2, h3, h4, trivial⟩
  ·exact .inr ⟨c, h1, h2, trivial⟩
 ·rcases hp with ⟨h0, at', ats', o', n', h1, h2, h3, _⟩ | ⟨c, n', h1, h2, h3, h4, h5, _⟩
  ·exact .inl ⟨h0, at', ats', o', n', h1, h2, h3⟩
  ·exact .inr ⟨c, n', h1, h2, h3, h4, h5⟩
theorem endF_S {st : BkS} {o : OpS} {x : Int} (h : o.changed = true -> (st.undo.length : Int) < st.depth) : endF st o x = endS st o x := by
 unfold endF endS
 split
 ·rename_i hc
  unfold pushU
  rw [if_pos (h hc)]
 ·rfl
theorem work_ok (B gd gb g n : Nat) (enc lim x : Int) (st : BkS) (dc : Array Value) (fn : FuncId) (cap : Array Value) (X : Nat -> Prop) (Act : Int -> List (Int × Int) -> OpS -> Nat -> Prop) (w : World)
  (h : DeskIs w B gd gb g enc lim n st dc) (hn : st.now = none) (hx : 0 <= x /\ x <= (st.ats.length : Int)) (hdz : dc.size = 10)
  (hen : ∀ args w, (callFunc fn args).run Tryz.prog w = .ok (.enter fn args) w) (hX : ∀ b, X b -> b < w.heap.size /\ b ≠ gd)
  (hact : ∀ w1, DeskIs w1 B gd gb g enc lim n { st with now := some ⟨st.ats, x, [], st.state, false⟩ } dc -> DFr B (fun _ => False) w w1 -> Calls Tryz.prog fn cap w1 (ActPost B gd gb g enc lim st dc X Act w1))
  (hfin : ∀ at' ats' o' n', Act at' ats' o' n' -> (0 <= at' /\ at' <= (ats'.length : Int)) /\ (o'.changed = true -> (st.undo.length : Int) < st.depth /\ st.last < 1073741824)) (hud : (st.undo.length : Int) <= st.depth) :
  Calls Tryz.prog 31 #[.pointer (some ⟨gd, 0, none⟩), .int .i64 x, .func (.func fn) #[] cap] w (WorkPost B gd gb g enc lim st dc X Act w) := by
 refine (work_any B gd gb g n enc lim x st dc fn cap X Act (fun _ _ => False) w h hn hx hdz hen hX (fun w1 hd1 hf1 => (hact w1 hd1 hf1).mono (fun _ _ hp => .inl hp)) (fun a b c d ha => ⟨(hfin a b c d ha).1, fun hc => ((hfin a b c d ha).2 hc).2⟩) hud).mono ?_
 rintro e w' (⟨rfl, at', ats', o', n', hA, hd, hf⟩ | ⟨c, n', _, _, hbad, _⟩)
 ·refine ⟨rfl, at', ats', o', n', hA, ?_, hf⟩
  rw [endF_S (st := { st with ats := ats', now := some o' }) (fun hc => ((hfin _ _ _ _ hA).2 hc).1)] at hd
  exact hd
 ·exact hbad.elim
section
variable {B gd gb g n : Nat} {enc lim : Int} {st : BkS} {dc : Array Value} {w : World}
theorem change_bad (h : DeskIs w B gd gb g enc lim n st dc) {o : OpS} (hn : st.now = some o) {D : Nat -> Prop} {A : Option Addr} {k c : Nat} {es : List Ed} (he : EdsAt w D A k es) (hD : ∀ b, D b -> b < w.heap.size -> ∃ T cs, Blk w b T cs /\ Alien T)
  (hp : putN es <= 268435456) (hnn : n + 131072 <= 1073741824) (hom : o.moves.length < 1048576) (hz : refF enc lim (sizedA enc st.ats) es ≠ 0) :
  Calls Tryz.prog 83 #[.pointer (some ⟨gb, 0, none⟩), .slice A k c] w fun e w' => e = .returned (.int .i64 (refF enc lim (sizedA enc st.ats) es)) /\ Below w.heap.size w w' := by
 obtain ⟨N, add, t, a, xs, m, vu, vr, now, n', hn', hk⟩ := h.book
 have he' : EdsAt w (fun b => D b /\ b < w.heap.size) A k es := he.more (fun b h1 h2 => ⟨h1, h2⟩)
 refine (bchange_any N B gb g enc lim n' add st t a xs m vu vr now o (fun b => D b /\ b < w.heap.size) A k c es w hk hn he' (fun b hb => ?_) hp (by omega) hom).mono ?_
 ·obtain ⟨T, cs, hT, hA⟩ := hD b hb.1 hb.2
  refine ⟨Blk.ne_ hT hk.text.blk hA.1.1, fun e0 => own_blk_ne hk.text.row hT (Ne.symm hA.1.2.2) e0, fun e0 => ?_⟩
  have ho := hk.open_
  rw [hn] at ho
  obtain ⟨p, e1, s, m2, vm, vs, h1, _⟩ := ho
  rw [e1] at e0
  injection e0 with e0
  injection e0 with e0
  exact Blk.ne_ hT h1 hA.2.2.2.1 e0.symm
 ·rintro e w' ⟨rfl, hb, -⟩
  exact ⟨rfl, hb hz⟩
def DChgPost (B gd gb g : Nat) (enc lim : Int) (n : Nat) (st : BkS) (o : OpS) (dc : Array Value) (es : List Ed) (w : World) (e : Ending) (w' : World) : Prop :=
 (refF enc lim (sizedA enc st.ats) es = 0 /\ e = .returned (.tuple #[]) /\ DeskIs w' B gd gb g enc lim (n + 131072) { st with ats := edA es st.ats, now := some { o with moves := o.moves ++ [es.map mvOf], changed := o.changed || es.any chg } } dc /\ BkFr B w w') \/
 (refF enc lim (sizedA enc st.ats) es ≠ 0 /\ e = .panicked [errPanic (refF enc lim (sizedA enc st.ats) es)] /\ Below w.heap.size w w')
theorem dchange_any (h : DeskIs w B gd gb g enc lim n st dc) {o : OpS} (hn : st.now = some o) {D : Nat -> Prop} {A : Option Addr} {k c : Nat} {es : List Ed} (he : EdsAt w D A k es) (hD : ∀ b, D b -> b < w.heap.size -> ∃ T cs, Blk w b T cs /\ Alien T)
  (hp : putN es <= 268435456) (hnn : n + 131072 <= 1073741824) (hom : o.moves.length < 1048576) :
  Calls Tryz.prog 40 #[.pointer (some ⟨gd, 0, none⟩), .slice A k c] w (DChgPost B gd gb g enc lim n st o dc es w) := by
 by_cases hz : refF enc lim (sizedA enc st.ats) es = 0
 ·refine (dchange_desk (c := c) h hn he hD hp hnn hom hz).mono ?_
  rintro e w' ⟨rfl, hd, hf⟩
  exact .inl ⟨hz, rfl, hd, hf⟩
 ·have hc := change_bad (c := c) h hn he hD hp hnn hom hz
  have cd := (h.desk.cell 0).trans h.c0
  unfold DChgPost
  obtain ⟨r, hr⟩ : ∃ r, refF enc lim (sizedA enc st.ats) es = r := ⟨_, rfl⟩
  rw [hr] at hc hz ⊢
  have HC := Lib.hid hc
  clear h he hD hc hr
  go_enter Tryz.func40, Tryz.ntmps40
  go_wp2_with fail
  refine (HC.out).mono ?_
  rintro e w1 ⟨rfl, hb⟩
  go_wp2_with fail
  refine (must_bad r hz _).mono ?_
  rintro e w2 ⟨rfl, rfl⟩
  go_wp2_with fail
  exact ⟨rfl, .inr ⟨hz, rfl, hb⟩⟩
end
def typeE (at_ : Int) (xs : List Int) (A : Option Addr) (c : Nat) : Ed := ⟨at_, at_, A, xs.length, c, xs⟩
theorem own_ints {w : World} {base n c : Nat} {A : Option Addr} {xs : List Int} (h : w.ownsRow base 3 1 (.slice A n c) n (xs.map (Value.int .i64))) : Ints w (fun b => base <= b /\ ∃ cs, Blk w b 3 cs) A n xs := by
 refine ⟨h.1, fun hk => ?_⟩
 rcases h.2 with ⟨e0, h0⟩ | ⟨r, c', cur, e1, hb, hr, h1, h2, h3, h4⟩
 ·omega
 ·have hA : A = some ⟨r, 0, none⟩ := by injection e1
  obtain ⟨ad, e2, _, hc⟩ := (Reads.of_own h).2 hk
  rw [hA] at e2
  injection e2 with e2
  refine ⟨ad, by rw [hA, e2], ⟨?_, cur, ?_⟩, hc⟩
  ·rw [<- e2]
   exact hb
  ·rw [<- e2]
   exact hr
def Type1Post (B gd gb g : Nat) (enc lim : Int) (n : Nat) (st : BkS) (o : OpS) (dc : Array Value) (at_ : Int) (xs : List Int) (w : World) (e : Ending) (w' : World) : Prop :=
 ∃ A c, e = .returned (.int .i64 (at_ + xs.length)) /\
  DeskIs w' B gd gb g enc lim (n + 131072) { st with ats := edA [typeE at_ xs A c] st.ats, now := some { o with moves := o.moves ++ [[mvOf (typeE at_ xs A c)]], changed := true } } dc /\ BkFr B w w'
def GotV (W : World) (vt : Value -> Prop) (n : Nat) (xs : List Int) (v : Value) (w' : World) : Prop := ∃ A c, v = .tuple #[.slice A n c, .int .i64 0] /\ n <= c /\ w'.ownsRow W.heap.size 3 1 (.slice A n c) n (xs.map (Value.int .i64)) /\ Below W.heap.size W w'
theorem type1_any (B gd gb g n b0 b1 b2 : Nat) (enc lim at_ b : Int) (st : BkS) (o : OpS) (dc : Array Value) (A : Option Addr) (m c : Nat) (xs : List Int) (w : World) (h : DeskIs w B gd gb g enc lim n st dc) (hn : st.now = some o) (hom : o.moves.length < 1048576)
  (h9 : dc[9]? = some (.int .i64 b)) (hb : b = 1 \/ b = 2 \/ b = 3)
  (k0 : Blk w b0 27 #[.pointer (some ⟨gd, 0, none⟩)]) (k1 : Blk w b1 3 #[.int .i64 at_]) (k2 : Blk w b2 34 #[.slice A m c])
  (hx : Ints w Any A m xs) (hm : 0 < m /\ m <= 1048576) (hno : ∀ x ∈ xs, x ≠ 10) (hat : 0 <= at_ /\ at_ <= (st.ats.length : Int)) (hz : ∀ A' c', refF enc lim (sizedA enc st.ats) [typeE at_ xs A' c'] = 0) (hnn : n + 131072 <= 1073741824) :
  Calls Tryz.prog 65 #[.pointer (some ⟨b0, 0, none⟩), .pointer (some ⟨b1, 0, none⟩), .pointer (some ⟨b2, 0, none⟩)] w (Type1Post B gd gb g enc lim n st o dc at_ xs w) := by
 have hxl := hx.len
 have hlen := h.len
 have hBX : ∀ w', Below w.heap.size w w' -> w'.cell? ⟨b0, 0, none⟩ = some (.pointer (some ⟨gd, 0, none⟩)) /\ w'.cell? ⟨b1, 0, none⟩ = some (.int .i64 at_) /\ w'.cell? ⟨b2, 0, none⟩ = some (.slice A m c) := fun w' hb =>
  ⟨(k0.below hb).cell 0, (k1.below hb).cell 0, (k2.below hb).cell 0⟩
 have hT := fun (w' : World) (hb : Below w.heap.size w w') => text_desk (h.below hb)
 have hN := fun (w' : World) (hb' : Below w.heap.size w w') => native_any gd dc b w' (h.below hb').desk h9 (by omega)
 have hTy := fun (w' : World) (hb' : Below w.heap.size w w') => typed_plain Any g enc (sizedA enc st.ats) at_ b A m c xs w' (h.below hb').at_ (by rw [sizedA_len]; exact hat) hb (Reads.below hx hb') (by omega) hno
 have HBX := Lib.hid hBX
 have HT := Lib.hid hT
 have HN := Lib.hid hN
 have HTY := Lib.hid hTy
 have HH := Lib.hid h
 have HNW := Lib.hid hn
 have HZ := Lib.hid hz
 have HXL := Lib.hid hxl
 have HK1 := Lib.hid k1
 have wa : IntKind.i64.wrap (at_ + (m : Int)) = at_ + (m : Int) := IntWalk.i64_in _ (by omega)
 have q0 : ((0 : Int) < (m : Int)) = True := by simp; omega
 clear hBX hT hN hTy h hn hz hx k0 k1 k2 hno hxl h9
 go_enter Tryz.func65, Tryz.ntmps65
 go_wp2_with fail
 refine wp_region_lin (fun w' => Below w.heap.size w w') (fun w' => Below w.heap.size w w') (fun k => k == 1 || k == 5 || k == 6) (fun _ => false) (fun _ => false) (by kernel_rfl) (by kernel_rfl) (Below.drew (Below.refl _ _)) (fun _ h => h) ?_
 repeat ((first
  | (refine wpL_read (v := ?_) (by rfl) (by rfl) (fun w6 hSw => ?_) ?_; rotate_left; (· (obtain ⟨y0, y1, y2⟩ := HBX.out _ hSw; go_simp; try with_reducible rfl)))
  | (refine wpL_free (v := ?_) (by rfl) (fun w6 => ?_) ?_; rotate_left; (· (go_simp; try with_reducible rfl)))
  | refine wpL_not (by rfl) ?_); (try simp only [Act.put, pA, pB, pC]))
 refine wpL_call1 (f := ?_) (args := ?_) (v := .pointer (some ⟨g, 0, none⟩)) (by rfl) (by rfl) (fun w6 hSw => ?_) (fun _ h => h) (fun w6 hSw => ?_) ?_
 rotate_left 2
 ·(skip; go_simp; first | done | (constructor <;> with_reducible rfl) | with_reducible rfl)
 ·(refine (HT.out _ hSw).mono ?_; rintro e w5 ⟨rfl, rfl⟩; exact ⟨rfl, hSw⟩)
 (try simp only [Act.put, pA, pB, pC])
 repeat ((first
  | (refine wpL_read (v := ?_) (by rfl) (by rfl) (fun w6 hSw => ?_) ?_; rotate_left; (· (obtain ⟨y0, y1, y2⟩ := HBX.out _ hSw; go_simp; try with_reducible rfl)))
  | (refine wpL_free (v := ?_) (by rfl) (fun w6 => ?_) ?_; rotate_left; (· (go_simp; try with_reducible rfl)))
  | refine wpL_not (by rfl) ?_); (try simp only [Act.put, pA, pB, pC]))
 refine wpL_call1 (f := ?_) (args := ?_) (v := .int .i64 b) (by rfl) (by rfl) (fun w6 hSw => ?_) (fun _ h => h) (fun w6 hSw => ?_) ?_
 rotate_left 2
 ·(skip; go_simp; first | done | (constructor <;> with_reducible rfl) | with_reducible rfl)
 ·(refine (HN.out _ hSw).mono ?_; rintro e w5 ⟨rfl, rfl⟩; exact ⟨rfl, hSw⟩)
 (try simp only [Act.put, pA, pB, pC])
 repeat ((first
  | (refine wpL_read (v := ?_) (by rfl) (by rfl) (fun w6 hSw => ?_) ?_; rotate_left; (· (obtain ⟨y0, y1, y2⟩ := HBX.out _ hSw; go_simp; try with_reducible rfl)))
  | (refine wpL_free (v := ?_) (by rfl) (fun w6 => ?_) ?_; rotate_left; (· (go_simp; try with_reducible rfl)))
  | refine wpL_not (by rfl) ?_); (try simp only [Act.put, pA, pB, pC]))
 refine wpL_call (f := ?_) (args := ?_) (GotV w (fun _ => True) m xs) (by rfl) (by rfl) (fun w6 hSw => ?_) (fun w6 hSw => ?_) (.inr (fun v6 w6 hT6 => ?_)) (fun v6 hv6 => ?_)
 rotate_left 2
 ·(skip; go_simp; first | done | (constructor <;> with_reducible rfl) | with_reducible rfl)
 ·(refine (HTY.out _ hSw).mono ?_; rintro e w5 ⟨v5, rfl, ho5, hb5⟩; obtain ⟨A5, c5, rfl, hc5⟩ := own_slice ho5; exact ⟨_, rfl, A5, c5, rfl, hc5, ownsRow_le ho5 hSw.size, bseq hSw hb5⟩)
 ·(obtain ⟨_, _, _, _, _, hb5⟩ := hT6; exact hb5)
 obtain ⟨w7, A7, c7, rfl, hc7, -, -⟩ := hv6
 (try simp only [Act.put, pA, pB, pC])
 repeat ((first
  | (refine wpL_read (v := ?_) (by rfl) (by rfl) (fun w6 hSw => ?_) ?_; rotate_left; (· (obtain ⟨y0, y1, y2⟩ := HBX.out _ hSw; go_simp; try with_reducible rfl)))
  | (refine wpL_free (v := ?_) (by rfl) (fun w6 => ?_) ?_; rotate_left; (· (go_simp; try with_reducible rfl)))
  | refine wpL_not (by rfl) ?_); (try simp only [Act.put, pA, pB, pC]))
 refine wpL_nil ?_
 rintro w2 ⟨A2, c2, e2, hc2, ho2, hb2⟩
 simp at e2
 obtain ⟨rfl, rfl⟩ := e2
 go_wp2_with fail
 refine (must_ok _).mono ?_
 rintro e w3 ⟨rfl, rfl⟩
 obtain ⟨y0, y1, y2⟩ := HBX.out _ hb2
 have hb3 : Below w.heap.size w (w2.alloc (.cells #[.int .i64 at_, .int .i64 at_, .slice A7 m c7] 80)) := balloc hb2
 have hE3 : Blk (w2.alloc (.cells #[.int .i64 at_, .int .i64 at_, .slice A7 m c7] 80)) w2.heap.size 80 #[.int .i64 at_, .int .i64 at_, .slice A7 m c7] := Blk.new w2 _ _
 have hI3 := own_ints (own_bel ho2 (balloc (o := .cells #[.int .i64 at_, .int .i64 at_, .slice A7 m c7] 80) (Below.refl _ _)))
 go_wp2_with fail
 obtain ⟨w3, hw3⟩ : ∃ x, w2.alloc (.cells #[.int .i64 at_, .int .i64 at_, .slice A7 m c7] 80) = x := ⟨_, rfl⟩
 rw [hw3] at hb3 hE3 hI3 ⊢
 have hEd : EdsAt w3 (fun b => (∃ cs, Blk w3 b 3 cs) \/ ∃ cs, Blk w3 b 80 cs) (some ⟨w2.heap.size, 0, none⟩) 1 [typeE at_ xs A7 c7] := by
  refine ⟨⟨rfl, fun _ => ⟨_, rfl, .inr ⟨_, hE3⟩, fun j u hu => ?_⟩⟩, fun e he => ?_⟩
  ·rw [add_cell, hE3.cell, Nat.zero_add]
   simp only [typeE, Ed.cells, HXL.out, List.flatMap_cons, List.flatMap_nil, List.append_nil] at hu
   rw [<- hu]
   simp
  ·simp at he
   subst he
   have h1 := Reads.more hI3 (D' := fun b => (∃ cs, Blk w3 b 3 cs) \/ ∃ cs, Blk w3 b 80 cs) (fun b hb _ => .inl hb.2) (by decide)
   simp only [typeE, HXL.out]
   exact h1
 have hch : (o.changed || [typeE at_ xs A7 c7].any chg) = true := by
  have : chg (typeE at_ xs A7 c7) = true := by
   unfold chg typeE
   simp [HXL.out]
   omega
  simp [this]
 have hDC := dchange_desk (c := 1) (HH.out.below hb3) HNW.out hEd (fun b hb _ => by
  rcases hb with ⟨cs, hb⟩ | ⟨cs, hb⟩
  ·exact ⟨_, cs, hb, by decide⟩
  ·exact ⟨_, cs, hb, by decide⟩) (by simp [putN, typeE, HXL.out]; omega) hnn hom (HZ.out A7 c7)
 rw [hch] at hDC
 have HDC := Lib.hid hDC
 clear hDC hch hEd hI3 hE3 hw3 y0 y1 y2 ho2
 refine (HDC.out).mono ?_
 rintro e w4 ⟨rfl, hd4, hb4⟩
 have y1 := (hb4.blk (HK1.out.below hb3) (by decide)).cell 0
 simp at y1
 have HD4 := Lib.hid hd4
 clear hd4
 go_wp2_with fail
 go_ret
 exact ⟨A7, c7, ret_i (by rw [HXL.out]), HD4.out, (BkFr.below hb3).trans hb4⟩
end Go.Proofs.YtkoakanpaehkmaaGreatDoor
