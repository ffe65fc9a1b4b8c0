/-
  operate.Type, where no line end is typed and the cursor is in the text.
-/
import Derived.Test.YtgiihhikdoikgaaGreatLUndoLaw
import Derived.Recover
import Derived.Test.YtgiihhikdoikgaaGreatLEnd2
import Derived.Test.YtgiihhikdoikgaaGreatLOfLaw
import Derived.Test.YtgiihhikdoikgaaGreatLHeavy
import Derived.Test.YtgiihhikdoikgaaGreatLTyped
set_option linter.unusedSimpArgs false
set_option linter.unusedVariables false
set_option maxRecDepth 100000
set_option maxHeartbeats 32000000
namespace Go.Proofs.YtgiihhikdoikgaaGreat
open Go.RowKit
theorem caught1_ret (r : Nat) (w : World) :
  CallsD Tryz.prog 76 #[.pointer (some ⟨r, 0, none⟩)] .returning w fun e u' w' => u' = .returning /\ e = .returned (.tuple #[]) /\ w' = w := by
 refine callsD_of_wpS Tryz.func76 rfl fun c₀ cs hu => ?_
 apply wpS_seq
 apply wpS_region
 simp [wpOpsS, go_sem, recoverD, hu, Tryz.ntmps76, Exit.thenS]
 refine wpS_of_wp ?_
 go_wp2_with fail
 simp [bodyPostS, results, Tryz.results76, go_sem]
 cases c₀
 simp at hu
 subst hu
 rfl
section
variable {B gd gb g n : Nat} {enc lim : Int} {st : BkS} {dc : Array Value} {w : World}
theorem begin_desk (h : DeskIs w B gd gb g enc lim n st dc) (hn : st.now = none) {x : Int} (hx : 0 <= x /\ x <= (st.ats.length : Int)) :
  Calls Tryz.prog 90 #[.pointer (some ⟨gb, 0, none⟩), .int .i64 x] w fun e w' => e = .returned (.int .i64 0) /\ DeskIs w' B gd gb g enc lim n { st with now := some ⟨st.ats, x, [], st.state, false⟩ } dc /\ BkFr B w w' := by
 obtain ⟨N, add, t, a, xs, m, vu, vr, now, n', hn', hk⟩ := h.book
 refine (bbegin_any N B gb g enc lim n' add st t a xs m vu vr now x w hk hn hx).mono ?_
 rintro e w' ⟨rfl, now', hk', hf⟩
 have hb : BkFr B w w' := BkFr.book hk.blk hk.low.1 hf
 exact ⟨rfl, h.bk hb ⟨_, add, t, a, xs, m, vu, vr, now', n', hn', hk'⟩, hb⟩
end
def ActPost (B gd gb g : Nat) (enc lim : Int) (st : BkS) (dc : Array Value) (X : Nat -> Prop) (Act : Int -> List (Int × Int) -> OpS -> Nat -> Prop) (w1 : World) (e : Ending) (w2 : World) : Prop :=
 ∃ at' ats' o' n', Act at' ats' o' n' /\ e = .returned (.int .i64 at') /\ DeskIs w2 B gd gb g enc lim n' { st with ats := ats', now := some o' } dc /\ DFr B X w1 w2
theorem isOpen_desk {B gd gb g n : Nat} {enc lim : Int} {st : BkS} {dc : Array Value} {w : World} (h : DeskIs w B gd gb g enc lim n st dc) : Calls Tryz.prog 88 #[.pointer (some ⟨gb, 0, none⟩)] w fun e w' => e = .returned (.bool st.now.isSome) /\ w = w' := by
 obtain ⟨N, add, t, a, xs, m, vu, vr, now, n', hn', hk⟩ := h.book
 have e1 : st.now.isSome = now.isSome := by
  have := hk.open_
  cases hn : st.now with
  | none => rw [hn] at this; rw [this]; rfl
  | some o => rw [hn] at this; obtain ⟨p, e, _⟩ := this; rw [e]; rfl
 rw [e1]
 exact isOpen_any gb _ now w hk.blk (by simp)
theorem rowc_of {w : World} {b : Nat} {L : Ln} {i : Int} {A1 A2 : Option Addr} {n1 c1 n2 c2 : Nat} (h : Blk w b 137 (rowV L i A1 n1 c1 A2 n2 c2)) :
  w.cell? ⟨b, 0, none⟩ = some (.int .i64 L.from_) /\ w.cell? ⟨b, 1, none⟩ = some (.int .i64 L.to_) /\ w.cell? ⟨b, 2, none⟩ = some (.int .i64 L.next) /\ w.cell? ⟨b, 3, none⟩ = some (.int .i64 L.brk) /\ w.cell? ⟨b, 4, none⟩ = some (.int .i64 i) /\
   w.cell? ⟨b, 5, none⟩ = some (.slice A1 n1 c1) /\ w.cell? ⟨b, 6, none⟩ = some (.slice A2 n2 c2) := (row_facts h).1
theorem place_neg (D : Nat -> Prop) (L : Ln) (i : Int) (C : List Int) (v : Array Value) (w : World) (h : RowC w D L i C v) (hL : 0 <= L.from_ /\ L.from_ <= 1073741824) (hn : (allB C).length <= 1073741825) (hB : ∀ x ∈ allB C, 0 <= x /\ x <= 1073741824) :
  Calls Tryz.prog 85 #[.agg v, .int .i64 (-1)] w fun e w' => e = .returned (.int .i64 (L.from_ + (allB C).getD 0 0)) /\ Below w.heap.size w w' := by
 obtain ⟨A1, n1, c1, A2, n2, c2, rfl, h1, h2, h3, h4⟩ := h
 obtain ⟨x0, x1, x2, x3⟩ := L
 dsimp only at hL ⊢
 have hlen := h3.len
 have hpos : 0 < (allB C).length := by simp [allB]
 obtain ⟨b, off, rfl, hD, hcell⟩ := ints_form h3 (by omega)
 have hc := hcell 0 (by omega)
 have hmb : 0 <= (allB C).getD 0 0 /\ (allB C).getD 0 0 <= 1073741824 := by
  rw [List.getD_eq_getElem?_getD, List.getElem?_eq_getElem (by omega)]
  exact hB _ (List.getElem_mem _)
 obtain ⟨m, hm⟩ : ∃ m, (allB C).getD 0 0 = m := ⟨_, rfl⟩
 rw [hm] at hc hmb ⊢
 rw [Nat.add_zero] at hc
 have hcl := fun (w' : World) => clusters_any ⟨x0, x1, x2, x3⟩ i A1 (some ⟨b, off, none⟩) n1 c1 n2 c2 w' (by omega) (by omega)
 obtain ⟨N, hN⟩ : ∃ N, n2 - 1 = N := ⟨_, rfl⟩
 rw [hN] at hcl
 have hjn : (0 : Int) < (n2 : Int) := by omega
 have hjn2 : 0 < n2 := by omega
 have hjn3 : ¬ n2 <= 0 := by omega
 have hjn4 : ¬ n2 = 0 := by omega
 have hwr : IntKind.i64.wrap (x0 + m) = x0 + m := IntWalk.i64_in _ (by omega)
 have hb0 := Blk.new w 137 (rowV ⟨x0, x1, x2, x3⟩ i A1 n1 c1 (some ⟨b, off, none⟩) n2 c2)
 obtain ⟨⟨g0, g1, g2, g3, g4, g5, g6⟩, _⟩ := row_facts hb0
 have hcw := cell_keep (balloc (o := .cells (rowV ⟨x0, x1, x2, x3⟩ i A1 n1 c1 (some ⟨b, off, none⟩) n2 c2) 137) (Below.refl _ w)) hc
 have hW : Below w.heap.size w (w.alloc (.cells (rowV ⟨x0, x1, x2, x3⟩ i A1 n1 c1 (some ⟨b, off, none⟩) n2 c2) 137)) := balloc (Below.refl _ w)
 unfold rowV at hcl g0 g1 g2 g3 g4 g5 g6 hcw hW
 dsimp only at hcl g0 g1 g2 g3 g4 g5 g6 hcw hW
 have HCL := Lib.hid hcl
 have HW := Lib.hid hW
 have hS := And.intro g0 (And.intro g1 (And.intro g2 (And.intro g3 (And.intro g4 (And.intro g5 (And.intro g6 hcw))))))
 clear hcl hm hN hlen hpos hcell hB hb0 h1 h3 hW
 ·have hz2 : ((N : Int) < 0) = False := by simp
  have hz4 : ((-1 : Int) < 0) = True := by simp
  unfold rowV
  go_enter Tryz.func85, Tryz.ntmps85
  go_upto_region 1 with fail
  go_cut [4] (fun s4 wx => s4 = .int .i64 (x0 + m) /\ Below w.heap.size w wx)
  case first =>
   have hSd := keep8 (Below.drew (Below.refl _ _)) hS
   go_region_held3 (fun w' => w'.cell? ⟨w.heap.size, 0, none⟩ = some (.int .i64 x0) /\ w'.cell? ⟨w.heap.size, 1, none⟩ = some (.int .i64 x1) /\ w'.cell? ⟨w.heap.size, 2, none⟩ = some (.int .i64 x2) /\ w'.cell? ⟨w.heap.size, 3, none⟩ = some (.int .i64 x3) /\ w'.cell? ⟨w.heap.size, 4, none⟩ = some (.int .i64 i) /\ w'.cell? ⟨w.heap.size, 5, none⟩ = some (.slice A1 n1 c1) /\ w'.cell? ⟨w.heap.size, 6, none⟩ = some (.slice (some ⟨b, off, none⟩) n2 c2) /\ w'.cell? ⟨b, off, none⟩ = some (.int .i64 m)) (first | (with_reducible assumption) | (with_reducible exact hSd)) (first | (go_at_call 84; refine (HCL.out _).mono ?_; rintro e w1 ⟨rfl, hb1⟩; have s1 := keep8 (bdrew hb1) hS))
   all_goals
    go_wp2_with fail
    go_meet
    exact ⟨rfl, bseq HW.out (bdrew hb1)⟩
  case rest =>
   obtain ⟨rfl, hb⟩ := hcut
   go_wp2_with fail
   go_ret
   exact ⟨rfl, hb⟩
def ClampOk (ds : List (Int × Int)) (at_ : Int) (j : Nat) : Prop :=
 if (lineF ds (rowIx ds at_ false)).to_ <= min (max at_ 0) (ds.length : Int) then j = nC (cont ds (rowIx ds at_ false)) - 1 else InC (cont ds (rowIx ds at_ false)) (min (max at_ 0) (ds.length : Int) - (lineF ds (rowIx ds at_ false)).from_).toNat j
theorem rowIx_from {ds : List (Int × Int)} (hp : PosD ds) (at_ : Int) : (lineF ds (rowIx ds at_ false)).from_ <= min (max at_ 0) (ds.length : Int) := by
 have hix := rowIx_le ds at_ false
 rw [line_from]
 have h1 : rowIx ds at_ false <= ofF ds at_ := by unfold rowIx; simp; omega
 have := line_sk_le hp (m := min at_.toNat ds.length) (k := rowIx ds at_ false) (by omega) hix h1
 omega
theorem clamp_gen (D : Nat -> Prop) (g : Nat) (enc : Int) (ds : List (Int × Int)) (at_ : Int) (w : World) (h : TextAt w D g enc ds) :
  Calls Tryz.prog 82 #[.pointer (some ⟨g, 0, none⟩), .int .i64 at_, .bool false] w fun e w' => ∃ j : Nat, e = .returned (.int .i64 ((lineF ds (rowIx ds at_ false)).from_ + (mkb (cont ds (rowIx ds at_ false)) j : Int))) /\ ClampOk ds at_ j /\ j <= nC (cont ds (rowIx ds at_ false)) /\ Below w.heap.size w w' := by
 have hp := h.pos
 have hfr := rowIx_from hp at_
 have hix := rowIx_le ds at_ false
 have hbd := lineF_bd hp hix
 have hcl := cont_len hp hix
 have hlen := h.len
 have hra := rowAt_any D g enc ds at_ false w h
 have hle := fun (wy : World) (hy : Below w.heap.size w wy) => len_any D g enc ds wy (h.below hy)
 unfold ClampOk
 obtain ⟨I, hI⟩ : ∃ I, rowIx ds at_ false = I := ⟨_, rfl⟩
 rw [hI] at hbd hcl hra hfr ⊢
 obtain ⟨L, hL⟩ : ∃ L, lineF ds I = L := ⟨_, rfl⟩
 obtain ⟨C, hC⟩ : ∃ C, cont ds I = C := ⟨_, rfl⟩
 rw [hL] at hbd hcl hra hfr ⊢
 rw [hC] at hcl hra ⊢
 obtain ⟨n, hn⟩ : ∃ n, ds.length = n := ⟨_, rfl⟩
 rw [hn] at hle hlen hbd hfr ⊢
 obtain ⟨p, hpp⟩ : ∃ p, min (max at_ 0) (n : Int) = p := ⟨_, rfl⟩
 rw [hpp] at hfr ⊢
 have hl0 : 0 <= L.from_ /\ L.from_ <= 1073741824 := by omega
 have hc0 : C.length <= 1073741824 := by omega
 have hcases : ((at_ < 0) = True /\ ((n : Int) < 0) = False /\ p = 0) \/ ((at_ < 0) = False /\ ((n : Int) < at_) = False /\ p = at_) \/ ((at_ < 0) = False /\ ((n : Int) < at_) = True /\ p = (n : Int)) := by
  simp only [eq_iff_iff, iff_true, iff_false]
  omega
 have hcr : p < L.to_ -> ∃ r : Nat, L.from_ + (r : Int) = p /\ (p - L.from_).toNat = r /\ ∃ j, InC C r j := fun hlt => by
  obtain ⟨j, hj⟩ := inC_ex (C := C) (r := (p - L.from_).toNat) (by omega)
  exact ⟨(p - L.from_).toNat, by omega, rfl, j, hj⟩
 have HRA := Lib.hid hra
 have HLE := Lib.hid hle
 have HCR := Lib.hid hcr
 clear hra hle hI hL hC hix hp hcl hbd h hn hcr hpp
 by_cases hpt : p < L.to_
 ·obtain ⟨r, hr, hr2, j, hj⟩ := HCR.out hpt
  have q5 : (L.to_ <= p) = False := by simp; omega
  have HR := Lib.hid hr
  have HJ := Lib.hid hj
  obtain ⟨P, hP⟩ : ∃ P, L.from_ + (mkb C j : Int) = P := ⟨_, rfl⟩
  have hjle := hj.le
  suffices hs : Calls Tryz.prog 82 #[.pointer (some ⟨g, 0, none⟩), .int .i64 at_, .bool false] w fun e w' => e = .returned (.int .i64 P) /\ Below w.heap.size w w' by
   refine hs.mono ?_
   rintro e w' ⟨rfl, hb⟩
   exact ⟨j, by rw [hP], by rw [if_neg (by omega), hr2]; exact hj, hjle, hb⟩
  have HP := Lib.hid hP
  clear hP hr hr2 hj hfr HCR hpt hjle
  rcases hcases with ⟨q1, q2, rfl⟩ | ⟨q1, q2, rfl⟩ | ⟨q1, q2, rfl⟩
  all_goals
   go_enter Tryz.func82, Tryz.ntmps82
   go_wp2_with fail
   refine (HRA.out).mono ?_
   rintro e w1 ⟨v, rfl, hrow, hb1⟩
   have hco := fun (wy : World) (hy : Below w1.heap.size w1 wy) => column_mk _ L I C v r wy (hrow.below hy) hl0 hc0
   have hpl := fun (wy : World) (hy : Below w1.heap.size w1 wy) => place_mk _ L I C v j wy (hrow.below hy) hl0 hc0 HJ.out.le
   rw [HR.out] at hco
   rw [HP.out] at hpl
   obtain ⟨A1, n1, c1, A2, n2, c2, rfl⟩ := first_v hrow
   have HCO := Lib.hid hco
   have HPL := Lib.hid hpl
   clear hco hrow hpl
   have hf := fun (wy : World) (hy : Below (w1.alloc (.cells (rowV L I A1 n1 c1 A2 n2 c2) 137)).heap.size (w1.alloc (.cells (rowV L I A1 n1 c1 A2 n2 c2) 137)) wy) => rowc_of ((Blk.new w1 137 (rowV L I A1 n1 c1 A2 n2 c2)).below hy)
   have hw1 : Below w1.heap.size w1 (w1.alloc (.cells (rowV L I A1 n1 c1 A2 n2 c2) 137)) := balloc (Below.refl _ _)
   obtain ⟨x0, x1, x2, x3⟩ := L
   unfold rowV at HCO HPL hf hw1 ⊢
   dsimp only at HCO HPL hf hl0 hw1 q5 ⊢
   have HF := Lib.hid hf
   clear hf
   go_wp2_with fail
   refine (HLE.out _ (bseq hb1 hw1)).mono ?_
   rintro e w2 ⟨rfl, hb2⟩
   obtain ⟨g0, g1, g2, g3, g4, g5, g6⟩ := HF.out _ hb2
   go_upto_region 7 with fail
   have hb3 := bseq hw1 hb2
   refine wp_region_steady (fun w' => Below w2.heap.size w2 w') (by kernel_rfl) (by kernel_rfl) (Below.drew (Below.refl _ _)) ?_
   repeat ((first
    | (refine wpSt_read (v := ?_) (by rfl) (fun w6 hSw => ?_) ?_; rotate_left; (· (obtain ⟨g0, g1, g2, g3, g4, g5, g6⟩ := HF.out _ (bseq hb2 hSw); go_simp; try with_reducible rfl)))
    | refine wpSt_not (by rfl) ?_
    | (refine wpSt_call (f := ?_) (args := ?_) (v := .int .i64 (j : Int)) (by rfl) (fun w6 hSw => ?_) (fun w6 hSw => ?_) ?_; rotate_left 2; (· (obtain ⟨g0, g1, g2, g3, g4, g5, g6⟩ := HF.out _ (bseq hb2 hSw); go_simp; first | done | (constructor <;> with_reducible rfl) | with_reducible rfl)); (· ((with_reducible refine (HCO.out _ (bseq hb3 hSw)).mono ?_); rintro e w5 ⟨⟨j', rfl, hj'⟩, hb5⟩; have hjj := hj'.uniq HJ.out; subst hjj; exact ⟨rfl, bseq hSw hb5⟩)))
    | (refine wpSt_call (f := ?_) (args := ?_) (v := .int .i64 P) (by rfl) (fun w6 hSw => ?_) (fun w6 hSw => ?_) ?_; rotate_left 2; (· (obtain ⟨g0, g1, g2, g3, g4, g5, g6⟩ := HF.out _ (bseq hb2 hSw); go_simp; first | done | (constructor <;> with_reducible rfl) | with_reducible rfl)); (· ((with_reducible refine (HPL.out _ (bseq hb3 hSw)).mono ?_); rintro e w5 ⟨rfl, hb5⟩; exact ⟨rfl, bseq hSw hb5⟩)))); (try simp only [Act.put, pA, pB, pC]))
   refine wpSt_nil ?_
   intro w4 hb4
   go_wp2_with fail
   go_ret
   exact ⟨rfl, bseq (bseq hb1 hb3) hb4⟩
 ·have q5 : (L.to_ <= p) = True := by simp; omega
  obtain ⟨P, hP⟩ : ∃ P, L.from_ + ((mkb C (nC C - 1) : Nat) : Int) = P := ⟨_, rfl⟩
  suffices hs : Calls Tryz.prog 82 #[.pointer (some ⟨g, 0, none⟩), .int .i64 at_, .bool false] w fun e w' => e = .returned (.int .i64 P) /\ Below w.heap.size w w' by
   refine hs.mono ?_
   rintro e w' ⟨rfl, hb⟩
   exact ⟨nC C - 1, by rw [<- hP], by rw [if_pos (by omega)], by omega, hb⟩
  have hnc := nC_le C
  obtain ⟨K, hK⟩ : ∃ K : Int, (nC C : Int) - 1 = K := ⟨_, rfl⟩
  have hwr : IntKind.i64.wrap ((nC C : Int) - 1) = K := by rw [IntWalk.i64_in _ (by omega), hK]
  have hpl0 : ∀ (v : Array Value) (wy : World) (D' : Nat -> Prop), RowC wy D' L I C v -> Calls Tryz.prog 85 #[.agg v, .int .i64 K] wy fun e w' => e = .returned (.int .i64 P) /\ Below wy.heap.size wy w' := fun v wy D' hrow => by
   rcases Nat.eq_zero_or_pos (nC C) with h0 | h0
   ·have hk1 : K = -1 := by omega
    have := place_neg D' L I C v wy hrow hl0 (by rw [allB_len]; omega) (allB_bd hc0)
    rw [allB_at (k := 0) (by omega), <- show nC C - 1 = 0 by omega, hP] at this
    rw [hk1]
    exact this
   ·have := place_mk D' L I C v (nC C - 1) wy hrow hl0 hc0 (by omega)
    rw [hP, show ((nC C - 1 : Nat) : Int) = K by omega] at this
    exact this
  obtain ⟨N, hN⟩ : ∃ N, nC C = N := ⟨_, rfl⟩
  have hcn := fun (v : Array Value) (wy : World) (D' : Nat -> Prop) (hrow : RowC wy D' L I C v) => clusters_mk D' L I C v wy hrow hc0
  rw [hN] at hcn hwr
  have HPL0 := Lib.hid hpl0
  have HCN := Lib.hid hcn
  have HWR := Lib.hid hwr
  clear hP hfr HCR hpt hpl0 hcn hnc hK hN hwr
  rcases hcases with ⟨q1, q2, rfl⟩ | ⟨q1, q2, rfl⟩ | ⟨q1, q2, rfl⟩
  all_goals
   go_enter Tryz.func82, Tryz.ntmps82
   go_wp2_with fail
   refine (HRA.out).mono ?_
   rintro e w1 ⟨v, rfl, hrow, hb1⟩
   have hco := fun (wy : World) (hy : Below w1.heap.size w1 wy) => HCN.out v wy _ (hrow.below hy)
   have hpl := fun (wy : World) (hy : Below w1.heap.size w1 wy) => HPL0.out v wy _ (hrow.below hy)
   obtain ⟨A1, n1, c1, A2, n2, c2, rfl⟩ := first_v hrow
   have HCO := Lib.hid hco
   have HPL := Lib.hid hpl
   clear hco hrow hpl
   have hf := fun (wy : World) (hy : Below (w1.alloc (.cells (rowV L I A1 n1 c1 A2 n2 c2) 137)).heap.size (w1.alloc (.cells (rowV L I A1 n1 c1 A2 n2 c2) 137)) wy) => rowc_of ((Blk.new w1 137 (rowV L I A1 n1 c1 A2 n2 c2)).below hy)
   have hw1 : Below w1.heap.size w1 (w1.alloc (.cells (rowV L I A1 n1 c1 A2 n2 c2) 137)) := balloc (Below.refl _ _)
   obtain ⟨x0, x1, x2, x3⟩ := L
   unfold rowV at HCO HPL hf hw1 ⊢
   dsimp only at HCO HPL hf hl0 hw1 q5 ⊢
   have HF := Lib.hid hf
   clear hf
   go_wp2_with fail
   refine (HLE.out _ (bseq hb1 hw1)).mono ?_
   rintro e w2 ⟨rfl, hb2⟩
   obtain ⟨g0, g1, g2, g3, g4, g5, g6⟩ := HF.out _ hb2
   go_upto_region 6 with fail
   have hb3 := bseq hw1 hb2
   have hwr := HWR.out
   refine wp_region_steady (fun w' => Below w2.heap.size w2 w') (by kernel_rfl) (by kernel_rfl) (Below.drew (Below.refl _ _)) ?_
   repeat ((first
    | (refine wpSt_read (v := ?_) (by rfl) (fun w6 hSw => ?_) ?_; rotate_left; (· (obtain ⟨g0, g1, g2, g3, g4, g5, g6⟩ := HF.out _ (bseq hb2 hSw); go_simp; try with_reducible rfl)))
    | refine wpSt_not (by rfl) ?_
    | (refine wpSt_call (f := ?_) (args := ?_) (v := .int .i64 (N : Int)) (by rfl) (fun w6 hSw => ?_) (fun w6 hSw => ?_) ?_; rotate_left 2; (· (obtain ⟨g0, g1, g2, g3, g4, g5, g6⟩ := HF.out _ (bseq hb2 hSw); go_simp; first | done | (constructor <;> with_reducible rfl) | with_reducible rfl)); (· ((with_reducible refine (HCO.out _ (bseq hb3 hSw)).mono ?_); rintro e w5 ⟨rfl, hb5⟩; exact ⟨rfl, bseq hSw hb5⟩)))
    | (refine wpSt_call (f := ?_) (args := ?_) (v := .int .i64 P) (by rfl) (fun w6 hSw => ?_) (fun w6 hSw => ?_) ?_; rotate_left 2; (· (obtain ⟨g0, g1, g2, g3, g4, g5, g6⟩ := HF.out _ (bseq hb2 hSw); go_simp; first | done | (constructor <;> with_reducible rfl) | with_reducible rfl)); (· ((with_reducible refine (HPL.out _ (bseq hb3 hSw)).mono ?_); rintro e w5 ⟨rfl, hb5⟩; exact ⟨rfl, bseq hSw hb5⟩)))); (try simp only [Act.put, pA, pB, pC]))
   refine wpSt_nil ?_
   intro w4 hb4
   go_wp2_with fail
   go_ret
   exact ⟨rfl, bseq (bseq hb1 hb3) hb4⟩
section
variable {B gd gb g n : Nat} {enc lim : Int} {st : BkS} {dc : Array Value} {w : World}
theorem text_desk (h : DeskIs w B gd gb g enc lim n st dc) : Calls Tryz.prog 34 #[.pointer (some ⟨gd, 0, none⟩)] w fun e w' => e = .returned (.pointer (some ⟨g, 0, none⟩)) /\ w = w' := by
 obtain ⟨cs, hb, h0⟩ := h.blkB
 exact desk_text gd gb g dc cs w h.desk h.c0 hb h0
theorem clamp_desk (h : DeskIs w B gd gb g enc lim n st dc) (at_ : Int) :
  Calls Tryz.prog 31 #[.pointer (some ⟨gd, 0, none⟩), .int .i64 at_] w fun e w' => ∃ j : Nat, e = .returned (.int .i64 ((lineF (sizedA enc st.ats) (rowIx (sizedA enc st.ats) at_ false)).from_ + (mkb (cont (sizedA enc st.ats) (rowIx (sizedA enc st.ats) at_ false)) j : Int))) /\ ClampOk (sizedA enc st.ats) at_ j /\ j <= nC (cont (sizedA enc st.ats) (rowIx (sizedA enc st.ats) at_ false)) /\ Below w.heap.size w w' := by
 have HT := Lib.hid (text_desk h)
 have HC := Lib.hid (clamp_gen Any g enc (sizedA enc st.ats) at_ w h.at_)
 clear h
 go_enter Tryz.func31, Tryz.ntmps31
 go_wp2_with fail
 refine (HT.out).mono ?_
 rintro e w1 ⟨rfl, rfl⟩
 go_wp2_with fail
 refine (HC.out).mono ?_
 rintro e w1 ⟨j, rfl, h1, h2, hb⟩
 go_wp2_with fail
 go_ret
 exact ⟨j, rfl, h1, h2, hb⟩
theorem clampV_bd {ds : List (Int × Int)} (hp : PosD ds) {at_ : Int} {j : Nat} (hj : j <= nC (cont ds (rowIx ds at_ false))) : 0 <= (lineF ds (rowIx ds at_ false)).from_ + (mkb (cont ds (rowIx ds at_ false)) j : Int) /\ (lineF ds (rowIx ds at_ false)).from_ + (mkb (cont ds (rowIx ds at_ false)) j : Int) <= (ds.length : Int) := by
 have hix := rowIx_le ds at_ false
 have hbd := lineF_bd hp hix
 have hcl := cont_len hp hix
 have := mk_le hj
 omega
theorem line_desk (h : DeskIs w B gd gb g enc lim n st dc) (i : Nat) (hi : i <= totE (sizedA enc st.ats)) :
  Calls Tryz.prog 39 #[.pointer (some ⟨gd, 0, none⟩), .int .i64 (i : Int)] w fun e w' => e = .returned (.agg (lineF (sizedA enc st.ats) i).cells) /\ Below w.heap.size w w' := by
 have hW : Below w.heap.size w (w.alloc (.cells (Ln.mk 0 0 0 0).cells 59)) := balloc (Below.refl _ w)
 have hb0 : Blk (w.alloc (.cells (Ln.mk 0 0 0 0).cells 59)) w.heap.size 59 (Ln.mk 0 0 0 0).cells := Blk.new w _ _
 have HT := Lib.hid (text_desk (h.below hW))
 have HC := Lib.hid (at_line Any g enc (sizedA enc st.ats) i _ (h.below hW).at_ hi)
 obtain ⟨L, hL⟩ : ∃ L, lineF (sizedA enc st.ats) i = L := ⟨_, rfl⟩
 rw [hL] at HC ⊢
 obtain ⟨x0, x1, x2, x3⟩ := L
 unfold Ln.cells at HT HC hW hb0 ⊢
 dsimp only at HT HC hW hb0 ⊢
 clear h hL
 go_enter Tryz.func39, Tryz.ntmps39
 go_wp2_with fail
 refine (HT.out).mono ?_
 rintro e w1 ⟨rfl, rfl⟩
 go_wp2_with fail
 refine (HC.out).mono ?_
 rintro e w1 ⟨rfl, hb1⟩
 have hb01 := hb0.below hb1
 go_wp2_with fail
 refine (must_ok _).mono ?_
 rintro e w2 ⟨rfl, rfl⟩
 have hb02 := line_facts (l := ⟨0, 0, 0, 0⟩) (hb01.alloc (.cells #[.int .i64 x0, .int .i64 x1, .int .i64 x2, .int .i64 x3] 59))
 dsimp only at hb02
 obtain ⟨⟨d0, d1, d2, d3⟩, f0, f1, f2, f3⟩ := hb02
 have hw2 : Below w.heap.size w (w1.alloc (.cells #[.int .i64 x0, .int .i64 x1, .int .i64 x2, .int .i64 x3] 59)) := balloc (bseq hW hb1)
 obtain ⟨w2, hw20⟩ : ∃ x, w1.alloc (.cells #[.int .i64 x0, .int .i64 x1, .int .i64 x2, .int .i64 x3] 59) = x := ⟨_, rfl⟩
 have hbn : Blk w2 w1.heap.size 59 (Ln.mk x0 x1 x2 x3).cells := hw20 ▸ Blk.new w1 _ _
 rw [hw20] at d0 d1 d2 d3 f0 f1 f2 f3 hw2 ⊢
 have hbn2 := line_facts hbn
 dsimp only at hbn2
 obtain ⟨⟨g0, g1, g2, g3⟩, -⟩ := hbn2
 have HW2 := Lib.hid (fun (u1 u2 u3 u4 : Value) => below_set4 (u1 := u1) (u2 := u2) (u3 := u3) (u4 := u4) hw2 (Nat.le_refl _))
 clear hw20 hbn hb01 hb1 hb0 hW HC HT hw2
 go_wp2_with fail
 refine bodyPost_ret (v := .agg #[.int .i64 x0, .int .i64 x1, .int .i64 x2, .int .i64 x3]) (by simp [results, Tryz.results39, go_sem, d0, d1, d2, d3]) rfl ⟨rfl, HW2.out _ _ _ _⟩
theorem change_desk (h : DeskIs w B gd gb g enc lim n st dc) {o : OpS} (hn : st.now = some o) {D : Nat -> Prop} {A : Option Addr} {k c : Nat} {es : List Ed} (he : EdsAt w D A k es) (hD : ∀ b, D b -> b < w.heap.size -> ∃ T cs, Blk w b T cs /\ Alien T)
  (hp : putN es <= 268435456) (hnn : n + 131072 <= 1073741824) (hom : o.moves.length < 1048576) (hz : refF enc lim (sizedA enc st.ats) es = 0) :
  Calls Tryz.prog 99 #[.pointer (some ⟨gb, 0, none⟩), .slice A k c] w fun e w' => e = .returned (.int .i64 0) /\ DeskIs w' B gd gb g enc lim (n + 131072) { st with ats := edA es st.ats, now := some { o with moves := o.moves ++ [es.map mvOf], changed := o.changed || es.any chg } } dc /\ BkFr B w w' := by
 obtain ⟨N, add, t, a, xs, m, vu, vr, now, n', hn', hk⟩ := h.book
 have he' : EdsAt w (fun b => D b /\ b < w.heap.size) A k es := he.more (fun b h1 h2 => ⟨h1, h2⟩)
 refine (bchange_any N B gb g enc lim n' add st t a xs m vu vr now o (fun b => D b /\ b < w.heap.size) A k c es w hk hn he' (fun b hb => ?_) hp (by omega) hom).mono ?_
 ·obtain ⟨T, cs, hT, hA⟩ := hD b hb.1 hb.2
  refine ⟨Blk.ne_ hT hk.text.blk hA.1.1, fun e0 => own_blk_ne hk.text.row hT (Ne.symm hA.1.2.2) e0, fun e0 => ?_⟩
  have ho := hk.open_
  rw [hn] at ho
  obtain ⟨p, e1, s, m2, vm, vs, h1, _⟩ := ho
  rw [e1] at e0
  injection e0 with e0
  injection e0 with e0
  exact Blk.ne_ hT h1 hA.2.2.2.1 e0.symm
 ·rintro e w' ⟨rfl, -, hpost⟩
  rw [hz] at hpost ⊢
  obtain ⟨n2, add', t', a', xs', hk', hn2, hf⟩ := hpost rfl
  exact ⟨rfl, h.bk hf ⟨N, add', t', a', xs', m, vu, vr, now, n2, by omega, hk'⟩, hf⟩
theorem dchange_desk (h : DeskIs w B gd gb g enc lim n st dc) {o : OpS} (hn : st.now = some o) {D : Nat -> Prop} {A : Option Addr} {k c : Nat} {es : List Ed} (he : EdsAt w D A k es) (hD : ∀ b, D b -> b < w.heap.size -> ∃ T cs, Blk w b T cs /\ Alien T)
  (hp : putN es <= 268435456) (hnn : n + 131072 <= 1073741824) (hom : o.moves.length < 1048576) (hz : refF enc lim (sizedA enc st.ats) es = 0) :
  Calls Tryz.prog 43 #[.pointer (some ⟨gd, 0, none⟩), .slice A k c] w fun e w' => e = .returned (.tuple #[]) /\ DeskIs w' B gd gb g enc lim (n + 131072) { st with ats := edA es st.ats, now := some { o with moves := o.moves ++ [es.map mvOf], changed := o.changed || es.any chg } } dc /\ BkFr B w w' := by
 have HC := Lib.hid (change_desk (c := c) h hn he hD hp hnn hom hz)
 have cd := (h.desk.cell 0).trans h.c0
 clear h he hD hz
 go_enter Tryz.func43, Tryz.ntmps43
 go_wp2_with fail
 refine (HC.out).mono ?_
 rintro e w1 ⟨rfl, hd, hf⟩
 have HD := Lib.hid hd
 clear hd
 go_wp2_with fail
 refine (must_ok _).mono ?_
 rintro e w2 ⟨rfl, rfl⟩
 go_wp2_with fail
 show bodyPost _ _ _ _ _ _
 refine bodyPost_end (results_none rfl _ _ _) rfl ?_
 exact ⟨rfl, HD.out, hf⟩
end
theorem kind_big (D : Nat -> Prop) (L : Ln) (i : Int) (C : List Int) (v : Array Value) (k p : Nat) (w : World) (h : RowC w D L i C v) (hk : k < (allB C).length) (hp : (allB C).getD k 0 = (p : Int)) (hp2 : p < C.length) :
  Calls Tryz.prog 190 #[.agg v, .int .i64 (k : Int), .bool true] w fun e w' => e = .returned (.int .i64 (min (kindF C k) 1)) /\ Below w.heap.size w w' := by
 have hW : Below w.heap.size w (w.alloc (.cells v 137)) := balloc (Below.refl _ w)
 have hf := first_any D L i C v k p _ (h.below hW) hk hp hp2
 have hkf : kindF C k = wordF (C.getD p 0) := by unfold kindF; rw [hp]; rfl
 rw [hkf]
 obtain ⟨y, hy⟩ : ∃ y, C.getD p 0 = y := ⟨_, rfl⟩
 rw [hy] at hf ⊢
 obtain ⟨A1, n1, c1, A2, n2, c2, rfl⟩ := first_v h
 have hb0 := Blk.new w 137 (rowV L i A1 n1 c1 A2 n2 c2)
 obtain ⟨x0, x1, x2, x3⟩ := L
 obtain ⟨u, hu⟩ : ∃ u, wordF y = u := ⟨_, rfl⟩
 have hwd := fun w' => word_any y w'
 rw [hu] at hwd ⊢
 have HWD := Lib.hid hwd
 have HB0 := Lib.hid hb0
 have HF := Lib.hid hf
 clear hy hp hkf hf hb0 h hu hwd
 unfold rowV at hW ⊢
 dsimp only at hW ⊢
 go_enter Tryz.func190, Tryz.ntmps190
 go_wp2_with fail
 refine (HF.out).mono ?_
 rintro e w1 ⟨rfl, hb1⟩
 go_wp2_with fail
 refine (HWD.out _).mono ?_
 rintro e w2 ⟨rfl, hb2⟩
 go_wp2_with fail
 all_goals
  go_ret
  exact ⟨ret_i (by omega), bseq (bseq hW hb1) hb2⟩
def SignOk (C : List Int) (j : Nat) : Prop := (∀ i, i < j -> min (kd C i) 1 = 0) /\ j <= nC C - 1 /\ (j < nC C - 1 -> min (kd C j) 1 ≠ 0)
def SignR (C : List Int) (w1 : World) (k : Nat) (q6 : Value) (wr : World) : Prop :=
 ∃ i : Nat, q6 = .int .i64 (i : Int) /\ i <= nC C /\ nC C - i <= k /\ Hid (∀ j, j < i -> min (kd C j) 1 = 0) /\ Below w1.heap.size w1 wr
theorem rsign_any (D : Nat -> Prop) (L : Ln) (i : Int) (C : List Int) (v : Array Value) (w : World) (h : RowC w D L i C v) (hC : C.length <= 1073741824) :
  Calls Tryz.prog 184 #[.agg v] w fun e w' => ∃ j : Nat, e = .returned (.int .i64 (j : Int)) /\ SignOk C j /\ Below w.heap.size w w' := by
 have hnn := nC_le C
 obtain ⟨A1, n1, c1, A2, n2, c2, rfl⟩ := first_v h
 have hb0 := Blk.new w 137 (rowV L i A1 n1 c1 A2 n2 c2)
 have hW : Below w.heap.size w (w.alloc (.cells (rowV L i A1 n1 c1 A2 n2 c2) 137)) := balloc (Below.refl _ w)
 have hcl := fun (w' : World) (hb : Below w.heap.size w w') => clusters_mk D L i C _ w' (h.below hb) hC
 have hki := fun (w' : World) (hb : Below w.heap.size w w') (k : Nat) (hk : k < nC C) => kind_big D L i C _ k (mkb C k) w' (h.below hb) (by rw [allB_len]; omega) (allB_at (by omega)) (mk_step hk).1
 have hkd : ∀ k, k < nC C -> kindF C k = kd C k := fun k hk => by unfold kindF kd; rw [allB_at (by omega)]; rfl
 obtain ⟨N, hN⟩ : ∃ N, nC C = N := ⟨_, rfl⟩
 obtain ⟨x0, x1, x2, x3⟩ := L
 have hrow : ∀ w', Below (w.heap.size + 1) (w.alloc (.cells (rowV ⟨x0, x1, x2, x3⟩ i A1 n1 c1 A2 n2 c2) 137)) w' -> Blk w' w.heap.size 137 (rowV ⟨x0, x1, x2, x3⟩ i A1 n1 c1 A2 n2 c2) := fun w' hb => hb0.below (by rw [World.size_alloc]; exact hb)
 have HCL := Lib.hid hcl
 have HKI := Lib.hid hki
 have HKD := Lib.hid hkd
 have HN := Lib.hid hN
 have hB0 := Lib.hid hb0
 rw [hN] at HCL hnn
 clear hcl hki hkd hN h hrow
 unfold rowV at hW hB0 HCL HKI ⊢
 have hbx : ∀ w', Below (w.alloc (.cells #[.int .i64 x0, .int .i64 x1, .int .i64 x2, .int .i64 x3, .int .i64 i, .slice A1 n1 c1, .slice A2 n2 c2] 137)).heap.size (w.alloc (.cells #[.int .i64 x0, .int .i64 x1, .int .i64 x2, .int .i64 x3, .int .i64 i, .slice A1 n1 c1, .slice A2 n2 c2] 137)) w' -> (w'.cell? ⟨w.heap.size, 0, none⟩ = some (.int .i64 x0) /\ w'.cell? ⟨w.heap.size, 1, none⟩ = some (.int .i64 x1) /\ w'.cell? ⟨w.heap.size, 2, none⟩ = some (.int .i64 x2) /\ w'.cell? ⟨w.heap.size, 3, none⟩ = some (.int .i64 x3)) /\ w'.cell? ⟨w.heap.size, 4, none⟩ = some (.int .i64 i) /\ w'.cell? ⟨w.heap.size, 5, none⟩ = some (.slice A1 n1 c1) /\ w'.cell? ⟨w.heap.size, 6, none⟩ = some (.slice A2 n2 c2) :=
  fun w' hb => ⟨⟨(hB0.out.below hb).cell 0, (hB0.out.below hb).cell 1, (hB0.out.below hb).cell 2, (hB0.out.below hb).cell 3⟩, (hB0.out.below hb).cell 4, (hB0.out.below hb).cell 5, (hB0.out.below hb).cell 6⟩
 have HBX := Lib.hid hbx
 obtain ⟨⟨d0, d1, d2, d3⟩, d4, d5, d6⟩ := hbx _ (Below.refl _ _)
 clear hbx hb0
 dsimp only at hW HCL HKI ⊢
 go_enter Tryz.func184, Tryz.ntmps184
 go_upto_region 1 with fail
 obtain ⟨w0, hw0⟩ : ∃ x, w.alloc (.cells #[.int .i64 x0, .int .i64 x1, .int .i64 x2, .int .i64 x3, .int .i64 i, .slice A1 n1 c1, .slice A2 n2 c2] 137) = x := ⟨_, rfl⟩
 rw [hw0] at HBX hW d0 d1 d2 d3 d4 d5 d6 ⊢
 clear hw0 hB0
 go_wp2_with fail
 refine (HCL.out _ hW).mono ?_
 rintro e w1 ⟨rfl, hb1⟩
 have hW1 := bseq hW hb1
 clear d0 d1 d2 d3 d4 d5 d6
 go_wp2_with fail
 go_loopg [6] N (fun k q6 wr => SignR C w1 k q6 wr)
 case atStart => exact ⟨0, rfl, Nat.zero_le _, by rw [HN.out]; omega, Lib.hid (fun j hj => by omega), Below.refl _ _⟩
 case round =>
  obtain ⟨i', rfl, hi, hk, hok, hb⟩ := hrel
  rw [HN.out] at hi hk
  obtain ⟨⟨d0, d1, d2, d3⟩, d4, d5, d6⟩ := HBX.out _ (bseq hb1 hb)
  by_cases hgo : i' < N
  ·have q1 : ((i' : Int) < (N : Int)) = True := by simp; omega
   have hk1 := HKI.out _ (bseq hW1 hb) i' (by rw [HN.out]; exact hgo)
   rw [HKD.out i' (by rw [HN.out]; exact hgo)] at hk1
   obtain ⟨u, hu⟩ : ∃ u, min (kd C i') 1 = u := ⟨_, rfl⟩
   rw [hu] at hk1
   have HU := Lib.hid hu
   have HK1 := Lib.hid hk1
   clear hu hk1
   by_cases hv0 : u = 0
   ·subst hv0
    go_wp2_with fail
    refine (HK1.out).mono ?_
    rintro e w2 ⟨rfl, hb2⟩
    go_wp2_with fail
    go_roundg (N - (i' + 1))
    case measure => omega
    case rel =>
     refine ⟨i' + 1, by simp, by rw [HN.out]; omega, by rw [HN.out]; omega, Lib.hid (fun j hj => ?_), bseq hb hb2⟩
     rcases Nat.lt_or_ge j i' with h1 | h1
     ·exact hok.out j h1
     ·have : j = i' := by omega
      rw [this]
      exact HU.out
   ·have q2 : (u != 0) = true := by rw [bne_iff_ne]; exact hv0
    go_wp2_with fail
    refine (HK1.out).mono ?_
    rintro e w2 ⟨rfl, hb2⟩
    go_wp2_with fail
    go_ret
    exact ⟨i', rfl, ⟨hok.out, by rw [HN.out]; omega, fun _ => by rw [HU.out]; exact hv0⟩, bseq hW1 (bseq hb hb2)⟩
  ·have q1 : ((i' : Int) < (N : Int)) = False := by simp; omega
   have wn : IntKind.i64.wrap ((N : Int) - 1) = (N : Int) - 1 := IntWalk.i64_in _ (by omega)
   go_wp2_with fail
   refine (HCL.out _ (bseq hW1 hb)).mono ?_
   rintro e w2 ⟨rfl, hb2⟩
   go_wp2_with fail
   all_goals
    go_ret
    refine ⟨N - 1, ret_i (by omega), ⟨fun j hj => hok.out j (by omega), by rw [HN.out]; omega, fun h => by rw [HN.out] at h; omega⟩, bseq hW1 (bseq hb hb2)⟩
def SignAt (ds : List (Int × Int)) (i : Nat) (T : Int) : Prop := ∃ j : Nat, SignOk (cont ds i) j /\ T = (lineF ds i).from_ + (mkb (cont ds i) j : Int)
theorem SignAt.bd {ds : List (Int × Int)} {i : Nat} {T : Int} (hp : PosD ds) (hi : i <= totE ds) (h : SignAt ds i T) : 0 <= T /\ T <= (ds.length : Int) := by
 obtain ⟨j, hj, rfl⟩ := h
 have hbd := lineF_bd hp hi
 have hcl := cont_len hp hi
 have := mk_le (C := cont ds i) (k := j) (by have := hj.2.1; omega)
 omega
def SignPost (ds : List (Int × Int)) (i : Nat) (w : World) (e : Ending) (w' : World) : Prop := ∃ T : Int, SignAt ds i T /\ LandPost 2 T w e w'
theorem cell_far1 {w : World} {q p : Addr} {u v : Value} (h : q.block ≠ p.block) (hc : w.cell? q = some u) : (w.setCell p v).cell? q = some u := (World.cell?_of_block (w := w) (Below.heap_setCell w p v q.block h)).trans hc
def TsCut (L : Ln) (i : Int) (C : List Int) (w : World) (s : Value) (wx : World) : Prop :=
 ∃ b A1 n1 c1 A2 n2 c2, s = .pointer (some ⟨b, 0, none⟩) /\ Hid (Blk wx b 137 (rowV L i A1 n1 c1 A2 n2 c2)) /\ Hid (RowC wx Any L i C (rowV L i A1 n1 c1 A2 n2 c2)) /\ Hid (Below w.heap.size w wx)
theorem ts_one {w w4 : World} {L : Ln} {i : Int} {C : List Int} {D : Nat -> Prop} {A1 A2 : Option Addr} {n1 c1 n2 c2 : Nat} (h : RowC w4 D L i C (rowV L i A1 n1 c1 A2 n2 c2)) (hb : Below w.heap.size w w4) :
  TsCut L i C w (.pointer (some ⟨w4.heap.size, 0, none⟩)) (w4.alloc (.cells (rowV L i A1 n1 c1 A2 n2 c2) 137)) :=
 ⟨_, A1, n1, c1, A2, n2, c2, rfl, Lib.hid (Blk.new w4 _ _), Lib.hid ((h.more (fun _ _ _ => trivial)).below (balloc (Below.refl _ _))), Lib.hid (balloc hb)⟩
theorem ts_two {w w4 : World} {L L0 : Ln} {i i0 : Int} {C : List Int} {b B : Nat} {A1 A2 B1 B2 : Option Addr} {n1 c1 n2 c2 m1 d1 m2 d2 : Nat} (hbz : Blk w4 b 137 (rowV L0 i0 B1 m1 d1 B2 m2 d2)) (hB : b < B) (hw : w.heap.size <= b) (h : RowC w4 (fun k => B <= k) L i C (rowV L i A1 n1 c1 A2 n2 c2)) (hb : Below w.heap.size w w4) :
  TsCut L i C w (.pointer (some ⟨b, 0, none⟩)) (setR w4 b L.from_ L.to_ L.next L.brk i (.slice A1 n1 c1) (.slice A2 n2 c2)) := by
 have hfr := setR_fr w4 b L.from_ L.to_ L.next L.brk i (.slice A1 n1 c1) (.slice A2 n2 c2)
 refine ⟨b, A1, n1, c1, A2, n2, c2, rfl, Lib.hid (setR_own hbz), Lib.hid ((h.fr hfr (fun k hk _ e => ?_)).more (fun _ _ _ => trivial)), Lib.hid (bfr hb hfr (fun k hk => by omega))⟩
 omega
theorem toSign_any (D : Nat -> Prop) (m g : Nat) (enc : Int) (ds : List (Int × Int)) (s k : Int) (i : Nat) (w : World) (hm : MvAt w m g s k) (h : TextAt w D g enc ds) (hi : i < countF ds) :
    Calls Tryz.prog 174 #[.pointer (some ⟨m, 0, none⟩), .int .i64 (i : Int)] w (SignPost ds i w) := by
  have hp := h.pos
  have hlen := h.len
  have hct : countF ds <= totE ds + 1 := by unfold countF; split <;> omega
  have hte : totE ds <= 1073741824 := Nat.le_trans (cntE_le _ _) hlen
  have hit : i <= totE ds := by omega
  have hbd := lineF_bd hp hit
  have hcl := cont_len hp hit
  have hcn := fun (wy : World) (hy : Below w.heap.size w wy) => count_line D g enc ds wy (h.below hy)
  have hnr := fun (wy : World) (hy : Below w.heap.size w wy) => newRow_any D g enc ds i wy (h.below hy) hit
  have hat := fun (wy : World) (hy : Below w.heap.size w wy) (off kind : Int) => mat_any D m g enc ds s k off kind wy (hm.below hy) (h.below hy)
  have hml : m < w.heap.size := by
    obtain ⟨_, _, _, _, _, _, _, _, _, _, _, hbm⟩ := hm
    exact hbm.lt
  have hmc : ∀ wy, Below w.heap.size w wy -> wy.cell? ⟨m, 0, none⟩ = some (.pointer (some ⟨g, 0, none⟩)) := fun wy hy => (hm.below hy).facts.1.1
  unfold SignPost SignAt
  obtain ⟨M, hM⟩ : ∃ M, countF ds = M := ⟨_, rfl⟩
  obtain ⟨L, hL⟩ : ∃ L, lineF ds i = L := ⟨_, rfl⟩
  obtain ⟨C, hC⟩ : ∃ C, cont ds i = C := ⟨_, rfl⟩
  rw [hM] at hcn hi hct
  rw [hL] at hnr hbd hcl ⊢
  rw [hC] at hnr hcl ⊢
  obtain ⟨x0, x1, x2, x3⟩ := L
  dsimp only at hbd hcl ⊢
  have hl0 : 0 <= x0 /\ x0 <= 1073741824 := by omega
  have hc0 : C.length <= 1073741824 := by omega
  have hnr2 := fun (wy : World) (hy : Below w.heap.size w wy) => (hnr wy hy).mono (fun e w' hh => rowPost_flat hh)
  have HCN := Lib.hid hcn
  have HNR := Lib.hid hnr2
  have HAT := Lib.hid hat
  have HMC := Lib.hid hmc
  obtain ⟨K, hK⟩ : ∃ K, M - 1 = K := ⟨_, rfl⟩
  have wm : IntKind.i64.wrap ((M : Int) - 1) = (K : Int) := by rw [IntWalk.i64_in _ (by omega)]; omega
  have hiK : i <= K := by omega
  clear hcn hnr hnr2 hat hmc hm h hL hC hM hp hbd hcl hK hi hct
  have hw1 : Below w.heap.size w (w.alloc (.cells #[.int .i64 0, .int .i64 0, .int .i64 0] 152)) := balloc (Below.refl _ _)
  have hB := Blk.new w 152 #[.int .i64 0, .int .i64 0, .int .i64 0]
  go_enter Tryz.func174, Tryz.ntmps174
  go_upto_region 1 with fail
  obtain ⟨w1, hw10⟩ : ∃ x, w.alloc (.cells #[.int .i64 0, .int .i64 0, .int .i64 0] 152) = x := ⟨_, rfl⟩
  have hz1 : w.heap.size + 1 <= w1.heap.size := by rw [<- hw10, World.size_alloc]; exact Nat.le_refl _
  rw [hw10] at hw1 hB ⊢
  have HB := Lib.hid hB
  clear hB hw10
  have s0 : w1.drew.cell? ⟨m, 0, none⟩ = some (.pointer (some ⟨g, 0, none⟩)) := HMC.out _ (Below.drew hw1)
  go_cut [6] (fun s wx => TsCut ⟨x0, x1, x2, x3⟩ (i : Int) C w1 s wx)
  case first =>
    have p1 : ((K : Int) < (i : Int)) = False := by simp; omega
    have p3 : (K < i) = False := by simp; omega
    have p2 : ((i : Int) < 0) = False := by simp
    have sA : (w1.alloc (.cells #[.int .i64 0, .int .i64 0, .int .i64 0, .int .i64 0, .int .i64 0, .slice none 0 0, .slice none 0 0] 137)).drew.cell? ⟨m, 0, none⟩ = some (.pointer (some ⟨g, 0, none⟩)) := HMC.out _ (Below.drew (balloc hw1))
    go_region_held3 (fun w' => w'.cell? ⟨m, 0, none⟩ = some (.pointer (some ⟨g, 0, none⟩))) (first | (with_reducible assumption) | ((with_reducible refine cell_alloc1 _ ?_); with_reducible assumption) | ((repeat (with_reducible refine cell_far1 (by dsimp only; omega) ?_)); (first | (with_reducible assumption) | ((with_reducible refine cell_alloc1 _ ?_); with_reducible assumption)))) (first
      | (go_at_call 17; (with_reducible refine (HCN.out _ (Below.drew hw1)).mono ?_); rintro e w3 ⟨rfl, hb3⟩; have hx3 := bseq (Below.drew (Below.refl w1.heap.size w1)) hb3; have hz3 : w1.heap.size <= w3.heap.size := hx3.size; have s3 := cell_keep hb3 s0)
      | (go_at_call 17; (with_reducible refine (HCN.out _ (Below.drew (balloc hw1))).mono ?_); rintro e w3 ⟨rfl, hb3⟩; have hx3 := bseq (Below.drew (balloc (Below.refl w1.heap.size w1))) hb3; have s3 := cell_keep hb3 sA; have hz3 := (World.size_alloc w1 _) ▸ hb3.size; have hbz := (Blk.new w1 137 (rowV ⟨0, 0, 0, 0⟩ 0 none 0 0 none 0 0)).drew.below hb3)
      | (go_at_call 83; (with_reducible refine (HNR.out _ (bseq hw1 hx3)).mono ?_); rintro e w4 ⟨A1, n1, c1, A2, n2, c2, rfl, hrow, hb4⟩; have hx4 := bseq hx3 hb4; have s4 := cell_keep hb4 s3; have hbz4 := hbz.below hb4; obtain ⟨⟨g0, g1, g2, g3, g4, g5, g6⟩, u0, u1, u2, u3, u4, u5, u6⟩ := row_facts hbz4)
      | (go_at_call 83; (with_reducible refine (HNR.out _ (bseq hw1 hx3)).mono ?_); rintro e w4 ⟨A1, n1, c1, A2, n2, c2, rfl, hrow, hb4⟩; have hx4 := bseq hx3 hb4; have s4 := cell_keep hb4 s3)
      | (go_at_call 83; (with_reducible refine (HNR.out _ (balloc (bseq hw1 hx3))).mono ?_); rintro e w4 ⟨A1, n1, c1, A2, n2, c2, rfl, hrow, hb4⟩; have hx4 := bseq (balloc hx3) hb4; have s4 := cell_keep (bseq (balloc (Below.refl w3.heap.size w3)) hb4) s3; have hbz4 := (Blk.new w3 137 (rowV ⟨0, 0, 0, 0⟩ 0 none 0 0 none 0 0)).below hb4; obtain ⟨⟨g0, g1, g2, g3, g4, g5, g6⟩, u0, u1, u2, u3, u4, u5, u6⟩ := row_facts hbz4))
    · have hfin := ts_one hrow hx4
      unfold rowV at hfin
      dsimp only at hfin
      go_wp2_with fail
      go_meet
      with_reducible exact hfin
    · have hfin := ts_two hbz4 (by simp) hz3 hrow hx4
      unfold setR at hfin
      dsimp only at hfin
      go_wp2_with fail
      go_meet
      with_reducible exact hfin
    · have hfin := ts_two hbz4 (by simp) hz3 hrow hx4
      unfold setR at hfin
      dsimp only at hfin
      go_wp2_with fail
      go_meet
      with_reducible exact hfin
    · have hfin := ts_two hbz4 (by simp) hz3 hrow hx4
      unfold setR at hfin
      dsimp only at hfin
      go_wp2_with fail
      go_meet
      with_reducible exact hfin
    · have hfin := ts_two hbz4 hz3 (Nat.le_refl _) hrow hx4
      unfold setR at hfin
      dsimp only at hfin
      go_wp2_with fail
      go_meet
      with_reducible exact hfin
  case rest =>
    obtain ⟨b, A1, n1, c1, A2, n2, c2, rfl, hbk, hrow, hwc⟩ := hcut
    have hBc := HB.out.below hwc.out
    have hwcw := bseq hw1 hwc.out
    have hzc : w.heap.size <= wc.heap.size := hwcw.size
    have hS : ∀ w', Below wc.heap.size wc w' -> (w'.cell? ⟨b, 0, none⟩ = some (.int .i64 x0) /\ w'.cell? ⟨b, 1, none⟩ = some (.int .i64 x1) /\ w'.cell? ⟨b, 2, none⟩ = some (.int .i64 x2) /\ w'.cell? ⟨b, 3, none⟩ = some (.int .i64 x3) /\ w'.cell? ⟨b, 4, none⟩ = some (.int .i64 (i : Int)) /\
        w'.cell? ⟨b, 5, none⟩ = some (.slice A1 n1 c1) /\ w'.cell? ⟨b, 6, none⟩ = some (.slice A2 n2 c2)) := fun w' hb => (row_facts (hbk.out.below hb)).1
    have hsg := fun (w' : World) (hb : Below wc.heap.size wc w') => rsign_any Any ⟨x0, x1, x2, x3⟩ (i : Int) C _ w' (hrow.out.below hb) hc0
    have hpl := fun (w' : World) (hb : Below wc.heap.size wc w') (k : Nat) (hk : k <= nC C) => place_mk Any ⟨x0, x1, x2, x3⟩ (i : Int) C _ k w' (hrow.out.below hb) hl0 hc0 hk
    unfold rowV at hsg hpl
    dsimp only at hsg hpl
    have HS := Lib.hid hS
    have HSG := Lib.hid hsg
    have HPL := Lib.hid hpl
    have HBC := Lib.hid hBc
    clear hS hsg hpl hBc hbk hrow s0 HB HNR HCN
    go_upto_region 2 with fail
    refine wp_region_lin (fun w' => Below wc.heap.size wc w') (fun w' => Below wc.heap.size wc w') (fun k => k == 3 || k == 4 || k == 5 || k == 8) (fun k => k == 8) (fun k => k == 9) (by kernel_rfl) (by kernel_rfl) (Below.drew (Below.refl _ _)) (fun _ h => h) ?_
    repeat ((first
      | (refine wpL_read (v := ?_) (by rfl) (by rfl) (fun w6 hSw => ?_) ?_; rotate_left; (· (obtain ⟨y0, y1, y2, y3, y4, y5, y6⟩ := HS.out _ hSw; go_simp; try with_reducible rfl)))
      | (refine wpL_free (v := ?_) (by rfl) (fun w6 => ?_) ?_; rotate_left; (· (go_simp; try with_reducible rfl)))
      | refine wpL_not (by rfl) ?_); (try simp only [Act.put, pA, pB, pC]))
    refine wpL_call (f := ?_) (args := ?_) (fun v w' => (∃ j : Nat, v = .int .i64 (j : Int) /\ SignOk C j) /\ Below wc.heap.size wc w') (by rfl) (by rfl) (fun w6 hSw => ?_) (fun w6 hSw => ?_) (.inr (fun v6 w6 hT6 => ?_)) (fun v6 hv6 => ?_)
    rotate_left 2
    · (skip; go_simp; first | done | (constructor <;> with_reducible rfl) | with_reducible rfl)
    · (refine (HSG.out _ hSw).mono ?_; rintro e w' ⟨j, rfl, hj, hb⟩; exact ⟨_, rfl, ⟨j, rfl, hj⟩, bseq hSw hb⟩)
    · (exact hT6.2)
    obtain ⟨wz, ⟨j, rfl, hj⟩, -⟩ := hv6
    (try simp only [Act.put, pA, pB, pC])
    repeat ((first
      | (refine wpL_read (v := ?_) (by rfl) (by rfl) (fun w6 hSw => ?_) ?_; rotate_left; (· (obtain ⟨y0, y1, y2, y3, y4, y5, y6⟩ := HS.out _ hSw; go_simp; try with_reducible rfl)))
      | (refine wpL_free (v := ?_) (by rfl) (fun w6 => ?_) ?_; rotate_left; (· (go_simp; try with_reducible rfl)))
      | refine wpL_not (by rfl) ?_); (try simp only [Act.put, pA, pB, pC]))
    refine wpL_call (f := ?_) (args := ?_) (fun v w' => v = .int .i64 (x0 + (mkb C j : Int)) /\ Below wc.heap.size wc w') (by rfl) (by rfl) (fun w6 hSw => ?_) (fun w6 hSw => ?_) (.inr (fun v6 w6 hT6 => ?_)) (fun v6 hv6 => ?_)
    rotate_left 2
    · (skip; go_simp; first | done | (constructor <;> with_reducible rfl) | with_reducible rfl)
    · (refine (HPL.out _ hSw.2 j (by have := hj.2.1; omega)).mono ?_; rintro e w' ⟨rfl, hb⟩; exact ⟨_, rfl, rfl, bseq hSw.2 hb⟩)
    · (exact hT6.2)
    obtain ⟨wz, rfl, -⟩ := hv6
    (try simp only [Act.put, pA, pB, pC])
    repeat ((first
      | (refine wpL_read (v := ?_) (by rfl) (by rfl) (fun w6 hSw => ?_) ?_; rotate_left; (· (obtain ⟨y0, y1, y2, y3, y4, y5, y6⟩ := HS.out _ hSw; go_simp; try with_reducible rfl)))
      | (refine wpL_free (v := ?_) (by rfl) (fun w6 => ?_) ?_; rotate_left; (· (go_simp; try with_reducible rfl)))
      | refine wpL_not (by rfl) ?_); (try simp only [Act.put, pA, pB, pC]))
    refine wpL_call (f := ?_) (args := ?_) (fun v w' => (∃ jj : Nat, v = .tuple #[.agg #[.int .i64 (x0 + (mkb C j : Int)), .int .i64 2, .int .i64 (jj : Int)], .int .i64 0]) /\ Below wc.heap.size wc w') (by rfl) (by rfl) (fun w6 hSw => ?_) (fun w6 hSw => ?_) (.inr (fun v6 w6 hT6 => ?_)) (fun v6 hv6 => ?_)
    rotate_left 2
    · (skip; go_simp; first | done | (constructor <;> with_reducible rfl) | with_reducible rfl)
    · (refine (HAT.out _ (bseq hwcw hSw.2) _ _).mono ?_; rintro e w' ⟨⟨jj, rfl⟩, hb⟩; exact ⟨_, rfl, ⟨jj, rfl⟩, bseq hSw.2 hb⟩)
    · (exact hT6.2)
    obtain ⟨wz, ⟨jj, rfl⟩, -⟩ := hv6
    (try simp only [Act.put, pA, pB, pC])
    iterate 2 ((first
      | (refine wpL_read (v := ?_) (by rfl) (by rfl) (fun w6 hSw => ?_) ?_; rotate_left; (· (obtain ⟨y0, y1, y2, y3, y4, y5, y6⟩ := HS.out _ hSw; go_simp; try with_reducible rfl)))
      | (refine wpL_free (v := ?_) (by rfl) (fun w6 => ?_) ?_; rotate_left; (· (go_simp; try with_reducible rfl)))
      | refine wpL_not (by rfl) ?_); (try simp only [Act.put, pA, pB, pC]))
    refine wpL_heavy (fun _ w' => ∃ wx, Below wc.heap.size wc wx /\ w' = ((wx.setCell ⟨w.heap.size, 0, none⟩ (.int .i64 (x0 + (mkb C j : Int)))).setCell ⟨w.heap.size, 1, none⟩ (.int .i64 2)).setCell ⟨w.heap.size, 2, none⟩ (.int .i64 (jj : Int))) (by rfl) (by rfl) (fun w6 hSw => ?_) (.inl (by rfl)) (fun v6 hv6 => ?_)
    · (obtain ⟨l0, l1, l2, l3, l4, l5⟩ := land_facts (HBC.out.below hSw.2); go_simp; exact ⟨_, hSw.2, rfl⟩)
    skip
    (try simp only [Act.put, pA, pB, pC])
    repeat ((first
      | (refine wpL_read (v := ?_) (by rfl) (by rfl) (fun w6 hSw => ?_) ?_; rotate_left; (· (obtain ⟨y0, y1, y2, y3, y4, y5, y6⟩ := HS.out _ hSw; go_simp; try with_reducible rfl)))
      | (refine wpL_free (v := ?_) (by rfl) (fun w6 => ?_) ?_; rotate_left; (· (go_simp; try with_reducible rfl)))
      | refine wpL_not (by rfl) ?_); (try simp only [Act.put, pA, pB, pC]))
    refine wpL_nil ?_
    rintro w9 ⟨wx, hbx, rfl⟩
    go_wp2_with fail
    obtain ⟨e0, e1, e2⟩ := land_ret (x := x0 + (mkb C j : Int)) (y := 2) (z := (jj : Int)) (HBC.out.below hbx)
    exact bodyPost_ret (v := .tuple #[.agg #[.int .i64 (x0 + (mkb C j : Int)), .int .i64 2, .int .i64 (jj : Int)], .int .i64 0]) (by simp [results, Tryz.results174, go_sem, e0, e1, e2]) rfl ⟨_, ⟨j, hj, rfl⟩, ⟨jj, rfl⟩, below_set3 (bseq hwcw hbx) (Nat.le_refl _)⟩
def typeE (at_ : Int) (xs : List Int) (A : Option Addr) (c : Nat) : Ed := ⟨at_, at_, A, xs.length, c, xs⟩
end Go.Proofs.YtgiihhikdoikgaaGreat
