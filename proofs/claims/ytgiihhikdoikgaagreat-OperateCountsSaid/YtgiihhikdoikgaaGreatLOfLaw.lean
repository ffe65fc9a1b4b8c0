/-
  The line of an offset begins at it or ahead of it. (Plain.)
-/
import Derived.Test.YtgiihhikdoikgaaGreatLHeavy
import Derived.Test.YtgiihhikdoikgaaGreatLOpenLaw
import Derived.Test.YtgiihhikdoikgaaGreatLEnds
import Derived.Test.YtgiihhikdoikgaaGreatLRow
set_option linter.unusedSimpArgs false
set_option linter.unusedVariables false
set_option maxRecDepth 100000
set_option maxHeartbeats 32000000
namespace Go.Proofs.YtgiihhikdoikgaaGreat
open Go.RowKit
def rowIx (ds : List (Int × Int)) (at_ : Int) (past : Bool) : Nat := if past = true then ofF ds at_ else min (ofF ds at_) (countF ds - 1)
theorem countF_pos {ds : List (Int × Int)} : 1 <= countF ds /\ countF ds <= totE ds + 1 := by
 unfold countF
 split
 ·rename_i h
  unfold endB at h
  simp only [decide_eq_true_eq] at h
  have : totE ds ≠ 0 := by
   intro e
   rw [e, sk_zero] at h
   omega
  omega
 ·omega
theorem ofF_le (ds : List (Int × Int)) (at_ : Int) : ofF ds at_ <= totE ds := by
 unfold ofF totE
 exact cntE_mono _ (Nat.min_le_right _ _)
theorem rowIx_le (ds : List (Int × Int)) (at_ : Int) (past : Bool) : rowIx ds at_ past <= totE ds := by
 have h1 := ofF_le ds at_
 unfold rowIx
 split <;> omega
theorem row_fin2 {w w4 : World} {B : Nat} {v : Array Value} {i : Int} {L : Ln} {C : List Int} (hB : w.heap.size < B) (hr : RowC w4 (fun k => B <= k) L i C v) (hw : Below w.heap.size w w4) :
  ∃ A1 n1 c1 A2 n2 c2, v = rowV L i A1 n1 c1 A2 n2 c2 /\ RowPost L i C w (.returned (.agg (rowV L i A1 n1 c1 A2 n2 c2))) (setR w4 w.heap.size L.from_ L.to_ L.next L.brk i (.slice A1 n1 c1) (.slice A2 n2 c2)) := by
 obtain ⟨A1, n1, c1, A2, n2, c2, rfl, h1, h2, h3, h4⟩ := hr
 have hfr := setR_fr w4 w.heap.size L.from_ L.to_ L.next L.brk i (.slice A1 n1 c1) (.slice A2 n2 c2)
 refine ⟨A1, n1, c1, A2, n2, c2, rfl, _, rfl, ⟨A1, n1, c1, A2, n2, c2, rfl, ?_, h2, ?_, h4⟩, bfr hw hfr (fun k hk => by rw [hk]; exact Nat.le_refl _)⟩
 ·exact Reads.more (Reads.fr h1 hfr (fun k hk _ e => by omega)) (fun k hk _ => by omega) (by decide)
 ·exact Reads.more (Reads.fr h3 hfr (fun k hk _ e => by omega)) (fun k hk _ => by omega) (by decide)
theorem row_facts0 {w : World} {b : Nat} (h : Blk w b 137 #[.int .i64 0, .int .i64 0, .int .i64 0, .int .i64 0, .int .i64 0, .slice none 0 0, .slice none 0 0]) :
  (w.cell? ⟨b, 0, none⟩ = some (.int .i64 0) /\ w.cell? ⟨b, 1, none⟩ = some (.int .i64 0) /\ w.cell? ⟨b, 2, none⟩ = some (.int .i64 0) /\ w.cell? ⟨b, 3, none⟩ = some (.int .i64 0) /\ w.cell? ⟨b, 4, none⟩ = some (.int .i64 0) /\
   w.cell? ⟨b, 5, none⟩ = some (.slice none 0 0) /\ w.cell? ⟨b, 6, none⟩ = some (.slice none 0 0)) /\
  w.frozen? ⟨b, 0, none⟩ = false /\ w.frozen? ⟨b, 1, none⟩ = false /\ w.frozen? ⟨b, 2, none⟩ = false /\ w.frozen? ⟨b, 3, none⟩ = false /\ w.frozen? ⟨b, 4, none⟩ = false /\ w.frozen? ⟨b, 5, none⟩ = false /\ w.frozen? ⟨b, 6, none⟩ = false :=
 row_facts (L := ⟨0, 0, 0, 0⟩) (i := 0) (A1 := none) (n1 := 0) (c1 := 0) (A2 := none) (n2 := 0) (c2 := 0) h
theorem rowAt_any (D : Nat -> Prop) (g : Nat) (enc : Int) (ds : List (Int × Int)) (at_ : Int) (past : Bool) (w : World) (h : TextAt w D g enc ds) :
  Calls Tryz.prog 86 #[.pointer (some ⟨g, 0, none⟩), .int .i64 at_, .bool past] w fun e w' => RowPost (lineF ds (rowIx ds at_ past)) (rowIx ds at_ past) (cont ds (rowIx ds at_ past)) w e w' := by
 have hW : Below w.heap.size w (w.alloc (.cells (rowV ⟨0, 0, 0, 0⟩ 0 none 0 0 none 0 0) 137)) := balloc (Below.refl _ w)
 have hR : Blk (w.alloc (.cells (rowV ⟨0, 0, 0, 0⟩ 0 none 0 0 none 0 0) 137)) w.heap.size 137 (rowV ⟨0, 0, 0, 0⟩ 0 none 0 0 none 0 0) := Blk.new w _ _
 have hix := rowIx_le ds at_ past
 have hcp := @countF_pos ds
 have hlen := h.len
 have hT1 : totE ds <= 1073741824 := Nat.le_trans (cntE_le _ _) hlen
 have ho := of_line D g enc ds at_ _ (h.below hW)
 have hc := fun (w' : World) (hb : Below w.heap.size w w') => count_line D g enc ds w' (h.below hb)
 have hn := fun (w' : World) (hb : Below w.heap.size w w') => newRow_any D g enc ds (rowIx ds at_ past) w' (h.below hb) hix
 have hofl := ofF_le ds at_
 have hif : past = false -> min (ofF ds at_ : Int) ((countF ds : Int) - 1) = (rowIx ds at_ past : Int) := by
  intro e
  unfold rowIx
  rw [e]
  simp only [Bool.false_eq_true, if_false]
  omega
 have hit : past = true -> ofF ds at_ = rowIx ds at_ past := by
  intro e
  unfold rowIx
  rw [if_pos e]
 obtain ⟨K, hK⟩ : ∃ K, countF ds = K := ⟨_, rfl⟩
 obtain ⟨V, hV⟩ : ∃ V, ofF ds at_ = V := ⟨_, rfl⟩
 obtain ⟨I, hI⟩ : ∃ I, rowIx ds at_ past = I := ⟨_, rfl⟩
 obtain ⟨T, hT⟩ : ∃ T, totE ds = T := ⟨_, rfl⟩
 rw [hT] at hT1 hix hofl hcp
 rw [hK] at hc hcp hif
 rw [hV] at ho hif hit hofl
 rw [hI] at hn hix hif hit ⊢
 obtain ⟨C, hC⟩ : ∃ C, cont ds I = C := ⟨_, rfl⟩
 obtain ⟨L, hL⟩ : ∃ L, lineF ds I = L := ⟨_, rfl⟩
 rw [hC, hL] at hn ⊢
 have HC := Lib.hid hc
 have HO := Lib.hid ho
 have HN := Lib.hid hn
 have HIF := Lib.hid hif
 have HIT := Lib.hid hit
 clear hc ho hn hif hit hK hV hI hT hC hL
 simp only [rowV] at hW hR
 go_enter Tryz.func86, Tryz.ntmps86
 go_wp2_with fail
 refine (HO.out).mono ?_
 rintro e w1 ⟨rfl, hb1⟩
 have hW1 := bseq hW hb1
 have hR1 := hR.below hb1
 cases past
 ·go_wp2_with fail
  refine (HC.out _ hW1).mono ?_
  rintro e w2 ⟨rfl, hb2⟩
  have hW2 := bseq hW1 hb2
  have hR2 := hR1.below hb2
  go_wp2_with fail
  all_goals
   have hmin := HIF.out trivial
   first
    | rw [show (K : Int) - 1 = (I : Int) by omega]
    | rw [show (V : Int) = (I : Int) by omega]
   clear hmin
   refine (HN.out _ hW2).mono ?_
   rintro e w3 ⟨v, rfl, hrow, hb3⟩
   have hW3 := bseq hW2 hb3
   have hz : w.heap.size < w2.heap.size := hR2.lt
   obtain ⟨A1, n1, c1, A2, n2, c2, rfl, hfin⟩ := row_fin2 hz hrow hW3
   unfold setR at hfin
   have HF := Lib.hid hfin
   obtain ⟨⟨j0, j1, j2, j3, j4, j5, j6⟩, v0, v1, v2, v3, v4, v5, v6⟩ := row_facts0 (hR2.below hb3)
   unfold rowV
   clear hfin hrow
   go_wp2_with fail
   refine bodyPost_ret (v := .agg (rowV L I A1 n1 c1 A2 n2 c2)) (by simp [results, Tryz.results86, go_sem, rowV, j0, j1, j2, j3, j4, j5, j6]) rfl ?_
   with_reducible exact HF.out
 ·go_wp2_with fail
  rw [show (V : Int) = (I : Int) by rw [HIT.out trivial]]
  refine (HN.out _ hW1).mono ?_
  rintro e w3 ⟨v, rfl, hrow, hb3⟩
  have hW3 := bseq hW1 hb3
  have hz : w.heap.size < w1.heap.size := hR1.lt
  obtain ⟨A1, n1, c1, A2, n2, c2, rfl, hfin⟩ := row_fin2 hz hrow hW3
  unfold setR at hfin
  have HF := Lib.hid hfin
  obtain ⟨⟨j0, j1, j2, j3, j4, j5, j6⟩, v0, v1, v2, v3, v4, v5, v6⟩ := row_facts0 (hR1.below hb3)
  unfold rowV
  clear hfin hrow
  go_wp2_with fail
  refine bodyPost_ret (v := .agg (rowV L I A1 n1 c1 A2 n2 c2)) (by simp [results, Tryz.results86, go_sem, rowV, j0, j1, j2, j3, j4, j5, j6]) rfl ?_
  with_reducible exact HF.out
theorem clusters_any (L : Ln) (i : Int) (A1 A2 : Option Addr) (n1 c1 n2 c2 : Nat) (w : World) (hn : n2 <= 2147483648) (h1 : 1 <= n2) :
  Calls Tryz.prog 84 #[.agg (rowV L i A1 n1 c1 A2 n2 c2)] w fun e w' => e = .returned (.int .i64 ((n2 - 1 : Nat) : Int)) /\ Below w.heap.size w w' := by
 have hW : Below w.heap.size w (w.alloc (.cells (rowV L i A1 n1 c1 A2 n2 c2) 137)) := balloc (Below.refl _ w)
 have hq : IntKind.i64.wrap ((n2 : Int) - 1) = ((n2 - 1 : Nat) : Int) := by rw [IntWalk.i64_in _ (by omega)]; omega
 unfold rowV at hW ⊢
 go_enter Tryz.func84, Tryz.ntmps84
 go_wp2_with fail
 go_ret
 exact ⟨ret_i (by omega), hW⟩
theorem ints_form {w : World} {D : Nat -> Prop} {A : Option Addr} {n : Nat} {l : List Int} (h : Ints w D A n l) (hn : 0 < n) :
  ∃ b off, A = some ⟨b, off, none⟩ /\ D b /\ ∀ k, k < n -> w.cell? ⟨b, off + k, none⟩ = some (.int .i64 (l.getD k 0)) := by
 have hlen := h.len
 obtain ⟨b, off, e, hD, hc⟩ := Reads.form h hn (by decide)
 refine ⟨b, off, e, hD, fun k hk => hc k _ ?_⟩
 rw [List.getElem?_map, List.getD_eq_getElem?_getD, List.getElem?_eq_getElem (by omega)]
 rfl
theorem keep8 {w w1 : World} {b b' o : Nat} {u0 u1 u2 u3 u4 u5 u6 u : Value} (hb : Below w.heap.size w w1) (h : w.cell? ⟨b, 0, none⟩ = some u0 /\ w.cell? ⟨b, 1, none⟩ = some u1 /\ w.cell? ⟨b, 2, none⟩ = some u2 /\ w.cell? ⟨b, 3, none⟩ = some u3 /\ w.cell? ⟨b, 4, none⟩ = some u4 /\ w.cell? ⟨b, 5, none⟩ = some u5 /\ w.cell? ⟨b, 6, none⟩ = some u6 /\ w.cell? ⟨b', o, none⟩ = some u) :
  w1.cell? ⟨b, 0, none⟩ = some u0 /\ w1.cell? ⟨b, 1, none⟩ = some u1 /\ w1.cell? ⟨b, 2, none⟩ = some u2 /\ w1.cell? ⟨b, 3, none⟩ = some u3 /\ w1.cell? ⟨b, 4, none⟩ = some u4 /\ w1.cell? ⟨b, 5, none⟩ = some u5 /\ w1.cell? ⟨b, 6, none⟩ = some u6 /\ w1.cell? ⟨b', o, none⟩ = some u :=
 ⟨cell_keep hb h.1, cell_keep hb h.2.1, cell_keep hb h.2.2.1, cell_keep hb h.2.2.2.1, cell_keep hb h.2.2.2.2.1, cell_keep hb h.2.2.2.2.2.1, cell_keep hb h.2.2.2.2.2.2.1, cell_keep hb h.2.2.2.2.2.2.2⟩
theorem place_any (D : Nat -> Prop) (L : Ln) (i : Int) (C : List Int) (v : Array Value) (k : Int) (w : World) (h : RowC w D L i C v) (hL : 0 <= L.from_ /\ L.from_ <= 1073741824) (hn : (allB C).length <= 1073741825) (hB : ∀ x ∈ allB C, 0 <= x /\ x <= 1073741824) (hk0 : 0 <= k) (hk : k < ((allB C).length : Int)) :
  Calls Tryz.prog 85 #[.agg v, .int .i64 k] w fun e w' => e = .returned (.int .i64 (L.from_ + (allB C).getD k.toNat 0)) /\ Below w.heap.size w w' := by
 obtain ⟨A1, n1, c1, A2, n2, c2, rfl, h1, h2, h3, h4⟩ := h
 obtain ⟨x0, x1, x2, x3⟩ := L
 dsimp only at hL ⊢
 have hlen := h3.len
 have hpos : 0 < (allB C).length := by simp [allB]
 obtain ⟨b, off, rfl, hD, hcell⟩ := ints_form h3 (by omega)
 have hc := hcell k.toNat (by omega)
 have hmb : 0 <= (allB C).getD k.toNat 0 /\ (allB C).getD k.toNat 0 <= 1073741824 := by
  rw [List.getD_eq_getElem?_getD, List.getElem?_eq_getElem (by omega)]
  exact hB _ (List.getElem_mem _)
 obtain ⟨m, hm⟩ : ∃ m, (allB C).getD k.toNat 0 = m := ⟨_, rfl⟩
 rw [hm] at hc hmb ⊢
 obtain ⟨j, hj⟩ : ∃ j : Nat, k.toNat = j := ⟨_, rfl⟩
 rw [hj] at hc
 have hj2 : j <= n2 - 1 := by omega
 have hcl := fun (w' : World) => clusters_any ⟨x0, x1, x2, x3⟩ i A1 (some ⟨b, off, none⟩) n1 c1 n2 c2 w' (by omega) (by omega)
 obtain ⟨N, hN⟩ : ∃ N, n2 - 1 = N := ⟨_, rfl⟩
 rw [hN] at hcl hj2
 have hjn : (j : Int) < (n2 : Int) := by omega
 have hj0 : (0 : Int) <= (j : Int) := by omega
 have hjc : (j : Int) <= (N : Int) := by omega
 have hwr : IntKind.i64.wrap (x0 + m) = x0 + m := IntWalk.i64_in _ (by omega)
 have hkk : k = (j : Int) := by omega
 have hb0 := Blk.new w 137 (rowV ⟨x0, x1, x2, x3⟩ i A1 n1 c1 (some ⟨b, off, none⟩) n2 c2)
 obtain ⟨⟨g0, g1, g2, g3, g4, g5, g6⟩, _⟩ := row_facts hb0
 have hcw := cell_keep (balloc (o := .cells (rowV ⟨x0, x1, x2, x3⟩ i A1 n1 c1 (some ⟨b, off, none⟩) n2 c2) 137) (Below.refl _ w)) hc
 have hW : Below w.heap.size w (w.alloc (.cells (rowV ⟨x0, x1, x2, x3⟩ i A1 n1 c1 (some ⟨b, off, none⟩) n2 c2) 137)) := balloc (Below.refl _ w)
 unfold rowV at hcl g0 g1 g2 g3 g4 g5 g6 hcw hW
 dsimp only at hcl g0 g1 g2 g3 g4 g5 g6 hcw hW
 have HCL := Lib.hid hcl
 have HW := Lib.hid hW
 have hS := And.intro g0 (And.intro g1 (And.intro g2 (And.intro g3 (And.intro g4 (And.intro g5 (And.intro g6 hcw))))))
 clear hcl hm hj hN hlen hpos hcell hB hb0 h1 h3 hW
 subst hkk
 ·have hz2 : ((N : Int) < (j : Int)) = False := by simp; omega
  have hz3 : (N < j) = False := by simp; omega
  have hz4 : ((j : Int) < 0) = False := by simp
  unfold rowV
  go_enter Tryz.func85, Tryz.ntmps85
  go_upto_region 1 with fail
  go_cut [4] (fun s4 wx => s4 = .int .i64 (x0 + m) /\ Below w.heap.size w wx)
  case first =>
   have hSd := keep8 (Below.drew (Below.refl _ _)) hS
   go_region_held3 (fun w' => w'.cell? ⟨w.heap.size, 0, none⟩ = some (.int .i64 x0) /\ w'.cell? ⟨w.heap.size, 1, none⟩ = some (.int .i64 x1) /\ w'.cell? ⟨w.heap.size, 2, none⟩ = some (.int .i64 x2) /\ w'.cell? ⟨w.heap.size, 3, none⟩ = some (.int .i64 x3) /\ w'.cell? ⟨w.heap.size, 4, none⟩ = some (.int .i64 i) /\ w'.cell? ⟨w.heap.size, 5, none⟩ = some (.slice A1 n1 c1) /\ w'.cell? ⟨w.heap.size, 6, none⟩ = some (.slice (some ⟨b, off, none⟩) n2 c2) /\ w'.cell? ⟨b, off + j, none⟩ = some (.int .i64 m)) (first | (with_reducible assumption) | (with_reducible exact hSd)) (first | (go_at_call 84; refine (HCL.out _).mono ?_; rintro e w1 ⟨rfl, hb1⟩; have s1 := keep8 (bdrew hb1) hS))
   all_goals
    go_wp2_with fail
    go_meet
    exact ⟨rfl, bseq HW.out (bdrew hb1)⟩
  case rest =>
   obtain ⟨rfl, hb⟩ := hcut
   go_wp2_with fail
   go_ret
   exact ⟨rfl, hb⟩
structure ColOk (F at_ : Int) (M : List Int) (j : Nat) : Prop where
 lt : j < M.length
 low : j = 0 \/ F + M.getD j 0 <= at_
 high : ∀ k, j < k -> k < M.length -> at_ < F + M.getD k 0
def ColR (F at_ : Int) (M : List Int) (cs : Array Value) (w : World) (k : Nat) (q5 q6 : Value) (wr : World) : Prop :=
 ∃ lo hi : Nat, q5 = .int .i64 (lo : Int) /\ q6 = .int .i64 (hi : Int) /\ lo <= hi /\ hi < M.length /\ Hid (lo = 0 \/ F + M.getD lo 0 <= at_) /\ Hid (∀ j, hi < j -> j < M.length -> at_ < F + M.getD j 0) /\ hi - lo <= k /\
  Below w.heap.size w wr /\ Blk wr w.heap.size 137 cs
theorem column_any (D : Nat -> Prop) (L : Ln) (i : Int) (C : List Int) (v : Array Value) (at_ : Int) (w : World) (h : RowC w D L i C v) (hL : 0 <= L.from_ /\ L.from_ <= 1073741824) (hn : (allB C).length <= 1073741825) (hB : ∀ x ∈ allB C, 0 <= x /\ x <= 1073741824)
  (hs : ∀ a b, a <= b -> b < (allB C).length -> (allB C).getD a 0 <= (allB C).getD b 0) :
  Calls Tryz.prog 87 #[.agg v, .int .i64 at_] w fun e w' => (∃ j : Nat, e = .returned (.int .i64 (j : Int)) /\ ColOk L.from_ at_ (allB C) j) /\ Below w.heap.size w w' := by
 obtain ⟨A1, n1, c1, A2, n2, c2, rfl, h1, h2, h3, h4⟩ := h
 obtain ⟨x0, x1, x2, x3⟩ := L
 dsimp only at hL ⊢
 have hlen := h3.len
 have hpos : 0 < (allB C).length := by simp [allB]
 obtain ⟨b, off, rfl, hD, hcell⟩ := ints_form h3 (by omega)
 obtain ⟨M, hM⟩ : ∃ M, allB C = M := ⟨_, rfl⟩
 rw [hM] at hcell hB hs hn hlen hpos ⊢
 clear hM h1 h3
 have hcl := fun (w' : World) => clusters_any ⟨x0, x1, x2, x3⟩ i A1 (some ⟨b, off, none⟩) n1 c1 n2 c2 w' (by omega) (by omega)
 have hW : Below w.heap.size w (w.alloc (.cells (rowV ⟨x0, x1, x2, x3⟩ i A1 n1 c1 (some ⟨b, off, none⟩) n2 c2) 137)) := balloc (Below.refl _ w)
 have hb0 := Blk.new w 137 (rowV ⟨x0, x1, x2, x3⟩ i A1 n1 c1 (some ⟨b, off, none⟩) n2 c2)
 obtain ⟨N, hN⟩ : ∃ N, n2 - 1 = N := ⟨_, rfl⟩
 rw [hN] at hcl
 have HCE := Lib.hid hcell
 have HBB := Lib.hid hB
 have HSS := Lib.hid hs
 clear hcell hB hs
 unfold rowV at hcl hW ⊢
 dsimp only at hcl hW ⊢
 have HCL := Lib.hid hcl
 clear hcl
 go_enter Tryz.func87, Tryz.ntmps87
 go_wp2_with fail
 refine (HCL.out _).mono ?_
 rintro e w1 ⟨rfl, hb1⟩
 have hW1 := bseq hW hb1
 have hB1 := hb0.below hb1
 go_wp2_with fail
 go_loopg [5, 6] N (fun k p q wr => ColR x0 at_ M (rowV ⟨x0, x1, x2, x3⟩ i A1 n1 c1 (some ⟨b, off, none⟩) n2 c2) w k p q wr)
 case atStart => exact ⟨0, N, rfl, rfl, by omega, by omega, Lib.hid (.inl rfl), Lib.hid (fun j h1 h2 => absurd h1 (by omega)), by omega, hW1, hB1⟩
 case round =>
  obtain ⟨lo, hi, rfl, rfl, hle, hhi, hlo, hup, hk, hw, hbk⟩ := hrel
  by_cases hlt : lo < hi
  ·obtain ⟨m, hm⟩ : ∃ m, (lo + hi + 1) / 2 = m := ⟨_, rfl⟩
   have hm2 : ((lo : Int) + (hi : Int) + 1) / 2 = (m : Int) := by omega
   have hmb : lo < m /\ m <= hi := by omega
   have hcm := cell_keep hw (HCE.out m (by omega))
   have hmx : 0 <= M.getD m 0 /\ M.getD m 0 <= 1073741824 := by
    rw [List.getD_eq_getElem?_getD, List.getElem?_eq_getElem (by omega)]
    exact HBB.out _ (List.getElem_mem _)
   obtain ⟨y, hy⟩ : ∃ y, M.getD m 0 = y := ⟨_, rfl⟩
   rw [hy] at hcm hmx
   obtain ⟨⟨g0, g1, g2, g3, g4, g5, g6⟩, _⟩ := row_facts hbk
   dsimp only at g0
   have hy' := Lib.hid hy
   have hwr : IntKind.i64.wrap (x0 + y) = x0 + y := IntWalk.i64_in _ (by omega)
   have z1 : (0 : Int) <= (m : Int) := by omega
   have z2 : (m : Int) < (n2 : Int) := by omega
   clear hy
   dsimp only at g1 g2 g3
   by_cases hc : x0 + y <= at_
   ·go_upto_region 4 with fail
    go_quiet (fail)
    go_wp2_with fail
    go_roundg (hi - m)
    case measure => omega
    case rel => exact ⟨m, hi, by go_num, rfl, by omega, hhi, Lib.hid (.inr (by rw [hy'.out]; exact hc)), hup, by omega, below_drewN hw _, hbk.drewN _⟩
   ·go_upto_region 4 with fail
    go_quiet (fail)
    go_wp2_with fail
    go_roundg (m - 1 - lo)
    case measure => omega
    case rel =>
     refine ⟨lo, m - 1, rfl, by go_num, by omega, by omega, hlo, Lib.hid (fun j h1 h2 => ?_), by omega, below_drewN hw _, hbk.drewN _⟩
     have := HSS.out m j (by omega) h2
     rw [hy'.out] at this
     omega
  ·have hee : lo = hi := by omega
   subst hee
   go_wp2_with fail
   go_ret
   exact ⟨⟨lo, rfl, hhi, hlo.out, hup.out⟩, hw⟩
theorem first_any (D : Nat -> Prop) (L : Ln) (i : Int) (C : List Int) (v : Array Value) (k p : Nat) (w : World) (h : RowC w D L i C v) (hk : k < (allB C).length) (hp : (allB C).getD k 0 = (p : Int)) (hp2 : p < C.length) :
  Calls Tryz.prog 197 #[.agg v, .int .i64 (k : Int)] w fun e w' => e = .returned (.int .i64 (C.getD p 0)) /\ Below w.heap.size w w' := by
 obtain ⟨A1, n1, c1, A2, n2, c2, rfl, h1, h2, h3, h4⟩ := h
 obtain ⟨x0, x1, x2, x3⟩ := L
 have hl1 := h1.len
 have hl2 := h3.len
 obtain ⟨b1, o1, rfl, _, hc1⟩ := ints_form h1 (by omega)
 obtain ⟨b2, o2, rfl, _, hc2⟩ := ints_form h3 (by omega)
 have ha := cell_keep (balloc (o := .cells (rowV ⟨x0, x1, x2, x3⟩ i (some ⟨b1, o1, none⟩) n1 c1 (some ⟨b2, o2, none⟩) n2 c2) 137) (Below.refl _ w)) (hc1 p (by omega))
 have hb := cell_keep (balloc (o := .cells (rowV ⟨x0, x1, x2, x3⟩ i (some ⟨b1, o1, none⟩) n1 c1 (some ⟨b2, o2, none⟩) n2 c2) 137) (Below.refl _ w)) (hc2 k (by omega))
 rw [hp] at hb
 obtain ⟨y, hy⟩ : ∃ y, C.getD p 0 = y := ⟨_, rfl⟩
 rw [hy] at ha ⊢
 have z1 : (0 : Int) <= (k : Int) := by omega
 have z2 : (k : Int) < (n2 : Int) := by omega
 have z3 : (0 : Int) <= (p : Int) := by omega
 have z4 : (p : Int) < (n1 : Int) := by omega
 have hW : Below w.heap.size w (w.alloc (.cells (rowV ⟨x0, x1, x2, x3⟩ i (some ⟨b1, o1, none⟩) n1 c1 (some ⟨b2, o2, none⟩) n2 c2) 137)) := balloc (Below.refl _ w)
 unfold rowV at ha hb hW ⊢
 dsimp only at ha hb hW ⊢
 clear hy hp hc1 hc2 h1 h3
 go_enter Tryz.func197, Tryz.ntmps197
 go_upto_region 1 with fail
 go_quiet (fail)
 go_wp2_with fail
 go_ret
 exact ⟨rfl, below_drewN hW _⟩
noncomputable def kindF (C : List Int) (k : Nat) : Int := wordF (C.getD ((allB C).getD k 0).toNat 0)
theorem first_v {L : Ln} {i : Int} {D : Nat -> Prop} {C : List Int} {v : Array Value} {w : World} (h : RowC w D L i C v) : ∃ A1 n1 c1 A2 n2 c2, v = rowV L i A1 n1 c1 A2 n2 c2 := by
 obtain ⟨A1, n1, c1, A2, n2, c2, e, _⟩ := h
 exact ⟨A1, n1, c1, A2, n2, c2, e⟩
theorem bnds_chain (l : List Int) : ∀ (f p : Nat), l.length - p <= f -> p <= l.length ->
  (∀ k, k < (bnds l p).length -> (p :: bnds l p).getD k 0 < l.length /\ (p :: bnds l p).getD (k + 1) 0 = nextB l ((p :: bnds l p).getD k 0)) /\ (p :: bnds l p).getD (bnds l p).length 0 = l.length := by
 intro f
 induction f with
 | zero =>
  intro p h hp
  rw [bnds_ge l p (by omega)]
  refine ⟨fun k hk => absurd hk (by simp), ?_⟩
  simp
  omega
 | succ f ih =>
  intro p h hp
  by_cases hlt : p < l.length
  ·have hg := nextB_gt l p
   have hl := nextB_le l p hlt
   obtain ⟨h1, h2⟩ := ih (nextB l p) (by omega) hl
   rw [bnds_lt l p hlt]
   refine ⟨fun k hk => ?_, ?_⟩
   ·cases k with
    | zero => exact ⟨by simpa using hlt, by simp⟩
    | succ k =>
     have := h1 k (by simpa using hk)
     simpa using this
   ·simpa using h2
  ·rw [bnds_ge l p (by omega)]
   refine ⟨fun k hk => absurd hk (by simp), ?_⟩
   simp
   omega
noncomputable def mkb (C : List Int) (k : Nat) : Nat := (0 :: bnds C 0).getD k 0
noncomputable def nC (C : List Int) : Nat := (bnds C 0).length
theorem mk_zero (C : List Int) : mkb C 0 = 0 := rfl
theorem mk_step {C : List Int} {k : Nat} (h : k < nC C) : mkb C k < C.length /\ mkb C (k + 1) = nextB C (mkb C k) := (bnds_chain C C.length 0 (by omega) (by omega)).1 k h
theorem mk_last (C : List Int) : mkb C (nC C) = C.length := (bnds_chain C C.length 0 (by omega) (by omega)).2
theorem mk_lt {C : List Int} {k : Nat} (h : k < nC C) : mkb C k < mkb C (k + 1) := by rw [(mk_step h).2]; exact nextB_gt _ _
theorem mk_mono {C : List Int} {a b : Nat} (h : a <= b) (hb : b <= nC C) : mkb C a <= mkb C b := by
 induction b with
 | zero => rw [Nat.le_zero.1 h]; exact Nat.le_refl _
 | succ b ih =>
  rcases Nat.eq_or_lt_of_le h with h | h
  ·rw [h]; exact Nat.le_refl _
  ·exact Nat.le_of_lt (Nat.lt_of_le_of_lt (ih (by omega) (by omega)) (mk_lt (by omega)))
theorem mk_le {C : List Int} {k : Nat} (h : k <= nC C) : mkb C k <= C.length := by rw [<- mk_last]; exact mk_mono h (Nat.le_refl _)
theorem allB_len (C : List Int) : (allB C).length = nC C + 1 := by simp [allB, nC]
theorem allB_at {C : List Int} {k : Nat} (h : k <= nC C) : (allB C).getD k 0 = (mkb C k : Int) := by
 unfold allB mkb
 cases k with
 | zero => rfl
 | succ k =>
  have hk : k < (bnds C 0).length := h
  simp only [List.getD_cons_succ]
  rw [List.getD_eq_getElem?_getD, List.getD_eq_getElem?_getD, List.getElem?_map, List.getElem?_eq_getElem hk]
  rfl
theorem allB_bd {C : List Int} (h : C.length <= 1073741824) : ∀ x ∈ allB C, 0 <= x /\ x <= 1073741824 := by
 intro x hx
 obtain ⟨k, hk, rfl⟩ := List.getElem_of_mem hx
 rw [allB_len] at hk
 have e := allB_at (C := C) (k := k) (by omega)
 rw [List.getD_eq_getElem?_getD, List.getElem?_eq_getElem (by rw [allB_len]; exact hk)] at e
 simp only [Option.getD_some] at e
 have := mk_le (C := C) (k := k) (by omega)
 omega
theorem allB_sorted {C : List Int} (a b : Nat) (h : a <= b) (hb : b < (allB C).length) : (allB C).getD a 0 <= (allB C).getD b 0 := by
 rw [allB_len] at hb
 rw [allB_at (by omega), allB_at (by omega)]
 have := mk_mono (C := C) h (by omega)
 omega
theorem nC_le (C : List Int) : nC C <= C.length := by
 have h : ∀ k, k <= nC C -> k <= mkb C k := by
  intro k
  induction k with
  | zero => intro _; omega
  | succ k ih =>
   intro h
   have := ih (by omega)
   have := mk_lt (C := C) (k := k) (by omega)
   omega
 have := h (nC C) (Nat.le_refl _)
 rw [mk_last] at this
 exact this
theorem nC_pos {C : List Int} (h : 0 < C.length) : 0 < nC C := by
 rcases Nat.eq_zero_or_pos (nC C) with e | e
 ·have := mk_last C
  rw [e, mk_zero] at this
  omega
 ·exact e
structure InC (C : List Int) (r j : Nat) : Prop where
 le : j <= nC C
 low : mkb C j <= r
 high : ∀ k, j < k -> k <= nC C -> r < mkb C k
theorem InC.uniq {C : List Int} {r j j' : Nat} (h : InC C r j) (h' : InC C r j') : j = j' := by
 rcases Nat.lt_trichotomy j j' with hlt | e | hlt
 ·have := h.high j' hlt h'.le; have := h'.low; omega
 ·exact e
 ·have := h'.high j hlt h.le; have := h.low; omega
theorem InC.lt {C : List Int} {r j : Nat} (h : InC C r j) (hr : r < C.length) : j < nC C := by
 rcases Nat.lt_or_ge j (nC C) with h1 | h1
 ·exact h1
 ·have e : j = nC C := Nat.le_antisymm h.le h1
  have := h.low
  rw [e, mk_last] at this
  omega
theorem InC.next {C : List Int} {r j : Nat} (h : InC C r j) (hj : j < nC C) : r < mkb C (j + 1) := h.high (j + 1) (Nat.lt_succ_self _) hj
theorem column_mk (D : Nat -> Prop) (L : Ln) (i : Int) (C : List Int) (v : Array Value) (r : Nat) (w : World) (h : RowC w D L i C v) (hL : 0 <= L.from_ /\ L.from_ <= 1073741824) (hC : C.length <= 1073741824) :
  Calls Tryz.prog 87 #[.agg v, .int .i64 (L.from_ + (r : Int))] w fun e w' => (∃ j : Nat, e = .returned (.int .i64 (j : Int)) /\ InC C r j) /\ Below w.heap.size w w' := by
 have hn := nC_le C
 refine (column_any D L i C v _ w h hL (by rw [allB_len]; omega) (allB_bd hC) allB_sorted).mono ?_
 rintro e w' ⟨⟨j, rfl, hc⟩, hb⟩
 obtain ⟨h1, h2, h3⟩ := hc
 rw [allB_len] at h1 h3
 refine ⟨⟨j, rfl, by omega, ?_, fun k hk hk2 => ?_⟩, hb⟩
 ·rcases h2 with rfl | h2
  ·rw [mk_zero]; omega
  ·rw [allB_at (by omega)] at h2; omega
 ·have := h3 k hk (by omega)
  rw [allB_at (by omega)] at this
  omega
theorem place_mk (D : Nat -> Prop) (L : Ln) (i : Int) (C : List Int) (v : Array Value) (k : Nat) (w : World) (h : RowC w D L i C v) (hL : 0 <= L.from_ /\ L.from_ <= 1073741824) (hC : C.length <= 1073741824) (hk : k <= nC C) :
  Calls Tryz.prog 85 #[.agg v, .int .i64 (k : Int)] w fun e w' => e = .returned (.int .i64 (L.from_ + (mkb C k : Int))) /\ Below w.heap.size w w' := by
 have hn := nC_le C
 have := place_any D L i C v (k : Int) w h hL (by rw [allB_len]; omega) (allB_bd hC) (by omega) (by rw [allB_len]; omega)
 rw [Int.toNat_natCast, allB_at hk] at this
 exact this
noncomputable def kd (C : List Int) (k : Nat) : Int := wordF (C.getD (mkb C k) 0)
theorem clusters_mk (D : Nat -> Prop) (L : Ln) (i : Int) (C : List Int) (v : Array Value) (w : World) (h : RowC w D L i C v) (hC : C.length <= 1073741824) :
  Calls Tryz.prog 84 #[.agg v] w fun e w' => e = .returned (.int .i64 (nC C : Nat)) /\ Below w.heap.size w w' := by
 obtain ⟨A1, n1, c1, A2, n2, c2, rfl, h1, h2, h3, h4⟩ := h
 have hlen := h3.len
 have hn := nC_le C
 rw [allB_len] at hlen
 have := clusters_any L i A1 A2 n1 c1 n2 c2 w (by omega) (by omega)
 rw [show n2 - 1 = nC C by omega] at this
 exact this
theorem sure_no {s : Scan} {a b : Int} (h : sureF a b = true) (hs : s.last = classF a) : joinsF s b = false := by
 unfold sureF at h
 unfold joinsF
 rw [hs]
 rw [Bool.and_eq_true, Bool.or_eq_true] at h
 obtain ⟨h1, h2⟩ := h
 rw [if_neg (fun hh => by rw [hh.1, hh.2] at h2; exact absurd h2 (by decide)), if_pos h1]
theorem takesF_last {s : Scan} {b : Int} (h : joinsF s b = true) : (takesF s b).last = classF b := by
 unfold takesF
 rw [if_pos h]
 rfl
theorem runF_sure : ∀ (l : List Int) (s : Scan) (a : Int) (k : Nat), s.last = classF a -> k < l.length -> sureF ((a :: l).getD k 0) (l.getD k 0) = true -> runF s l <= k := by
 intro l
 induction l with
 | nil => intro s a k _ hk; simp at hk
 | cons b r ih =>
  intro s a k hs hk h
  unfold runF
  split
  ·rename_i hj
   cases k with
   | zero =>
    have := sure_no (s := s) (a := a) (b := b) (by simpa using h) hs
    rw [this] at hj
    cases hj
   | succ k =>
    have := ih (takesF s b) b k (takesF_last hj) (by simpa using hk) (by simpa using h)
    omega
  ·omega
theorem nextB_sure {l : List Int} {q k : Nat} (hq : q < k) (hk : k < l.length) (h : sureF (l.getD (k - 1) 0) (l.getD k 0) = true) : nextB l q <= k := by
 unfold nextB
 have h1 : (l.drop (q + 1)).getD (k - (q + 1)) 0 = l.getD k 0 := by
  rw [List.getD_eq_getElem?_getD, List.getElem?_drop, List.getD_eq_getElem?_getD, show q + 1 + (k - (q + 1)) = k by omega]
 have h2 : (l.getD q 0 :: l.drop (q + 1)).getD (k - (q + 1)) 0 = l.getD (k - 1) 0 := by
  rcases Nat.eq_or_lt_of_le (show q + 1 <= k from hq) with e | e
  ·rw [<- e, Nat.sub_self]
   rfl
  ·obtain ⟨m, hm⟩ : ∃ m, k - (q + 1) = m + 1 := ⟨k - (q + 1) - 1, by omega⟩
   rw [hm, List.getD_cons_succ, List.getD_eq_getElem?_getD, List.getElem?_drop, List.getD_eq_getElem?_getD, show q + 1 + m = k - 1 by omega]
 have := runF_sure (l.drop (q + 1)) (beginF (l.getD q 0)) (l.getD q 0) (k - (q + 1)) rfl (by rw [List.length_drop]; omega) (by rw [h1, h2]; exact h)
 omega
theorem inC_ex {C : List Int} {r : Nat} (hr : r <= C.length) : ∃ j, InC C r j := by
 have key : ∀ n, n <= nC C -> ∃ j, j <= n /\ mkb C j <= r /\ ∀ k, j < k -> k <= n -> r < mkb C k := by
  intro n
  induction n with
  | zero => intro _; exact ⟨0, Nat.le_refl _, by rw [mk_zero]; omega, fun k h1 h2 => by omega⟩
  | succ n ih =>
   intro hn
   obtain ⟨j, h1, h2, h3⟩ := ih (by omega)
   rcases Nat.lt_or_ge r (mkb C (n + 1)) with h4 | h4
   ·refine ⟨j, by omega, h2, fun k hk hk2 => ?_⟩
    rcases Nat.eq_or_lt_of_le hk2 with e | e
    ·rw [e]; exact h4
    ·exact h3 k hk (by omega)
   ·exact ⟨n + 1, Nat.le_refl _, h4, fun k hk hk2 => by omega⟩
 obtain ⟨j, h1, h2, h3⟩ := key (nC C) (Nat.le_refl _)
 exact ⟨j, h1, h2, h3⟩
theorem sure_mk {l : List Int} {k : Nat} (hk : k < l.length) (h : sureF (l.getD (k - 1) 0) (l.getD k 0) = true) : ∃ j, j < nC l /\ mkb l j = k := by
 obtain ⟨j, hj⟩ := inC_ex (C := l) (r := k) (by omega)
 have hlt := hj.lt hk
 refine ⟨j, hlt, ?_⟩
 rcases Nat.eq_or_lt_of_le hj.low with e | e
 ·exact e
 ·have h1 := nextB_sure e hk h
  have h2 := hj.next hlt
  rw [(mk_step hlt).2] at h2
  omega
theorem safeG_spec (l : List Int) (p : Nat) (hp : p < l.length) : ∃ j, j < nC l /\ mkb l j = safeG l p := by
 induction p with
 | zero => exact ⟨0, nC_pos hp, by simp [safeG, mk_zero]⟩
 | succ p ih =>
  simp only [safeG]
  split
  ·rename_i h
   exact sure_mk hp (by simpa using h)
  ·exact ih (by omega)
theorem bnds_mk {C : List Int} {j : Nat} (hj : j < nC C) : bnds C (mkb C j) = mkb C (j + 1) :: bnds C (mkb C (j + 1)) := by
 rw [bnds_lt _ _ (mk_step hj).1, <- (mk_step hj).2]
theorem fold_next {C : List Int} {p j : Nat} (h : InC C p j) (hp : p < C.length) : ∀ (f j0 s : Nat), j - j0 <= f -> j0 <= j ->
  foldU (fun (s k : Nat) => (decide (k <= p), if p < k then k else s)) s (bnds C (mkb C j0)) = mkb C (j + 1) := by
 have hlt := h.lt hp
 have hn := h.next hlt
 intro f
 induction f with
 | zero =>
  intro j0 s hf hj0
  have e : j0 = j := by omega
  subst e
  rw [bnds_mk hlt]
  unfold foldU
  rw [if_neg (by simp; omega), if_pos hn]
 | succ f ih =>
  intro j0 s hf hj0
  rcases Nat.eq_or_lt_of_le hj0 with e | e
  ·subst e
   rw [bnds_mk hlt]
   unfold foldU
   rw [if_neg (by simp; omega), if_pos hn]
  ·rw [bnds_mk (by omega)]
   unfold foldU
   have h1 := mk_mono (C := C) (a := j0 + 1) (b := j) e h.le
   have h2 := h.low
   rw [if_pos (by simp; omega)]
   exact ih (j0 + 1) _ (by omega) e
theorem nextF_mk {C : List Int} {p j : Nat} (h : InC C p j) (hp : p < C.length) : nextF C p = mkb C (j + 1) := by
 unfold nextF
 rw [if_pos hp]
 obtain ⟨j0, h1, h2⟩ := safeG_spec C p hp
 have h3 : safeF C (p + 1) = safeG C p := by
  unfold safeF
  rw [show min (p + 1) C.length - 1 = p by omega]
 have h4 := safeG_le C p
 rw [h3, <- h2]
 refine fold_next h hp _ j0 _ (Nat.le_refl _) ?_
 rcases Nat.lt_or_ge j j0 with h5 | h5
 ·have := h.high j0 h5 (by omega)
  omega
 ·exact h5
theorem line_from (ds : List (Int × Int)) (i : Nat) : (lineF ds i).from_ = (sk ds i : Int) := by
 unfold lineF
 split
 ·unfold closedF
  split
  ·rfl
  ·split <;> rfl
 ·rfl
theorem line_sk_le {ds : List (Int × Int)} (hp : PosD ds) {m k : Nat} (hm : m <= ds.length) (hk : k <= totE ds) (h : k <= cntE (ds.map Prod.fst) m) : sk ds k <= m := by
 rcases Nat.eq_zero_or_pos k with h0 | h0
 ·subst h0; rw [sk_zero]; omega
 ·obtain ⟨_, h2, h3⟩ := sk_spec hp h0 hk
  rcases Nat.lt_or_ge m (sk ds k) with h4 | h4
  ·have := cntE_lt (ds.map Prod.fst) h4 h2
   omega
  ·exact h4
theorem isE_no {A : List Int} {p : Nat} (h : isE A (p + 1) = false) (hp : p < A.length) : A.getD p 0 ≠ 10 /\ (A.getD p 0 = 13 -> p + 1 < A.length /\ A.getD (p + 1) 0 = 10) := by
 unfold isE at h
 rw [decide_eq_false_iff_not] at h
 simp only [Nat.add_sub_cancel] at h
 have h1 : ¬ (A.getD p 0 = 10 \/ (A.getD p 0 = 13 /\ ¬ (p + 1 < A.length /\ A.getD (p + 1) 0 = 10))) := fun hh => h ⟨by omega, by omega, hh⟩
 rw [not_or] at h1
 refine ⟨h1.1, fun h13 => ?_⟩
 exact Decidable.byContradiction fun hn => h1.2 ⟨h13, hn⟩
theorem isE_lf {A : List Int} {p : Nat} (hp : p < A.length) (h : A.getD p 0 = 10) : isE A (p + 1) = true := by
 unfold isE
 rw [decide_eq_true_eq]
 simp only [Nat.add_sub_cancel]
 exact ⟨by omega, by omega, .inl h⟩
theorem isE_brk {A : List Int} {p : Nat} (h : isE A p = true) : A.getD (p - 1) 0 = 10 \/ A.getD (p - 1) 0 = 13 := by
 unfold isE at h
 rw [decide_eq_true_eq] at h
 omega
section
variable {ds : List (Int × Int)} (hp : PosD ds)
include hp
theorem line_noE {i q : Nat} (hi : i <= totE ds) (h0 : sk ds i < q) (h1 : if i < totE ds then q < sk ds (i + 1) else q <= ds.length) : isE (ds.map Prod.fst) q = false := by
 rcases hb : isE (ds.map Prod.fst) q with _ | _
 ·rfl
 ·exfalso
  have hc := sk_cnt hp hi
  have a1 := cntE_lt (ds.map Prod.fst) h0 hb
  rw [hc.2.1] at a1
  split at h1
  ·rename_i hlt
   have hs := sk_spec hp (k := i + 1) (by omega) hlt
   have a2 := cntE_lt (ds.map Prod.fst) h1 hs.2.1
   rw [hs.2.2] at a2
   omega
  ·have a2 := cntE_mono (ds.map Prod.fst) h1
   have : totE ds = cntE (ds.map Prod.fst) ds.length := rfl
   omega
theorem line_form {i : Nat} (hi : i <= totE ds) : (∀ p : Nat, (lineF ds i).from_ <= p -> (p : Int) < (lineF ds i).to_ -> (ds.map Prod.fst).getD p 0 ≠ 10 /\ (ds.map Prod.fst).getD p 0 ≠ 13) /\
  (∀ p : Nat, (lineF ds i).to_ <= p -> (p : Int) < (lineF ds i).next -> (ds.map Prod.fst).getD p 0 = 10 \/ (ds.map Prod.fst).getD p 0 = 13) /\
  (i < totE ds -> (lineF ds i).to_ < (lineF ds i).next /\ (lineF ds i).next = (lineF ds (i + 1)).from_) := by
 have hno := fun q => line_noE hp (q := q) hi
 have hl : (ds.map Prod.fst).length = ds.length := List.length_map ..
 have hc := sk_cnt hp hi
 have hfr := line_from ds (i + 1)
 obtain ⟨A, hA⟩ : ∃ A, ds.map Prod.fst = A := ⟨_, rfl⟩
 by_cases hlt : i < totE ds
 ·have hs := sk_spec hp (k := i + 1) (by omega) hlt
  have hsl := sk_lt hp hlt
  have hle := isE_le hs.2.1
  have hbr := isE_brk hs.2.1
  simp only [if_pos hlt] at hno
  have hF : lineF ds i = closedF (ds.map Prod.fst) (sk ds i) (sk ds (i + 1)) := by unfold lineF; rw [if_pos hlt]
  rw [hF, hfr]
  rw [hA] at hno hl hs hle hbr ⊢
  have key : ∀ p, sk ds i <= p -> p + 1 < sk ds (i + 1) -> A.getD p 0 ≠ 10 /\ (A.getD p 0 = 13 -> p + 2 = sk ds (i + 1) /\ A.getD (p + 1) 0 = 10) := fun p h1 h2 => by
   have k1 := isE_no (hno (p + 1) (by omega) h2) (by omega)
   refine ⟨k1.1, fun h13 => ?_⟩
   obtain ⟨k2, k3⟩ := k1.2 h13
   refine ⟨?_, k3⟩
   have k4 := isE_lf k2 k3
   rcases Nat.lt_or_ge (p + 2) (sk ds (i + 1)) with k5 | k5
   ·have := hno (p + 2) (by omega) k5
    rw [this] at k4
    cases k4
   ·omega
  unfold closedF
  split
  ·rename_i h13
   refine ⟨fun p h1 h2 => ?_, fun p h1 h2 => ?_, fun _ => ?_⟩
   ·dsimp only at h1 h2
    have k := key p (by omega) (by omega)
    refine ⟨k.1, fun e => ?_⟩
    have k2 := k.2 e
    have : p + 1 = sk ds (i + 1) - 1 := by omega
    rw [this] at k2
    omega
   ·dsimp only at h1 h2
    have : p = sk ds (i + 1) - 1 := by omega
    rw [this]
    exact .inr h13
   ·dsimp only
    omega
  ·rename_i hn13
   have h10 : A.getD (sk ds (i + 1) - 1) 0 = 10 := by omega
   split
   ·rename_i h2c
    refine ⟨fun p h1 h2 => ?_, fun p h1 h2 => ?_, fun _ => ?_⟩
    ·dsimp only at h1 h2
     have k := key p (by omega) (by omega)
     refine ⟨k.1, fun e => ?_⟩
     have k2 := k.2 e
     omega
    ·dsimp only at h1 h2
     rcases Nat.lt_or_ge p (sk ds (i + 1) - 1) with h3 | h3
     ·have : p = sk ds (i + 1) - 2 := by omega
      rw [this]
      exact .inr h2c.2
     ·have : p = sk ds (i + 1) - 1 := by omega
      rw [this]
      exact .inl h10
    ·dsimp only
     omega
   ·rename_i h3c
    refine ⟨fun p h1 h2 => ?_, fun p h1 h2 => ?_, fun _ => ?_⟩
    ·dsimp only at h1 h2
     have k := key p (by omega) (by omega)
     refine ⟨k.1, fun e => ?_⟩
     have k2 := k.2 e
     apply h3c
     refine ⟨by omega, ?_⟩
     have : sk ds (i + 1) - 2 = p := by omega
     rw [this]
     exact e
    ·dsimp only at h1 h2
     have : p = sk ds (i + 1) - 1 := by omega
     rw [this]
     exact .inl h10
    ·dsimp only
     omega
 ·simp only [if_neg hlt] at hno
  have hF : lineF ds i = ⟨sk ds i, ds.length, ds.length, 0⟩ := by unfold lineF; rw [if_neg hlt]
  rw [hF]
  have htt : totE ds = i := by omega
  rw [hA] at hno hl ⊢
  refine ⟨fun p h1 h2 => ?_, fun p h1 h2 => ?_, fun h => absurd h hlt⟩
  ·dsimp only at h1 h2
   have k1 := isE_no (hno (p + 1) (by omega) (by omega)) (by omega)
   refine ⟨k1.1, fun h13 => ?_⟩
   obtain ⟨k2, k3⟩ := k1.2 h13
   have k4 := isE_lf k2 k3
   have := hno (p + 2) (by omega) (by omega)
   rw [this] at k4
   cases k4
  ·dsimp only at h1 h2
   omega
end
theorem RowC.fr {w w' : World} {D S : Nat -> Prop} {L : Ln} {i : Int} {C : List Int} {v : Array Value} (h : RowC w D L i C v) (hb : Fr S w w') (hn : ∀ b, D b -> b < w.heap.size -> ¬ S b) : RowC w' D L i C v := by
 obtain ⟨A1, n1, c1, A2, n2, c2, e, h1, h2, h3, h4⟩ := h
 exact ⟨A1, n1, c1, A2, n2, c2, e, Reads.fr h1 hb hn, h2, Reads.fr h3 hb hn, h4⟩
def mvV (g : Nat) (s c k : Int) (cn : Bool) (arg goal : Int) (r0 r1 r2 r3 r4 r5 r6 : Value) : Array Value :=
 #[.pointer (some ⟨g, 0, none⟩), .int .i64 s, .int .i64 c, .int .i64 k, .bool cn, .int .i64 arg, .int .i64 goal, .bool false, .bool false, r0, r1, r2, r3, r4, r5, r6]
def MvAt (w : World) (m g : Nat) (s k : Int) : Prop := ∃ c cn arg goal r0 r1 r2 r3 r4 r5 r6, Blk w m 245 (mvV g s c k cn arg goal r0 r1 r2 r3 r4 r5 r6)
theorem MvAt.facts {w : World} {m g : Nat} {s k : Int} (h : MvAt w m g s k) :
  (w.cell? ⟨m, 0, none⟩ = some (.pointer (some ⟨g, 0, none⟩)) /\ w.cell? ⟨m, 1, none⟩ = some (.int .i64 s) /\ w.cell? ⟨m, 3, none⟩ = some (.int .i64 k) /\ w.cell? ⟨m, 7, none⟩ = some (.bool false) /\ w.cell? ⟨m, 8, none⟩ = some (.bool false)) /\ w.frozen? ⟨m, 3, none⟩ = false := by
 obtain ⟨c, cn, arg, goal, r0, r1, r2, r3, r4, r5, r6, hb⟩ := h
 exact ⟨⟨hb.cell 0, hb.cell 1, hb.cell 3, hb.cell 7, hb.cell 8⟩, hb.frozen 3⟩
theorem MvAt.below {w w' : World} {m g : Nat} {s k : Int} (h : MvAt w m g s k) (hb : Below w.heap.size w w') : MvAt w' m g s k := by
 obtain ⟨c, cn, arg, goal, r0, r1, r2, r3, r4, r5, r6, h⟩ := h
 exact ⟨c, cn, arg, goal, r0, r1, r2, r3, r4, r5, r6, h.below hb⟩
theorem Column_any (D : Nat -> Prop) (g : Nat) (enc : Int) (ds : List (Int × Int)) (at_ : Int) (w : World) (h : TextAt w D g enc ds) :
  Calls Tryz.prog 35 #[.pointer (some ⟨g, 0, none⟩), .int .i64 at_] w fun e w' => (∃ j : Nat, e = .returned (.int .i64 (j : Int))) /\ Below w.heap.size w w' := by
 have hp := h.pos
 have hix := rowIx_le ds at_ true
 have hbd := lineF_bd hp hix
 have hcl := cont_len hp hix
 have hlen := h.len
 have hra := rowAt_any D g enc ds at_ true w h
 obtain ⟨I, hI⟩ : ∃ I, rowIx ds at_ true = I := ⟨_, rfl⟩
 rw [hI] at hbd hcl hra
 obtain ⟨L, hL⟩ : ∃ L, lineF ds I = L := ⟨_, rfl⟩
 obtain ⟨C, hC⟩ : ∃ C, cont ds I = C := ⟨_, rfl⟩
 rw [hL] at hbd hcl hra
 rw [hC] at hcl hra
 have hl0 : 0 <= L.from_ /\ L.from_ <= 1073741824 := by omega
 have hc0 : C.length <= 1073741824 := by omega
 have hn := nC_le C
 have HRA := Lib.hid hra
 clear hra hI hL hC hix hp hcl hbd h
 go_enter Tryz.func35, Tryz.ntmps35
 go_wp2_with fail
 refine (HRA.out).mono ?_
 rintro e w1 ⟨v, rfl, hrow, hb1⟩
 have hco := fun (wy : World) (hy : Below w1.heap.size w1 wy) => column_any _ L I C v at_ wy (hrow.below hy) hl0 (by rw [allB_len]; omega) (allB_bd hc0) allB_sorted
 obtain ⟨A1, n1, c1, A2, n2, c2, rfl⟩ := first_v hrow
 have HCO := Lib.hid hco
 clear hco hrow
 obtain ⟨x0, x1, x2, x3⟩ := L
 obtain ⟨g0, _⟩ := row_facts (Blk.new w1 137 (rowV ⟨x0, x1, x2, x3⟩ I A1 n1 c1 A2 n2 c2))
 have hw1 : Below w1.heap.size w1 (w1.alloc (.cells (rowV ⟨x0, x1, x2, x3⟩ I A1 n1 c1 A2 n2 c2) 137)) := balloc (Below.refl _ _)
 unfold rowV at HCO g0 hw1 ⊢
 dsimp only at HCO g0 hl0 hw1 ⊢
 obtain ⟨g0, g1, g2, g3, g4, g5, g6⟩ := g0
 go_wp2_with fail
 refine (HCO.out _ hw1).mono ?_
 rintro e w2 ⟨⟨j, rfl, _⟩, hb2⟩
 go_wp2_with fail
 go_ret
 exact ⟨⟨j, rfl⟩, bseq hb1 (bseq hw1 hb2)⟩
theorem mat_any (D : Nat -> Prop) (m g : Nat) (enc : Int) (ds : List (Int × Int)) (s k off kind : Int) (w : World) (hm : MvAt w m g s k) (h : TextAt w D g enc ds) :
  Calls Tryz.prog 183 #[.pointer (some ⟨m, 0, none⟩), .int .i64 off, .int .i64 kind] w fun e w' => (∃ j : Nat, e = .returned (.tuple #[.agg #[.int .i64 off, .int .i64 kind, .int .i64 (j : Int)], .int .i64 0])) /\ Below w.heap.size w w' := by
 have hco := fun (wy : World) (hy : Below w.heap.size w wy) => Column_any D g enc ds off wy (h.below hy)
 have hmm := fun (wy : World) (hy : Below w.heap.size w wy) => (hm.below hy).facts.1
 have HCO := Lib.hid hco
 have HM := Lib.hid hmm
 clear hco hm h hmm
 have hw1 : Below w.heap.size w (w.alloc (.cells #[.int .i64 0, .int .i64 0, .int .i64 0] 152)) := balloc (Below.refl _ _)
 have hB := Blk.new w 152 #[.int .i64 0, .int .i64 0, .int .i64 0]
 go_enter Tryz.func183, Tryz.ntmps183
 obtain ⟨g0, _⟩ := HM.out _ hw1
 go_wp2_with fail
 refine (HCO.out _ hw1).mono ?_
 rintro e w2 ⟨⟨j, rfl⟩, hb2⟩
 have hB2 := hB.below hb2
 have c0 := hB2.cell 0
 have c1 := hB2.cell 1
 have c2 := hB2.cell 2
 have f0 := hB2.frozen 0
 have f1 := hB2.frozen 1
 have f2 := hB2.frozen 2
 simp at c0 c1 c2
 go_wp2_with fail
 have hB3 := ((hB2.set_ 0 (.int .i64 off)).set_ 1 (.int .i64 kind)).set_ 2 (.int .i64 (j : Int))
 have d0 := hB3.cell 0
 have d1 := hB3.cell 1
 have d2 := hB3.cell 2
 simp at d0 d1 d2
 have hW : Below w.heap.size w (((w2.setCell ⟨w.heap.size, 0, none⟩ (.int .i64 off)).setCell ⟨w.heap.size, 1, none⟩ (.int .i64 kind)).setCell ⟨w.heap.size, 2, none⟩ (.int .i64 (j : Int))) :=
  (((bseq hw1 hb2).setCell (Nat.le_refl _) _).setCell (Nat.le_refl _) _).setCell (Nat.le_refl _) _
 refine bodyPost_ret (v := .tuple #[.agg #[.int .i64 off, .int .i64 kind, .int .i64 (j : Int)], .int .i64 0]) (by simp [results, Tryz.results183, go_sem, d0, d1, d2]) rfl ⟨⟨j, rfl⟩, hW⟩
theorem land_ret {w : World} {q : Nat} {x y z u0 u1 u2 : Int} (hB : Blk w q 152 #[.int .i64 u0, .int .i64 u1, .int .i64 u2]) :
  (((w.setCell ⟨q, 0, none⟩ (.int .i64 x)).setCell ⟨q, 1, none⟩ (.int .i64 y)).setCell ⟨q, 2, none⟩ (.int .i64 z)).cell? ⟨q, 0, none⟩ = some (.int .i64 x) /\
  (((w.setCell ⟨q, 0, none⟩ (.int .i64 x)).setCell ⟨q, 1, none⟩ (.int .i64 y)).setCell ⟨q, 2, none⟩ (.int .i64 z)).cell? ⟨q, 1, none⟩ = some (.int .i64 y) /\
  (((w.setCell ⟨q, 0, none⟩ (.int .i64 x)).setCell ⟨q, 1, none⟩ (.int .i64 y)).setCell ⟨q, 2, none⟩ (.int .i64 z)).cell? ⟨q, 2, none⟩ = some (.int .i64 z) := by
 have hB3 := ((hB.set_ 0 (.int .i64 x)).set_ 1 (.int .i64 y)).set_ 2 (.int .i64 z)
 have d0 := hB3.cell 0
 have d1 := hB3.cell 1
 have d2 := hB3.cell 2
 simp at d0 d1 d2
 exact ⟨d0, d1, d2⟩
theorem land_facts {w : World} {q : Nat} {u0 u1 u2 : Int} (hB : Blk w q 152 #[.int .i64 u0, .int .i64 u1, .int .i64 u2]) :
  w.cell? ⟨q, 0, none⟩ = some (.int .i64 u0) /\ w.cell? ⟨q, 1, none⟩ = some (.int .i64 u1) /\ w.cell? ⟨q, 2, none⟩ = some (.int .i64 u2) /\ w.frozen? ⟨q, 0, none⟩ = false /\ w.frozen? ⟨q, 1, none⟩ = false /\ w.frozen? ⟨q, 2, none⟩ = false :=
 ⟨hB.cell 0, hB.cell 1, hB.cell 2, hB.frozen 0, hB.frozen 1, hB.frozen 2⟩
theorem below_set3 {W w : World} {q : Nat} {x y z : Value} (h : Below W.heap.size W w) (hq : W.heap.size <= q) :
  Below W.heap.size W (((w.setCell ⟨q, 0, none⟩ x).setCell ⟨q, 1, none⟩ y).setCell ⟨q, 2, none⟩ z) := ((h.setCell hq _).setCell hq _).setCell hq _
def LandPost (X T : Int) (w : World) (e : Ending) (w' : World) : Prop := (∃ col : Nat, e = .returned (.tuple #[.agg #[.int .i64 T, .int .i64 X, .int .i64 (col : Int)], .int .i64 0])) /\ Below w.heap.size w w'
theorem cell_alloc1 {w : World} {p : Addr} {u : Value} (o : Obj) (h : w.cell? p = some u) : (w.alloc o).cell? p = some u := cell_keep (balloc (Below.refl _ _)) h
theorem mv_row {w : World} {m g : Nat} {s c k arg goal : Int} {cn : Bool} {r0 r1 r2 r3 r4 r5 r6 : Value} (h : Blk w m 245 (mvV g s c k cn arg goal r0 r1 r2 r3 r4 r5 r6)) :
  (w.cell? ⟨m, 9, none⟩ = some r0 /\ w.cell? ⟨m, 10, none⟩ = some r1 /\ w.cell? ⟨m, 11, none⟩ = some r2 /\ w.cell? ⟨m, 12, none⟩ = some r3 /\ w.cell? ⟨m, 13, none⟩ = some r4 /\ w.cell? ⟨m, 14, none⟩ = some r5 /\ w.cell? ⟨m, 15, none⟩ = some r6) /\
   (w.cell? ⟨m, 2, none⟩ = some (.int .i64 c) /\ w.cell? ⟨m, 8, none⟩ = some (.bool false)) /\ w.frozen? ⟨m, 2, none⟩ = false /\ w.frozen? ⟨m, 8, none⟩ = false :=
 ⟨⟨h.cell 9, h.cell 10, h.cell 11, h.cell 12, h.cell 13, h.cell 14, h.cell 15⟩, ⟨h.cell 2, h.cell 8⟩, h.frozen 2, h.frozen 8⟩
theorem rowPost_flat {x0 x1 x2 x3 I : Int} {C : List Int} {w w' : World} {e : Ending} (h : RowPost ⟨x0, x1, x2, x3⟩ I C w e w') :
  ∃ A1 n1 c1 A2 n2 c2, e = .returned (.agg #[.int .i64 x0, .int .i64 x1, .int .i64 x2, .int .i64 x3, .int .i64 I, .slice A1 n1 c1, .slice A2 n2 c2]) /\
   RowC w' (fun b => w.heap.size <= b) ⟨x0, x1, x2, x3⟩ I C #[.int .i64 x0, .int .i64 x1, .int .i64 x2, .int .i64 x3, .int .i64 I, .slice A1 n1 c1, .slice A2 n2 c2] /\ Below w.heap.size w w' := by
 obtain ⟨v, h1, h2, h3⟩ := h
 obtain ⟨A1, n1, c1, A2, n2, c2, rfl⟩ := first_v h2
 exact ⟨A1, n1, c1, A2, n2, c2, h1, h2, h3⟩
section
variable {ds : List (Int × Int)} (hp : PosD ds)
include hp
theorem sk_le_of' {m k : Nat} (hm : m <= ds.length) (hk : k <= totE ds) (h : k <= cntE (ds.map Prod.fst) m) : sk ds k <= m := by
 rcases Nat.eq_zero_or_pos k with h0 | h0
 ·subst h0; rw [sk_zero]; omega
 ·obtain ⟨_, h2, h3⟩ := sk_spec hp h0 hk
  rcases Nat.lt_or_ge m (sk ds k) with h4 | h4
  ·have := cntE_lt (ds.map Prod.fst) h4 h2
   omega
  ·exact h4
theorem ofF_frm {at_ : Int} (h0 : 0 <= at_) (h1 : at_ <= (ds.length : Int)) : (lineF ds (ofF ds at_)).from_ <= at_ := by
 rw [line_from ds]
 have h2 := ofF_le ds at_
 have := sk_le_of' hp (m := at_.toNat) (k := ofF ds at_) (by omega) h2 (by
  unfold ofF
  exact cntE_mono _ (Nat.min_le_left _ _))
 omega
end
theorem nextF_le (C : List Int) (p : Nat) : nextF C p <= C.length := by
 rcases Nat.lt_or_ge p C.length with h | h
 ·obtain ⟨j, hj⟩ := inC_ex (C := C) (r := p) (by omega)
  rw [nextF_mk hj h]
  exact mk_le (hj.lt h)
 ·unfold nextF
  rw [if_neg (by omega)]
  exact Nat.le_refl _
noncomputable def putX (ds : List (Int × Int)) (up : Bool) (x : Int) : Int :=
 if up = false /\ (lineF ds (ofF ds x)).from_ < (lineF ds (ofF ds x)).to_ then (lineF ds (ofF ds x)).from_ + (nextF (cont ds (ofF ds x)) (x - (lineF ds (ofF ds x)).from_).toNat : Nat) else x
theorem putX_bd {ds : List (Int × Int)} (hp : PosD ds) (up : Bool) {x : Int} (h0 : 0 <= x) (h1 : x <= (ds.length : Int)) : 0 <= putX ds up x /\ putX ds up x <= (ds.length : Int) := by
 unfold putX
 have h2 := ofF_le ds x
 have hbd := lineF_bd hp h2
 have hcl := cont_len hp h2
 have hnx := nextF_le (cont ds (ofF ds x)) (x - (lineF ds (ofF ds x)).from_).toNat
 split <;> omega
end Go.Proofs.YtgiihhikdoikgaaGreat
