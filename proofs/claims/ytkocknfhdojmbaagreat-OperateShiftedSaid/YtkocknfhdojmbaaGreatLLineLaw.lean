/-
  Of a line: its content has no atom of a break, its break has no other (plain).
-/
import Derived.Test.YtkocknfhdojmbaaGreatLRow
set_option linter.unusedSimpArgs false
set_option linter.unusedVariables false
set_option maxRecDepth 100000
set_option maxHeartbeats 32000000
namespace Go.Proofs.YtkocknfhdojmbaaGreat
open Go.RowKit
def rowIx (ds : List (Int × Int)) (at_ : Int) (past : Bool) : Nat := if past = true then ofF ds at_ else min (ofF ds at_) (countF ds - 1)
theorem countF_pos {ds : List (Int × Int)} : 1 <= countF ds /\ countF ds <= totE ds + 1 := by
 unfold countF
 split
 ·rename_i h
  unfold endB at h
  simp only [decide_eq_true_eq] at h
  have : totE ds ≠ 0 := by
   intro e
   rw [e, sk_zero] at h
   omega
  omega
 ·omega
theorem ofF_le (ds : List (Int × Int)) (at_ : Int) : ofF ds at_ <= totE ds := by
 unfold ofF totE
 exact cntE_mono _ (Nat.min_le_right _ _)
theorem rowIx_le (ds : List (Int × Int)) (at_ : Int) (past : Bool) : rowIx ds at_ past <= totE ds := by
 have h1 := ofF_le ds at_
 unfold rowIx
 split <;> omega
theorem row_fin2 {w w4 : World} {B : Nat} {v : Array Value} {i : Int} {L : Ln} {C : List Int} (hB : w.heap.size < B) (hr : RowC w4 (fun k => B <= k) L i C v) (hw : Below w.heap.size w w4) :
  ∃ A1 n1 c1 A2 n2 c2, v = rowV L i A1 n1 c1 A2 n2 c2 /\ RowPost L i C w (.returned (.agg (rowV L i A1 n1 c1 A2 n2 c2))) (setR w4 w.heap.size L.from_ L.to_ L.next L.brk i (.slice A1 n1 c1) (.slice A2 n2 c2)) := by
 obtain ⟨A1, n1, c1, A2, n2, c2, rfl, h1, h2, h3, h4⟩ := hr
 have hfr := setR_fr w4 w.heap.size L.from_ L.to_ L.next L.brk i (.slice A1 n1 c1) (.slice A2 n2 c2)
 refine ⟨A1, n1, c1, A2, n2, c2, rfl, _, rfl, ⟨A1, n1, c1, A2, n2, c2, rfl, ?_, h2, ?_, h4⟩, bfr hw hfr (fun k hk => by rw [hk]; exact Nat.le_refl _)⟩
 ·exact Reads.more (Reads.fr h1 hfr (fun k hk _ e => by omega)) (fun k hk _ => by omega) (by decide)
 ·exact Reads.more (Reads.fr h3 hfr (fun k hk _ e => by omega)) (fun k hk _ => by omega) (by decide)
theorem row_facts0 {w : World} {b : Nat} (h : Blk w b 186 #[.int .i64 0, .int .i64 0, .int .i64 0, .int .i64 0, .int .i64 0, .slice none 0 0, .slice none 0 0]) :
  (w.cell? ⟨b, 0, none⟩ = some (.int .i64 0) /\ w.cell? ⟨b, 1, none⟩ = some (.int .i64 0) /\ w.cell? ⟨b, 2, none⟩ = some (.int .i64 0) /\ w.cell? ⟨b, 3, none⟩ = some (.int .i64 0) /\ w.cell? ⟨b, 4, none⟩ = some (.int .i64 0) /\
   w.cell? ⟨b, 5, none⟩ = some (.slice none 0 0) /\ w.cell? ⟨b, 6, none⟩ = some (.slice none 0 0)) /\
  w.frozen? ⟨b, 0, none⟩ = false /\ w.frozen? ⟨b, 1, none⟩ = false /\ w.frozen? ⟨b, 2, none⟩ = false /\ w.frozen? ⟨b, 3, none⟩ = false /\ w.frozen? ⟨b, 4, none⟩ = false /\ w.frozen? ⟨b, 5, none⟩ = false /\ w.frozen? ⟨b, 6, none⟩ = false :=
 row_facts (L := ⟨0, 0, 0, 0⟩) (i := 0) (A1 := none) (n1 := 0) (c1 := 0) (A2 := none) (n2 := 0) (c2 := 0) h
theorem rowAt_any (D : Nat -> Prop) (g : Nat) (enc : Int) (ds : List (Int × Int)) (at_ : Int) (past : Bool) (w : World) (h : TextAt w D g enc ds) :
  Calls Tryz.prog 114 #[.pointer (some ⟨g, 0, none⟩), .int .i64 at_, .bool past] w fun e w' => RowPost (lineF ds (rowIx ds at_ past)) (rowIx ds at_ past) (cont ds (rowIx ds at_ past)) w e w' := by
 have hW : Below w.heap.size w (w.alloc (.cells (rowV ⟨0, 0, 0, 0⟩ 0 none 0 0 none 0 0) 186)) := balloc (Below.refl _ w)
 have hR : Blk (w.alloc (.cells (rowV ⟨0, 0, 0, 0⟩ 0 none 0 0 none 0 0) 186)) w.heap.size 186 (rowV ⟨0, 0, 0, 0⟩ 0 none 0 0 none 0 0) := Blk.new w _ _
 have hix := rowIx_le ds at_ past
 have hcp := @countF_pos ds
 have hlen := h.len
 have hT1 : totE ds <= 1073741824 := Nat.le_trans (cntE_le _ _) hlen
 have ho := of_line D g enc ds at_ _ (h.below hW)
 have hc := fun (w' : World) (hb : Below w.heap.size w w') => count_line D g enc ds w' (h.below hb)
 have hn := fun (w' : World) (hb : Below w.heap.size w w') => newRow_any D g enc ds (rowIx ds at_ past) w' (h.below hb) hix
 have hofl := ofF_le ds at_
 have hif : past = false -> min (ofF ds at_ : Int) ((countF ds : Int) - 1) = (rowIx ds at_ past : Int) := by
  intro e
  unfold rowIx
  rw [e]
  simp only [Bool.false_eq_true, if_false]
  omega
 have hit : past = true -> ofF ds at_ = rowIx ds at_ past := by
  intro e
  unfold rowIx
  rw [if_pos e]
 obtain ⟨K, hK⟩ : ∃ K, countF ds = K := ⟨_, rfl⟩
 obtain ⟨V, hV⟩ : ∃ V, ofF ds at_ = V := ⟨_, rfl⟩
 obtain ⟨I, hI⟩ : ∃ I, rowIx ds at_ past = I := ⟨_, rfl⟩
 obtain ⟨T, hT⟩ : ∃ T, totE ds = T := ⟨_, rfl⟩
 rw [hT] at hT1 hix hofl hcp
 rw [hK] at hc hcp hif
 rw [hV] at ho hif hit hofl
 rw [hI] at hn hix hif hit ⊢
 obtain ⟨C, hC⟩ : ∃ C, cont ds I = C := ⟨_, rfl⟩
 obtain ⟨L, hL⟩ : ∃ L, lineF ds I = L := ⟨_, rfl⟩
 rw [hC, hL] at hn ⊢
 have HC := Lib.hid hc
 have HO := Lib.hid ho
 have HN := Lib.hid hn
 have HIF := Lib.hid hif
 have HIT := Lib.hid hit
 clear hc ho hn hif hit hK hV hI hT hC hL
 simp only [rowV] at hW hR
 go_enter Tryz.func114, Tryz.ntmps114
 go_wp2_with fail
 refine (HO.out).mono ?_
 rintro e w1 ⟨rfl, hb1⟩
 have hW1 := bseq hW hb1
 have hR1 := hR.below hb1
 cases past
 ·go_wp2_with fail
  refine (HC.out _ hW1).mono ?_
  rintro e w2 ⟨rfl, hb2⟩
  have hW2 := bseq hW1 hb2
  have hR2 := hR1.below hb2
  go_wp2_with fail
  all_goals
   have hmin := HIF.out trivial
   first
    | rw [show (K : Int) - 1 = (I : Int) by omega]
    | rw [show (V : Int) = (I : Int) by omega]
   clear hmin
   refine (HN.out _ hW2).mono ?_
   rintro e w3 ⟨v, rfl, hrow, hb3⟩
   have hW3 := bseq hW2 hb3
   have hz : w.heap.size < w2.heap.size := hR2.lt
   obtain ⟨A1, n1, c1, A2, n2, c2, rfl, hfin⟩ := row_fin2 hz hrow hW3
   unfold setR at hfin
   have HF := Lib.hid hfin
   obtain ⟨⟨j0, j1, j2, j3, j4, j5, j6⟩, v0, v1, v2, v3, v4, v5, v6⟩ := row_facts0 (hR2.below hb3)
   unfold rowV
   clear hfin hrow
   go_wp2_with fail
   refine bodyPost_ret (v := .agg (rowV L I A1 n1 c1 A2 n2 c2)) (by simp [results, Tryz.results114, go_sem, rowV, j0, j1, j2, j3, j4, j5, j6]) rfl ?_
   with_reducible exact HF.out
 ·go_wp2_with fail
  rw [show (V : Int) = (I : Int) by rw [HIT.out trivial]]
  refine (HN.out _ hW1).mono ?_
  rintro e w3 ⟨v, rfl, hrow, hb3⟩
  have hW3 := bseq hW1 hb3
  have hz : w.heap.size < w1.heap.size := hR1.lt
  obtain ⟨A1, n1, c1, A2, n2, c2, rfl, hfin⟩ := row_fin2 hz hrow hW3
  unfold setR at hfin
  have HF := Lib.hid hfin
  obtain ⟨⟨j0, j1, j2, j3, j4, j5, j6⟩, v0, v1, v2, v3, v4, v5, v6⟩ := row_facts0 (hR1.below hb3)
  unfold rowV
  clear hfin hrow
  go_wp2_with fail
  refine bodyPost_ret (v := .agg (rowV L I A1 n1 c1 A2 n2 c2)) (by simp [results, Tryz.results114, go_sem, rowV, j0, j1, j2, j3, j4, j5, j6]) rfl ?_
  with_reducible exact HF.out
theorem clusters_any (L : Ln) (i : Int) (A1 A2 : Option Addr) (n1 c1 n2 c2 : Nat) (w : World) (hn : n2 <= 2147483648) (h1 : 1 <= n2) :
  Calls Tryz.prog 112 #[.agg (rowV L i A1 n1 c1 A2 n2 c2)] w fun e w' => e = .returned (.int .i64 ((n2 - 1 : Nat) : Int)) /\ Below w.heap.size w w' := by
 have hW : Below w.heap.size w (w.alloc (.cells (rowV L i A1 n1 c1 A2 n2 c2) 186)) := balloc (Below.refl _ w)
 have hq : IntKind.i64.wrap ((n2 : Int) - 1) = ((n2 - 1 : Nat) : Int) := by rw [IntWalk.i64_in _ (by omega)]; omega
 unfold rowV at hW ⊢
 go_enter Tryz.func112, Tryz.ntmps112
 go_wp2_with fail
 go_ret
 exact ⟨ret_i (by omega), hW⟩
theorem ints_form {w : World} {D : Nat -> Prop} {A : Option Addr} {n : Nat} {l : List Int} (h : Ints w D A n l) (hn : 0 < n) :
  ∃ b off, A = some ⟨b, off, none⟩ /\ D b /\ ∀ k, k < n -> w.cell? ⟨b, off + k, none⟩ = some (.int .i64 (l.getD k 0)) := by
 have hlen := h.len
 obtain ⟨b, off, e, hD, hc⟩ := Reads.form h hn (by decide)
 refine ⟨b, off, e, hD, fun k hk => hc k _ ?_⟩
 rw [List.getElem?_map, List.getD_eq_getElem?_getD, List.getElem?_eq_getElem (by omega)]
 rfl
theorem keep8 {w w1 : World} {b b' o : Nat} {u0 u1 u2 u3 u4 u5 u6 u : Value} (hb : Below w.heap.size w w1) (h : w.cell? ⟨b, 0, none⟩ = some u0 /\ w.cell? ⟨b, 1, none⟩ = some u1 /\ w.cell? ⟨b, 2, none⟩ = some u2 /\ w.cell? ⟨b, 3, none⟩ = some u3 /\ w.cell? ⟨b, 4, none⟩ = some u4 /\ w.cell? ⟨b, 5, none⟩ = some u5 /\ w.cell? ⟨b, 6, none⟩ = some u6 /\ w.cell? ⟨b', o, none⟩ = some u) :
  w1.cell? ⟨b, 0, none⟩ = some u0 /\ w1.cell? ⟨b, 1, none⟩ = some u1 /\ w1.cell? ⟨b, 2, none⟩ = some u2 /\ w1.cell? ⟨b, 3, none⟩ = some u3 /\ w1.cell? ⟨b, 4, none⟩ = some u4 /\ w1.cell? ⟨b, 5, none⟩ = some u5 /\ w1.cell? ⟨b, 6, none⟩ = some u6 /\ w1.cell? ⟨b', o, none⟩ = some u :=
 ⟨cell_keep hb h.1, cell_keep hb h.2.1, cell_keep hb h.2.2.1, cell_keep hb h.2.2.2.1, cell_keep hb h.2.2.2.2.1, cell_keep hb h.2.2.2.2.2.1, cell_keep hb h.2.2.2.2.2.2.1, cell_keep hb h.2.2.2.2.2.2.2⟩
theorem place_any (D : Nat -> Prop) (L : Ln) (i : Int) (C : List Int) (v : Array Value) (k : Int) (w : World) (h : RowC w D L i C v) (hL : 0 <= L.from_ /\ L.from_ <= 1073741824) (hn : (allB C).length <= 1073741825) (hB : ∀ x ∈ allB C, 0 <= x /\ x <= 1073741824) (hk0 : 0 <= k) (hk : k < ((allB C).length : Int)) :
  Calls Tryz.prog 113 #[.agg v, .int .i64 k] w fun e w' => e = .returned (.int .i64 (L.from_ + (allB C).getD k.toNat 0)) /\ Below w.heap.size w w' := by
 obtain ⟨A1, n1, c1, A2, n2, c2, rfl, h1, h2, h3, h4⟩ := h
 obtain ⟨x0, x1, x2, x3⟩ := L
 dsimp only at hL ⊢
 have hlen := h3.len
 have hpos : 0 < (allB C).length := by simp [allB]
 obtain ⟨b, off, rfl, hD, hcell⟩ := ints_form h3 (by omega)
 have hc := hcell k.toNat (by omega)
 have hmb : 0 <= (allB C).getD k.toNat 0 /\ (allB C).getD k.toNat 0 <= 1073741824 := by
  rw [List.getD_eq_getElem?_getD, List.getElem?_eq_getElem (by omega)]
  exact hB _ (List.getElem_mem _)
 obtain ⟨m, hm⟩ : ∃ m, (allB C).getD k.toNat 0 = m := ⟨_, rfl⟩
 rw [hm] at hc hmb ⊢
 obtain ⟨j, hj⟩ : ∃ j : Nat, k.toNat = j := ⟨_, rfl⟩
 rw [hj] at hc
 have hj2 : j <= n2 - 1 := by omega
 have hcl := fun (w' : World) => clusters_any ⟨x0, x1, x2, x3⟩ i A1 (some ⟨b, off, none⟩) n1 c1 n2 c2 w' (by omega) (by omega)
 obtain ⟨N, hN⟩ : ∃ N, n2 - 1 = N := ⟨_, rfl⟩
 rw [hN] at hcl hj2
 have hjn : (j : Int) < (n2 : Int) := by omega
 have hj0 : (0 : Int) <= (j : Int) := by omega
 have hjc : (j : Int) <= (N : Int) := by omega
 have hwr : IntKind.i64.wrap (x0 + m) = x0 + m := IntWalk.i64_in _ (by omega)
 have hkk : k = (j : Int) := by omega
 have hb0 := Blk.new w 186 (rowV ⟨x0, x1, x2, x3⟩ i A1 n1 c1 (some ⟨b, off, none⟩) n2 c2)
 obtain ⟨⟨g0, g1, g2, g3, g4, g5, g6⟩, _⟩ := row_facts hb0
 have hcw := cell_keep (balloc (o := .cells (rowV ⟨x0, x1, x2, x3⟩ i A1 n1 c1 (some ⟨b, off, none⟩) n2 c2) 186) (Below.refl _ w)) hc
 have hW : Below w.heap.size w (w.alloc (.cells (rowV ⟨x0, x1, x2, x3⟩ i A1 n1 c1 (some ⟨b, off, none⟩) n2 c2) 186)) := balloc (Below.refl _ w)
 unfold rowV at hcl g0 g1 g2 g3 g4 g5 g6 hcw hW
 dsimp only at hcl g0 g1 g2 g3 g4 g5 g6 hcw hW
 have HCL := Lib.hid hcl
 have HW := Lib.hid hW
 have hS := And.intro g0 (And.intro g1 (And.intro g2 (And.intro g3 (And.intro g4 (And.intro g5 (And.intro g6 hcw))))))
 clear hcl hm hj hN hlen hpos hcell hB hb0 h1 h3 hW
 subst hkk
 ·have hz2 : ((N : Int) < (j : Int)) = False := by simp; omega
  have hz3 : (N < j) = False := by simp; omega
  have hz4 : ((j : Int) < 0) = False := by simp
  unfold rowV
  go_enter Tryz.func113, Tryz.ntmps113
  go_upto_region 1 with fail
  go_cut [4] (fun s4 wx => s4 = .int .i64 (x0 + m) /\ Below w.heap.size w wx)
  case first =>
   have hSd := keep8 (Below.drew (Below.refl _ _)) hS
   go_region_held3 (fun w' => w'.cell? ⟨w.heap.size, 0, none⟩ = some (.int .i64 x0) /\ w'.cell? ⟨w.heap.size, 1, none⟩ = some (.int .i64 x1) /\ w'.cell? ⟨w.heap.size, 2, none⟩ = some (.int .i64 x2) /\ w'.cell? ⟨w.heap.size, 3, none⟩ = some (.int .i64 x3) /\ w'.cell? ⟨w.heap.size, 4, none⟩ = some (.int .i64 i) /\ w'.cell? ⟨w.heap.size, 5, none⟩ = some (.slice A1 n1 c1) /\ w'.cell? ⟨w.heap.size, 6, none⟩ = some (.slice (some ⟨b, off, none⟩) n2 c2) /\ w'.cell? ⟨b, off + j, none⟩ = some (.int .i64 m)) (first | (with_reducible assumption) | (with_reducible exact hSd)) (first | (go_at_call 112; refine (HCL.out _).mono ?_; rintro e w1 ⟨rfl, hb1⟩; have s1 := keep8 (bdrew hb1) hS))
   all_goals
    go_wp2_with fail
    go_meet
    exact ⟨rfl, bseq HW.out (bdrew hb1)⟩
  case rest =>
   obtain ⟨rfl, hb⟩ := hcut
   go_wp2_with fail
   go_ret
   exact ⟨rfl, hb⟩
structure ColOk (F at_ : Int) (M : List Int) (j : Nat) : Prop where
 lt : j < M.length
 low : j = 0 \/ F + M.getD j 0 <= at_
 high : ∀ k, j < k -> k < M.length -> at_ < F + M.getD k 0
def ColR (F at_ : Int) (M : List Int) (cs : Array Value) (w : World) (k : Nat) (q5 q6 : Value) (wr : World) : Prop :=
 ∃ lo hi : Nat, q5 = .int .i64 (lo : Int) /\ q6 = .int .i64 (hi : Int) /\ lo <= hi /\ hi < M.length /\ Hid (lo = 0 \/ F + M.getD lo 0 <= at_) /\ Hid (∀ j, hi < j -> j < M.length -> at_ < F + M.getD j 0) /\ hi - lo <= k /\
  Below w.heap.size w wr /\ Blk wr w.heap.size 186 cs
theorem column_any (D : Nat -> Prop) (L : Ln) (i : Int) (C : List Int) (v : Array Value) (at_ : Int) (w : World) (h : RowC w D L i C v) (hL : 0 <= L.from_ /\ L.from_ <= 1073741824) (hn : (allB C).length <= 1073741825) (hB : ∀ x ∈ allB C, 0 <= x /\ x <= 1073741824)
  (hs : ∀ a b, a <= b -> b < (allB C).length -> (allB C).getD a 0 <= (allB C).getD b 0) :
  Calls Tryz.prog 115 #[.agg v, .int .i64 at_] w fun e w' => (∃ j : Nat, e = .returned (.int .i64 (j : Int)) /\ ColOk L.from_ at_ (allB C) j) /\ Below w.heap.size w w' := by
 obtain ⟨A1, n1, c1, A2, n2, c2, rfl, h1, h2, h3, h4⟩ := h
 obtain ⟨x0, x1, x2, x3⟩ := L
 dsimp only at hL ⊢
 have hlen := h3.len
 have hpos : 0 < (allB C).length := by simp [allB]
 obtain ⟨b, off, rfl, hD, hcell⟩ := ints_form h3 (by omega)
 obtain ⟨M, hM⟩ : ∃ M, allB C = M := ⟨_, rfl⟩
 rw [hM] at hcell hB hs hn hlen hpos ⊢
 clear hM h1 h3
 have hcl := fun (w' : World) => clusters_any ⟨x0, x1, x2, x3⟩ i A1 (some ⟨b, off, none⟩) n1 c1 n2 c2 w' (by omega) (by omega)
 have hW : Below w.heap.size w (w.alloc (.cells (rowV ⟨x0, x1, x2, x3⟩ i A1 n1 c1 (some ⟨b, off, none⟩) n2 c2) 186)) := balloc (Below.refl _ w)
 have hb0 := Blk.new w 186 (rowV ⟨x0, x1, x2, x3⟩ i A1 n1 c1 (some ⟨b, off, none⟩) n2 c2)
 obtain ⟨N, hN⟩ : ∃ N, n2 - 1 = N := ⟨_, rfl⟩
 rw [hN] at hcl
 have HCE := Lib.hid hcell
 have HBB := Lib.hid hB
 have HSS := Lib.hid hs
 clear hcell hB hs
 unfold rowV at hcl hW ⊢
 dsimp only at hcl hW ⊢
 have HCL := Lib.hid hcl
 clear hcl
 go_enter Tryz.func115, Tryz.ntmps115
 go_wp2_with fail
 refine (HCL.out _).mono ?_
 rintro e w1 ⟨rfl, hb1⟩
 have hW1 := bseq hW hb1
 have hB1 := hb0.below hb1
 go_wp2_with fail
 go_loopg [5, 6] N (fun k p q wr => ColR x0 at_ M (rowV ⟨x0, x1, x2, x3⟩ i A1 n1 c1 (some ⟨b, off, none⟩) n2 c2) w k p q wr)
 case atStart => exact ⟨0, N, rfl, rfl, by omega, by omega, Lib.hid (.inl rfl), Lib.hid (fun j h1 h2 => absurd h1 (by omega)), by omega, hW1, hB1⟩
 case round =>
  obtain ⟨lo, hi, rfl, rfl, hle, hhi, hlo, hup, hk, hw, hbk⟩ := hrel
  by_cases hlt : lo < hi
  ·obtain ⟨m, hm⟩ : ∃ m, (lo + hi + 1) / 2 = m := ⟨_, rfl⟩
   have hm2 : ((lo : Int) + (hi : Int) + 1) / 2 = (m : Int) := by omega
   have hmb : lo < m /\ m <= hi := by omega
   have hcm := cell_keep hw (HCE.out m (by omega))
   have hmx : 0 <= M.getD m 0 /\ M.getD m 0 <= 1073741824 := by
    rw [List.getD_eq_getElem?_getD, List.getElem?_eq_getElem (by omega)]
    exact HBB.out _ (List.getElem_mem _)
   obtain ⟨y, hy⟩ : ∃ y, M.getD m 0 = y := ⟨_, rfl⟩
   rw [hy] at hcm hmx
   obtain ⟨⟨g0, g1, g2, g3, g4, g5, g6⟩, _⟩ := row_facts hbk
   dsimp only at g0
   have hy' := Lib.hid hy
   have hwr : IntKind.i64.wrap (x0 + y) = x0 + y := IntWalk.i64_in _ (by omega)
   have z1 : (0 : Int) <= (m : Int) := by omega
   have z2 : (m : Int) < (n2 : Int) := by omega
   clear hy
   dsimp only at g1 g2 g3
   by_cases hc : x0 + y <= at_
   ·go_upto_region 4 with fail
    go_quiet (fail)
    go_wp2_with fail
    go_roundg (hi - m)
    case measure => omega
    case rel => exact ⟨m, hi, by go_num, rfl, by omega, hhi, Lib.hid (.inr (by rw [hy'.out]; exact hc)), hup, by omega, below_drewN hw _, hbk.drewN _⟩
   ·go_upto_region 4 with fail
    go_quiet (fail)
    go_wp2_with fail
    go_roundg (m - 1 - lo)
    case measure => omega
    case rel =>
     refine ⟨lo, m - 1, rfl, by go_num, by omega, by omega, hlo, Lib.hid (fun j h1 h2 => ?_), by omega, below_drewN hw _, hbk.drewN _⟩
     have := HSS.out m j (by omega) h2
     rw [hy'.out] at this
     omega
  ·have hee : lo = hi := by omega
   subst hee
   go_wp2_with fail
   go_ret
   exact ⟨⟨lo, rfl, hhi, hlo.out, hup.out⟩, hw⟩
theorem line_from (ds : List (Int × Int)) (i : Nat) : (lineF ds i).from_ = (sk ds i : Int) := by
 unfold lineF
 split
 ·unfold closedF
  split
  ·rfl
  ·split <;> rfl
 ·rfl
theorem line_sk_le {ds : List (Int × Int)} (hp : PosD ds) {m k : Nat} (hm : m <= ds.length) (hk : k <= totE ds) (h : k <= cntE (ds.map Prod.fst) m) : sk ds k <= m := by
 rcases Nat.eq_zero_or_pos k with h0 | h0
 ·subst h0; rw [sk_zero]; omega
 ·obtain ⟨_, h2, h3⟩ := sk_spec hp h0 hk
  rcases Nat.lt_or_ge m (sk ds k) with h4 | h4
  ·have := cntE_lt (ds.map Prod.fst) h4 h2
   omega
  ·exact h4
theorem isE_no {A : List Int} {p : Nat} (h : isE A (p + 1) = false) (hp : p < A.length) : A.getD p 0 ≠ 10 /\ (A.getD p 0 = 13 -> p + 1 < A.length /\ A.getD (p + 1) 0 = 10) := by
 unfold isE at h
 rw [decide_eq_false_iff_not] at h
 simp only [Nat.add_sub_cancel] at h
 have h1 : ¬ (A.getD p 0 = 10 \/ (A.getD p 0 = 13 /\ ¬ (p + 1 < A.length /\ A.getD (p + 1) 0 = 10))) := fun hh => h ⟨by omega, by omega, hh⟩
 rw [not_or] at h1
 refine ⟨h1.1, fun h13 => ?_⟩
 exact Decidable.byContradiction fun hn => h1.2 ⟨h13, hn⟩
theorem isE_lf {A : List Int} {p : Nat} (hp : p < A.length) (h : A.getD p 0 = 10) : isE A (p + 1) = true := by
 unfold isE
 rw [decide_eq_true_eq]
 simp only [Nat.add_sub_cancel]
 exact ⟨by omega, by omega, .inl h⟩
theorem isE_brk {A : List Int} {p : Nat} (h : isE A p = true) : A.getD (p - 1) 0 = 10 \/ A.getD (p - 1) 0 = 13 := by
 unfold isE at h
 rw [decide_eq_true_eq] at h
 omega
section
variable {ds : List (Int × Int)} (hp : PosD ds)
include hp
theorem line_noE {i q : Nat} (hi : i <= totE ds) (h0 : sk ds i < q) (h1 : if i < totE ds then q < sk ds (i + 1) else q <= ds.length) : isE (ds.map Prod.fst) q = false := by
 rcases hb : isE (ds.map Prod.fst) q with _ | _
 ·rfl
 ·exfalso
  have hc := sk_cnt hp hi
  have a1 := cntE_lt (ds.map Prod.fst) h0 hb
  rw [hc.2.1] at a1
  split at h1
  ·rename_i hlt
   have hs := sk_spec hp (k := i + 1) (by omega) hlt
   have a2 := cntE_lt (ds.map Prod.fst) h1 hs.2.1
   rw [hs.2.2] at a2
   omega
  ·have a2 := cntE_mono (ds.map Prod.fst) h1
   have : totE ds = cntE (ds.map Prod.fst) ds.length := rfl
   omega
theorem line_form {i : Nat} (hi : i <= totE ds) : (∀ p : Nat, (lineF ds i).from_ <= p -> (p : Int) < (lineF ds i).to_ -> (ds.map Prod.fst).getD p 0 ≠ 10 /\ (ds.map Prod.fst).getD p 0 ≠ 13) /\
  (∀ p : Nat, (lineF ds i).to_ <= p -> (p : Int) < (lineF ds i).next -> (ds.map Prod.fst).getD p 0 = 10 \/ (ds.map Prod.fst).getD p 0 = 13) /\
  (i < totE ds -> (lineF ds i).to_ < (lineF ds i).next /\ (lineF ds i).next = (lineF ds (i + 1)).from_) := by
 have hno := fun q => line_noE hp (q := q) hi
 have hl : (ds.map Prod.fst).length = ds.length := List.length_map ..
 have hc := sk_cnt hp hi
 have hfr := line_from ds (i + 1)
 obtain ⟨A, hA⟩ : ∃ A, ds.map Prod.fst = A := ⟨_, rfl⟩
 by_cases hlt : i < totE ds
 ·have hs := sk_spec hp (k := i + 1) (by omega) hlt
  have hsl := sk_lt hp hlt
  have hle := isE_le hs.2.1
  have hbr := isE_brk hs.2.1
  simp only [if_pos hlt] at hno
  have hF : lineF ds i = closedF (ds.map Prod.fst) (sk ds i) (sk ds (i + 1)) := by unfold lineF; rw [if_pos hlt]
  rw [hF, hfr]
  rw [hA] at hno hl hs hle hbr ⊢
  have key : ∀ p, sk ds i <= p -> p + 1 < sk ds (i + 1) -> A.getD p 0 ≠ 10 /\ (A.getD p 0 = 13 -> p + 2 = sk ds (i + 1) /\ A.getD (p + 1) 0 = 10) := fun p h1 h2 => by
   have k1 := isE_no (hno (p + 1) (by omega) h2) (by omega)
   refine ⟨k1.1, fun h13 => ?_⟩
   obtain ⟨k2, k3⟩ := k1.2 h13
   refine ⟨?_, k3⟩
   have k4 := isE_lf k2 k3
   rcases Nat.lt_or_ge (p + 2) (sk ds (i + 1)) with k5 | k5
   ·have := hno (p + 2) (by omega) k5
    rw [this] at k4
    cases k4
   ·omega
  unfold closedF
  split
  ·rename_i h13
   refine ⟨fun p h1 h2 => ?_, fun p h1 h2 => ?_, fun _ => ?_⟩
   ·dsimp only at h1 h2
    have k := key p (by omega) (by omega)
    refine ⟨k.1, fun e => ?_⟩
    have k2 := k.2 e
    have : p + 1 = sk ds (i + 1) - 1 := by omega
    rw [this] at k2
    omega
   ·dsimp only at h1 h2
    have : p = sk ds (i + 1) - 1 := by omega
    rw [this]
    exact .inr h13
   ·dsimp only
    omega
  ·rename_i hn13
   have h10 : A.getD (sk ds (i + 1) - 1) 0 = 10 := by omega
   split
   ·rename_i h2c
    refine ⟨fun p h1 h2 => ?_, fun p h1 h2 => ?_, fun _ => ?_⟩
    ·dsimp only at h1 h2
     have k := key p (by omega) (by omega)
     refine ⟨k.1, fun e => ?_⟩
     have k2 := k.2 e
     omega
    ·dsimp only at h1 h2
     rcases Nat.lt_or_ge p (sk ds (i + 1) - 1) with h3 | h3
     ·have : p = sk ds (i + 1) - 2 := by omega
      rw [this]
      exact .inr h2c.2
     ·have : p = sk ds (i + 1) - 1 := by omega
      rw [this]
      exact .inl h10
    ·dsimp only
     omega
   ·rename_i h3c
    refine ⟨fun p h1 h2 => ?_, fun p h1 h2 => ?_, fun _ => ?_⟩
    ·dsimp only at h1 h2
     have k := key p (by omega) (by omega)
     refine ⟨k.1, fun e => ?_⟩
     have k2 := k.2 e
     apply h3c
     refine ⟨by omega, ?_⟩
     have : sk ds (i + 1) - 2 = p := by omega
     rw [this]
     exact e
    ·dsimp only at h1 h2
     have : p = sk ds (i + 1) - 1 := by omega
     rw [this]
     exact .inl h10
    ·dsimp only
     omega
 ·simp only [if_neg hlt] at hno
  have hF : lineF ds i = ⟨sk ds i, ds.length, ds.length, 0⟩ := by unfold lineF; rw [if_neg hlt]
  rw [hF]
  have htt : totE ds = i := by omega
  rw [hA] at hno hl ⊢
  refine ⟨fun p h1 h2 => ?_, fun p h1 h2 => ?_, fun h => absurd h hlt⟩
  ·dsimp only at h1 h2
   have k1 := isE_no (hno (p + 1) (by omega) (by omega)) (by omega)
   refine ⟨k1.1, fun h13 => ?_⟩
   obtain ⟨k2, k3⟩ := k1.2 h13
   have k4 := isE_lf k2 k3
   have := hno (p + 2) (by omega) (by omega)
   rw [this] at k4
   cases k4
  ·dsimp only at h1 h2
   omega
end
end Go.Proofs.YtkocknfhdojmbaaGreat
