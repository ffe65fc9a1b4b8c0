/-
  The walks of package motion, second part: rowAt. The walks of package motion, third part: clusters, place. The walks of package motion, fourth part: column. The walks of package motion, fifth part: first, kind. The boundaries of clusters: what the list of them is. (Plain.) The walks of package motion, sixth part: a row's contracts in the words of Marks.
-/
import Derived.Test.YteekabaoocaghaaGreatLCluster6
set_option linter.unusedSimpArgs false
set_option linter.unusedVariables false
namespace Go.Proofs.YteekabaoocaghaaGreat
open Go.RowKit

/-- the number of the line that rowAt takes -/
def rowIx (ds : List (Int × Int)) (at_ : Int) (past : Bool) : Nat := if past = true then ofF ds at_ else min (ofF ds at_) (countF ds - 1)
theorem countF_pos {ds : List (Int × Int)} : 1 ≤ countF ds ∧ countF ds ≤ totE ds + 1 := by
  unfold countF
  split
  · rename_i h
    unfold endB at h
    simp only [decide_eq_true_eq] at h
    have : totE ds ≠ 0 := by
      intro e
      rw [e, sk_zero] at h
      omega
    omega
  · omega
theorem ofF_le (ds : List (Int × Int)) (at_ : Int) : ofF ds at_ ≤ totE ds := by
  unfold ofF totE
  exact cntE_mono _ (Nat.min_le_right _ _)
theorem rowIx_le (ds : List (Int × Int)) (at_ : Int) (past : Bool) : rowIx ds at_ past ≤ totE ds := by
  have h1 := ofF_le ds at_
  unfold rowIx
  split <;> omega
theorem row_fin2 {w w4 : World} {B : Nat} {v : Array Value} {i : Int} {L : Ln} {C : List Int} (hB : w.heap.size < B) (hr : RowC w4 (fun k => B ≤ k) L i C v) (hw : Below w.heap.size w w4) :
    ∃ A1 n1 c1 A2 n2 c2, v = rowV L i A1 n1 c1 A2 n2 c2 ∧ RowPost L i C w (.returned (.agg (rowV L i A1 n1 c1 A2 n2 c2))) (setR w4 w.heap.size L.from_ L.to_ L.next L.brk i (.slice A1 n1 c1) (.slice A2 n2 c2)) := by
  obtain ⟨A1, n1, c1, A2, n2, c2, rfl, h1, h2, h3, h4⟩ := hr
  have hfr := setR_fr w4 w.heap.size L.from_ L.to_ L.next L.brk i (.slice A1 n1 c1) (.slice A2 n2 c2)
  refine ⟨A1, n1, c1, A2, n2, c2, rfl, _, rfl, ⟨A1, n1, c1, A2, n2, c2, rfl, ?_, h2, ?_, h4⟩, bfr hw hfr (fun k hk => by rw [hk]; exact Nat.le_refl _)⟩
  · exact Reads.more (Reads.fr h1 hfr (fun k hk _ e => by omega)) (fun k hk _ => by omega) (by decide)
  · exact Reads.more (Reads.fr h3 hfr (fun k hk _ e => by omega)) (fun k hk _ => by omega) (by decide)
theorem row_facts0 {w : World} {b : Nat} (h : Blk w b 194 #[.int .i64 0, .int .i64 0, .int .i64 0, .int .i64 0, .int .i64 0, .slice none 0 0, .slice none 0 0]) :
    (w.cell? ⟨b, 0, none⟩ = some (.int .i64 0) ∧ w.cell? ⟨b, 1, none⟩ = some (.int .i64 0) ∧ w.cell? ⟨b, 2, none⟩ = some (.int .i64 0) ∧ w.cell? ⟨b, 3, none⟩ = some (.int .i64 0) ∧ w.cell? ⟨b, 4, none⟩ = some (.int .i64 0) ∧
      w.cell? ⟨b, 5, none⟩ = some (.slice none 0 0) ∧ w.cell? ⟨b, 6, none⟩ = some (.slice none 0 0)) ∧
    w.frozen? ⟨b, 0, none⟩ = false ∧ w.frozen? ⟨b, 1, none⟩ = false ∧ w.frozen? ⟨b, 2, none⟩ = false ∧ w.frozen? ⟨b, 3, none⟩ = false ∧ w.frozen? ⟨b, 4, none⟩ = false ∧ w.frozen? ⟨b, 5, none⟩ = false ∧ w.frozen? ⟨b, 6, none⟩ = false :=
  row_facts (L := ⟨0, 0, 0, 0⟩) (i := 0) (A1 := none) (n1 := 0) (c1 := 0) (A2 := none) (n2 := 0) (c2 := 0) h
set_option maxRecDepth 100000 in
set_option maxHeartbeats 1000000 in
theorem rowAt_any (D : Nat → Prop) (g : Nat) (enc : Int) (ds : List (Int × Int)) (at_ : Int) (past : Bool) (w : World) (h : TextAt w D g enc ds) :
    Calls Tryz.prog 98 #[.pointer (some ⟨g, 0, none⟩), .int .i64 at_, .bool past] w fun e w' => RowPost (lineF ds (rowIx ds at_ past)) (rowIx ds at_ past) (cont ds (rowIx ds at_ past)) w e w' := by
  have hW : Below w.heap.size w (w.alloc (.cells (rowV ⟨0, 0, 0, 0⟩ 0 none 0 0 none 0 0) 194)) := balloc (Below.refl _ w)
  have hR : Blk (w.alloc (.cells (rowV ⟨0, 0, 0, 0⟩ 0 none 0 0 none 0 0) 194)) w.heap.size 194 (rowV ⟨0, 0, 0, 0⟩ 0 none 0 0 none 0 0) := Blk.new w _ _
  have hix := rowIx_le ds at_ past
  have hcp := @countF_pos ds
  have hlen := h.len
  have hT1 : totE ds ≤ 1073741824 := Nat.le_trans (cntE_le _ _) hlen
  have ho := of_line D g enc ds at_ _ (h.below hW)
  have hc := fun (w' : World) (hb : Below w.heap.size w w') => count_line D g enc ds w' (h.below hb)
  have hn := fun (w' : World) (hb : Below w.heap.size w w') => newRow_any D g enc ds (rowIx ds at_ past) w' (h.below hb) hix
  have hofl := ofF_le ds at_
  have hif : past = false → min (ofF ds at_ : Int) ((countF ds : Int) - 1) = (rowIx ds at_ past : Int) := by
    intro e
    unfold rowIx
    rw [e]
    simp only [Bool.false_eq_true, if_false]
    omega
  have hit : past = true → ofF ds at_ = rowIx ds at_ past := by
    intro e
    unfold rowIx
    rw [if_pos e]
  obtain ⟨K, hK⟩ : ∃ K, countF ds = K := ⟨_, rfl⟩
  obtain ⟨V, hV⟩ : ∃ V, ofF ds at_ = V := ⟨_, rfl⟩
  obtain ⟨I, hI⟩ : ∃ I, rowIx ds at_ past = I := ⟨_, rfl⟩
  obtain ⟨T, hT⟩ : ∃ T, totE ds = T := ⟨_, rfl⟩
  rw [hT] at hT1 hix hofl hcp
  rw [hK] at hc hcp hif
  rw [hV] at ho hif hit hofl
  rw [hI] at hn hix hif hit ⊢
  obtain ⟨C, hC⟩ : ∃ C, cont ds I = C := ⟨_, rfl⟩
  obtain ⟨L, hL⟩ : ∃ L, lineF ds I = L := ⟨_, rfl⟩
  rw [hC, hL] at hn ⊢
  have HC := Lib.hid hc
  have HO := Lib.hid ho
  have HN := Lib.hid hn
  have HIF := Lib.hid hif
  have HIT := Lib.hid hit
  clear hc ho hn hif hit hK hV hI hT hC hL
  simp only [rowV] at hW hR
  go_enter Tryz.func98, Tryz.ntmps98
  go_wp2_with fail
  refine (HO.out).mono ?_
  rintro e w1 ⟨rfl, hb1⟩
  have hW1 := bseq hW hb1
  have hR1 := hR.below hb1
  cases past
  · go_wp2_with fail
    refine (HC.out _ hW1).mono ?_
    rintro e w2 ⟨rfl, hb2⟩
    have hW2 := bseq hW1 hb2
    have hR2 := hR1.below hb2
    go_wp2_with fail
    all_goals
      have hmin := HIF.out trivial
      first
        | rw [show (K : Int) - 1 = (I : Int) by omega]
        | rw [show (V : Int) = (I : Int) by omega]
      clear hmin
      refine (HN.out _ hW2).mono ?_
      rintro e w3 ⟨v, rfl, hrow, hb3⟩
      have hW3 := bseq hW2 hb3
      have hz : w.heap.size < w2.heap.size := hR2.lt
      obtain ⟨A1, n1, c1, A2, n2, c2, rfl, hfin⟩ := row_fin2 hz hrow hW3
      unfold setR at hfin
      have HF := Lib.hid hfin
      obtain ⟨⟨j0, j1, j2, j3, j4, j5, j6⟩, v0, v1, v2, v3, v4, v5, v6⟩ := row_facts0 (hR2.below hb3)
      unfold rowV
      clear hfin hrow
      go_wp2_with fail
      refine bodyPost_ret (v := .agg (rowV L I A1 n1 c1 A2 n2 c2)) (by simp [results, Tryz.results98, go_sem, rowV, j0, j1, j2, j3, j4, j5, j6]) rfl ?_
      with_reducible exact HF.out
  · go_wp2_with fail
    rw [show (V : Int) = (I : Int) by rw [HIT.out trivial]]
    refine (HN.out _ hW1).mono ?_
    rintro e w3 ⟨v, rfl, hrow, hb3⟩
    have hW3 := bseq hW1 hb3
    have hz : w.heap.size < w1.heap.size := hR1.lt
    obtain ⟨A1, n1, c1, A2, n2, c2, rfl, hfin⟩ := row_fin2 hz hrow hW3
    unfold setR at hfin
    have HF := Lib.hid hfin
    obtain ⟨⟨j0, j1, j2, j3, j4, j5, j6⟩, v0, v1, v2, v3, v4, v5, v6⟩ := row_facts0 (hR1.below hb3)
    unfold rowV
    clear hfin hrow
    go_wp2_with fail
    refine bodyPost_ret (v := .agg (rowV L I A1 n1 c1 A2 n2 c2)) (by simp [results, Tryz.results98, go_sem, rowV, j0, j1, j2, j3, j4, j5, j6]) rfl ?_
    with_reducible exact HF.out
end Go.Proofs.YteekabaoocaghaaGreat
namespace Go.Proofs.YteekabaoocaghaaGreat
open Go.RowKit

set_option maxRecDepth 100000 in
theorem clusters_any (L : Ln) (i : Int) (A1 A2 : Option Addr) (n1 c1 n2 c2 : Nat) (w : World) (hn : n2 ≤ 2147483648) (h1 : 1 ≤ n2) :
    Calls Tryz.prog 100 #[.agg (rowV L i A1 n1 c1 A2 n2 c2)] w fun e w' => e = .returned (.int .i64 ((n2 - 1 : Nat) : Int)) ∧ Below w.heap.size w w' := by
  have hW : Below w.heap.size w (w.alloc (.cells (rowV L i A1 n1 c1 A2 n2 c2) 194)) := balloc (Below.refl _ w)
  have hq : IntKind.i64.wrap ((n2 : Int) - 1) = ((n2 - 1 : Nat) : Int) := by rw [IntWalk.i64_in _ (by omega)]; omega
  unfold rowV at hW ⊢
  go_enter Tryz.func100, Tryz.ntmps100
  go_wp2_with fail
  go_ret
  exact ⟨ret_i (by omega), hW⟩
theorem ints_form {w : World} {D : Nat → Prop} {A : Option Addr} {n : Nat} {l : List Int} (h : Ints w D A n l) (hn : 0 < n) :
    ∃ b off, A = some ⟨b, off, none⟩ ∧ D b ∧ ∀ k, k < n → w.cell? ⟨b, off + k, none⟩ = some (.int .i64 (l.getD k 0)) := by
  have hlen := h.len
  obtain ⟨b, off, e, hD, hc⟩ := Reads.form h hn (by decide)
  refine ⟨b, off, e, hD, fun k hk => hc k _ ?_⟩
  rw [List.getElem?_map, List.getD_eq_getElem?_getD, List.getElem?_eq_getElem (by omega)]
  rfl
/-- a row that lies in a box, and a cell besides it -/
theorem keep8 {w w1 : World} {b b' o : Nat} {u0 u1 u2 u3 u4 u5 u6 u : Value} (hb : Below w.heap.size w w1) (h : w.cell? ⟨b, 0, none⟩ = some u0 ∧ w.cell? ⟨b, 1, none⟩ = some u1 ∧ w.cell? ⟨b, 2, none⟩ = some u2 ∧ w.cell? ⟨b, 3, none⟩ = some u3 ∧ w.cell? ⟨b, 4, none⟩ = some u4 ∧ w.cell? ⟨b, 5, none⟩ = some u5 ∧ w.cell? ⟨b, 6, none⟩ = some u6 ∧ w.cell? ⟨b', o, none⟩ = some u) :
    w1.cell? ⟨b, 0, none⟩ = some u0 ∧ w1.cell? ⟨b, 1, none⟩ = some u1 ∧ w1.cell? ⟨b, 2, none⟩ = some u2 ∧ w1.cell? ⟨b, 3, none⟩ = some u3 ∧ w1.cell? ⟨b, 4, none⟩ = some u4 ∧ w1.cell? ⟨b, 5, none⟩ = some u5 ∧ w1.cell? ⟨b, 6, none⟩ = some u6 ∧ w1.cell? ⟨b', o, none⟩ = some u :=
  ⟨cell_keep hb h.1, cell_keep hb h.2.1, cell_keep hb h.2.2.1, cell_keep hb h.2.2.2.1, cell_keep hb h.2.2.2.2.1, cell_keep hb h.2.2.2.2.2.1, cell_keep hb h.2.2.2.2.2.2.1, cell_keep hb h.2.2.2.2.2.2.2⟩
set_option maxRecDepth 100000 in
set_option maxHeartbeats 1000000 in
theorem place_any (D : Nat → Prop) (L : Ln) (i : Int) (C : List Int) (v : Array Value) (k : Int) (w : World) (h : RowC w D L i C v) (hL : 0 ≤ L.from_ ∧ L.from_ ≤ 1073741824) (hn : (allB C).length ≤ 1073741825) (hB : ∀ x ∈ allB C, 0 ≤ x ∧ x ≤ 1073741824) (hk0 : 0 ≤ k) (hk : k < ((allB C).length : Int)) :
    Calls Tryz.prog 99 #[.agg v, .int .i64 k] w fun e w' => e = .returned (.int .i64 (L.from_ + (allB C).getD k.toNat 0)) ∧ Below w.heap.size w w' := by
  obtain ⟨A1, n1, c1, A2, n2, c2, rfl, h1, h2, h3, h4⟩ := h
  obtain ⟨x0, x1, x2, x3⟩ := L
  dsimp only at hL ⊢
  have hlen := h3.len
  have hpos : 0 < (allB C).length := by simp [allB]
  obtain ⟨b, off, rfl, hD, hcell⟩ := ints_form h3 (by omega)
  have hc := hcell k.toNat (by omega)
  have hmb : 0 ≤ (allB C).getD k.toNat 0 ∧ (allB C).getD k.toNat 0 ≤ 1073741824 := by
    rw [List.getD_eq_getElem?_getD, List.getElem?_eq_getElem (by omega)]
    exact hB _ (List.getElem_mem _)
  obtain ⟨m, hm⟩ : ∃ m, (allB C).getD k.toNat 0 = m := ⟨_, rfl⟩
  rw [hm] at hc hmb ⊢
  obtain ⟨j, hj⟩ : ∃ j : Nat, k.toNat = j := ⟨_, rfl⟩
  rw [hj] at hc
  have hj2 : j ≤ n2 - 1 := by omega
  have hcl := fun (w' : World) => clusters_any ⟨x0, x1, x2, x3⟩ i A1 (some ⟨b, off, none⟩) n1 c1 n2 c2 w' (by omega) (by omega)
  obtain ⟨N, hN⟩ : ∃ N, n2 - 1 = N := ⟨_, rfl⟩
  rw [hN] at hcl hj2
  have hjn : (j : Int) < (n2 : Int) := by omega
  have hj0 : (0 : Int) ≤ (j : Int) := by omega
  have hjc : (j : Int) ≤ (N : Int) := by omega
  have hwr : IntKind.i64.wrap (x0 + m) = x0 + m := IntWalk.i64_in _ (by omega)
  have hkk : k = (j : Int) := by omega
  have hb0 := Blk.new w 194 (rowV ⟨x0, x1, x2, x3⟩ i A1 n1 c1 (some ⟨b, off, none⟩) n2 c2)
  obtain ⟨⟨g0, g1, g2, g3, g4, g5, g6⟩, _⟩ := row_facts hb0
  have hcw := cell_keep (balloc (o := .cells (rowV ⟨x0, x1, x2, x3⟩ i A1 n1 c1 (some ⟨b, off, none⟩) n2 c2) 194) (Below.refl _ w)) hc
  have hW : Below w.heap.size w (w.alloc (.cells (rowV ⟨x0, x1, x2, x3⟩ i A1 n1 c1 (some ⟨b, off, none⟩) n2 c2) 194)) := balloc (Below.refl _ w)
  unfold rowV at hcl g0 g1 g2 g3 g4 g5 g6 hcw hW
  dsimp only at hcl g0 g1 g2 g3 g4 g5 g6 hcw hW
  have HCL := Lib.hid hcl
  have HW := Lib.hid hW
  have hS := And.intro g0 (And.intro g1 (And.intro g2 (And.intro g3 (And.intro g4 (And.intro g5 (And.intro g6 hcw))))))
  clear hcl hm hj hN hlen hpos hcell hB hb0 h1 h3 hW
  subst hkk
  · have hz2 : ((N : Int) < (j : Int)) = False := by simp; omega
    have hz3 : (N < j) = False := by simp; omega
    have hz4 : ((j : Int) < 0) = False := by simp
    unfold rowV
    go_enter Tryz.func99, Tryz.ntmps99
    go_upto_region 1 with fail
    go_cut [4] (fun s4 wx => s4 = .int .i64 (x0 + m) ∧ Below w.heap.size w wx)
    case first =>
      have hSd := keep8 (Below.drew (Below.refl _ _)) hS
      go_region_held3 (fun w' => w'.cell? ⟨w.heap.size, 0, none⟩ = some (.int .i64 x0) ∧ w'.cell? ⟨w.heap.size, 1, none⟩ = some (.int .i64 x1) ∧ w'.cell? ⟨w.heap.size, 2, none⟩ = some (.int .i64 x2) ∧ w'.cell? ⟨w.heap.size, 3, none⟩ = some (.int .i64 x3) ∧ w'.cell? ⟨w.heap.size, 4, none⟩ = some (.int .i64 i) ∧ w'.cell? ⟨w.heap.size, 5, none⟩ = some (.slice A1 n1 c1) ∧ w'.cell? ⟨w.heap.size, 6, none⟩ = some (.slice (some ⟨b, off, none⟩) n2 c2) ∧ w'.cell? ⟨b, off + j, none⟩ = some (.int .i64 m)) (first | (with_reducible assumption) | (with_reducible exact hSd)) (first | (go_at_call 100; refine (HCL.out _).mono ?_; rintro e w1 ⟨rfl, hb1⟩; have s1 := keep8 (bdrew hb1) hS))
      all_goals
        go_wp2_with fail
        go_meet
        exact ⟨rfl, bseq HW.out (bdrew hb1)⟩
    case rest =>
      obtain ⟨rfl, hb⟩ := hcut
      go_wp2_with fail
      go_ret
      exact ⟨rfl, hb⟩
end Go.Proofs.YteekabaoocaghaaGreat
namespace Go.Proofs.YteekabaoocaghaaGreat
open Go.RowKit

/-- the number of the cluster in which a place lies -/
structure ColOk (F at_ : Int) (M : List Int) (j : Nat) : Prop where
  lt : j < M.length
  low : j = 0 ∨ F + M.getD j 0 ≤ at_
  high : ∀ k, j < k → k < M.length → at_ < F + M.getD k 0
def ColR (F at_ : Int) (M : List Int) (cs : Array Value) (w : World) (k : Nat) (q5 q6 : Value) (wr : World) : Prop :=
  ∃ lo hi : Nat, q5 = .int .i64 (lo : Int) ∧ q6 = .int .i64 (hi : Int) ∧ lo ≤ hi ∧ hi < M.length ∧ Hid (lo = 0 ∨ F + M.getD lo 0 ≤ at_) ∧ Hid (∀ j, hi < j → j < M.length → at_ < F + M.getD j 0) ∧ hi - lo ≤ k ∧
    Below w.heap.size w wr ∧ Blk wr w.heap.size 194 cs
set_option maxRecDepth 100000 in
set_option maxHeartbeats 1000000 in
theorem column_any (D : Nat → Prop) (L : Ln) (i : Int) (C : List Int) (v : Array Value) (at_ : Int) (w : World) (h : RowC w D L i C v) (hL : 0 ≤ L.from_ ∧ L.from_ ≤ 1073741824) (hn : (allB C).length ≤ 1073741825) (hB : ∀ x ∈ allB C, 0 ≤ x ∧ x ≤ 1073741824)
    (hs : ∀ a b, a ≤ b → b < (allB C).length → (allB C).getD a 0 ≤ (allB C).getD b 0) :
    Calls Tryz.prog 101 #[.agg v, .int .i64 at_] w fun e w' => (∃ j : Nat, e = .returned (.int .i64 (j : Int)) ∧ ColOk L.from_ at_ (allB C) j) ∧ Below w.heap.size w w' := by
  obtain ⟨A1, n1, c1, A2, n2, c2, rfl, h1, h2, h3, h4⟩ := h
  obtain ⟨x0, x1, x2, x3⟩ := L
  dsimp only at hL ⊢
  have hlen := h3.len
  have hpos : 0 < (allB C).length := by simp [allB]
  obtain ⟨b, off, rfl, hD, hcell⟩ := ints_form h3 (by omega)
  obtain ⟨M, hM⟩ : ∃ M, allB C = M := ⟨_, rfl⟩
  rw [hM] at hcell hB hs hn hlen hpos ⊢
  clear hM h1 h3
  have hcl := fun (w' : World) => clusters_any ⟨x0, x1, x2, x3⟩ i A1 (some ⟨b, off, none⟩) n1 c1 n2 c2 w' (by omega) (by omega)
  have hW : Below w.heap.size w (w.alloc (.cells (rowV ⟨x0, x1, x2, x3⟩ i A1 n1 c1 (some ⟨b, off, none⟩) n2 c2) 194)) := balloc (Below.refl _ w)
  have hb0 := Blk.new w 194 (rowV ⟨x0, x1, x2, x3⟩ i A1 n1 c1 (some ⟨b, off, none⟩) n2 c2)
  obtain ⟨N, hN⟩ : ∃ N, n2 - 1 = N := ⟨_, rfl⟩
  rw [hN] at hcl
  have HCE := Lib.hid hcell
  have HBB := Lib.hid hB
  have HSS := Lib.hid hs
  clear hcell hB hs
  unfold rowV at hcl hW ⊢
  dsimp only at hcl hW ⊢
  have HCL := Lib.hid hcl
  clear hcl
  go_enter Tryz.func101, Tryz.ntmps101
  go_wp2_with fail
  refine (HCL.out _).mono ?_
  rintro e w1 ⟨rfl, hb1⟩
  have hW1 := bseq hW hb1
  have hB1 := hb0.below hb1
  go_wp2_with fail
  go_loopg [5, 6] N (fun k p q wr => ColR x0 at_ M (rowV ⟨x0, x1, x2, x3⟩ i A1 n1 c1 (some ⟨b, off, none⟩) n2 c2) w k p q wr)
  case atStart => exact ⟨0, N, rfl, rfl, by omega, by omega, Lib.hid (.inl rfl), Lib.hid (fun j h1 h2 => absurd h1 (by omega)), by omega, hW1, hB1⟩
  case round =>
    obtain ⟨lo, hi, rfl, rfl, hle, hhi, hlo, hup, hk, hw, hbk⟩ := hrel
    by_cases hlt : lo < hi
    · obtain ⟨m, hm⟩ : ∃ m, (lo + hi + 1) / 2 = m := ⟨_, rfl⟩
      have hm2 : ((lo : Int) + (hi : Int) + 1) / 2 = (m : Int) := by omega
      have hmb : lo < m ∧ m ≤ hi := by omega
      have hcm := cell_keep hw (HCE.out m (by omega))
      have hmx : 0 ≤ M.getD m 0 ∧ M.getD m 0 ≤ 1073741824 := by
        rw [List.getD_eq_getElem?_getD, List.getElem?_eq_getElem (by omega)]
        exact HBB.out _ (List.getElem_mem _)
      obtain ⟨y, hy⟩ : ∃ y, M.getD m 0 = y := ⟨_, rfl⟩
      rw [hy] at hcm hmx
      obtain ⟨⟨g0, g1, g2, g3, g4, g5, g6⟩, _⟩ := row_facts hbk
      dsimp only at g0
      have hy' := Lib.hid hy
      have hwr : IntKind.i64.wrap (x0 + y) = x0 + y := IntWalk.i64_in _ (by omega)
      have z1 : (0 : Int) ≤ (m : Int) := by omega
      have z2 : (m : Int) < (n2 : Int) := by omega
      clear hy
      dsimp only at g1 g2 g3
      by_cases hc : x0 + y ≤ at_
      · go_upto_region 4 with fail
        go_quiet (fail)
        go_wp2_with fail
        go_roundg (hi - m)
        case measure => omega
        case rel => exact ⟨m, hi, by go_num, rfl, by omega, hhi, Lib.hid (.inr (by rw [hy'.out]; exact hc)), hup, by omega, below_drewN hw _, hbk.drewN _⟩
      · go_upto_region 4 with fail
        go_quiet (fail)
        go_wp2_with fail
        go_roundg (m - 1 - lo)
        case measure => omega
        case rel =>
          refine ⟨lo, m - 1, rfl, by go_num, by omega, by omega, hlo, Lib.hid (fun j h1 h2 => ?_), by omega, below_drewN hw _, hbk.drewN _⟩
          have := HSS.out m j (by omega) h2
          rw [hy'.out] at this
          omega
    · have hee : lo = hi := by omega
      subst hee
      go_wp2_with fail
      go_ret
      exact ⟨⟨lo, rfl, hhi, hlo.out, hup.out⟩, hw⟩
end Go.Proofs.YteekabaoocaghaaGreat
namespace Go.Proofs.YteekabaoocaghaaGreat
open Go.RowKit

set_option maxRecDepth 100000 in
set_option maxHeartbeats 1000000 in
theorem first_any (D : Nat → Prop) (L : Ln) (i : Int) (C : List Int) (v : Array Value) (k p : Nat) (w : World) (h : RowC w D L i C v) (hk : k < (allB C).length) (hp : (allB C).getD k 0 = (p : Int)) (hp2 : p < C.length) :
    Calls Tryz.prog 165 #[.agg v, .int .i64 (k : Int)] w fun e w' => e = .returned (.int .i64 (C.getD p 0)) ∧ Below w.heap.size w w' := by
  obtain ⟨A1, n1, c1, A2, n2, c2, rfl, h1, h2, h3, h4⟩ := h
  obtain ⟨x0, x1, x2, x3⟩ := L
  have hl1 := h1.len
  have hl2 := h3.len
  obtain ⟨b1, o1, rfl, _, hc1⟩ := ints_form h1 (by omega)
  obtain ⟨b2, o2, rfl, _, hc2⟩ := ints_form h3 (by omega)
  have ha := cell_keep (balloc (o := .cells (rowV ⟨x0, x1, x2, x3⟩ i (some ⟨b1, o1, none⟩) n1 c1 (some ⟨b2, o2, none⟩) n2 c2) 194) (Below.refl _ w)) (hc1 p (by omega))
  have hb := cell_keep (balloc (o := .cells (rowV ⟨x0, x1, x2, x3⟩ i (some ⟨b1, o1, none⟩) n1 c1 (some ⟨b2, o2, none⟩) n2 c2) 194) (Below.refl _ w)) (hc2 k (by omega))
  rw [hp] at hb
  obtain ⟨y, hy⟩ : ∃ y, C.getD p 0 = y := ⟨_, rfl⟩
  rw [hy] at ha ⊢
  have z1 : (0 : Int) ≤ (k : Int) := by omega
  have z2 : (k : Int) < (n2 : Int) := by omega
  have z3 : (0 : Int) ≤ (p : Int) := by omega
  have z4 : (p : Int) < (n1 : Int) := by omega
  have hW : Below w.heap.size w (w.alloc (.cells (rowV ⟨x0, x1, x2, x3⟩ i (some ⟨b1, o1, none⟩) n1 c1 (some ⟨b2, o2, none⟩) n2 c2) 194)) := balloc (Below.refl _ w)
  unfold rowV at ha hb hW ⊢
  dsimp only at ha hb hW ⊢
  clear hy hp hc1 hc2 h1 h3
  go_enter Tryz.func165, Tryz.ntmps165
  go_upto_region 1 with fail
  go_quiet (fail)
  go_wp2_with fail
  go_ret
  exact ⟨rfl, below_drewN hW _⟩
/-- the kind of the k-th cluster -/
noncomputable def kindF (C : List Int) (k : Nat) : Int := wordF (C.getD ((allB C).getD k 0).toNat 0)
theorem first_v {L : Ln} {i : Int} {D : Nat → Prop} {C : List Int} {v : Array Value} {w : World} (h : RowC w D L i C v) : ∃ A1 n1 c1 A2 n2 c2, v = rowV L i A1 n1 c1 A2 n2 c2 := by
  obtain ⟨A1, n1, c1, A2, n2, c2, e, _⟩ := h
  exact ⟨A1, n1, c1, A2, n2, c2, e⟩
set_option maxRecDepth 100000 in
set_option maxHeartbeats 1000000 in
theorem kind_any (D : Nat → Prop) (L : Ln) (i : Int) (C : List Int) (v : Array Value) (k p : Nat) (w : World) (h : RowC w D L i C v) (hk : k < (allB C).length) (hp : (allB C).getD k 0 = (p : Int)) (hp2 : p < C.length) :
    Calls Tryz.prog 163 #[.agg v, .int .i64 (k : Int), .bool false] w fun e w' => e = .returned (.int .i64 (kindF C k)) ∧ Below w.heap.size w w' := by
  have hW : Below w.heap.size w (w.alloc (.cells v 194)) := balloc (Below.refl _ w)
  have hf := first_any D L i C v k p _ (h.below hW) hk hp hp2
  have hkf : kindF C k = wordF (C.getD p 0) := by unfold kindF; rw [hp]; rfl
  rw [hkf]
  obtain ⟨y, hy⟩ : ∃ y, C.getD p 0 = y := ⟨_, rfl⟩
  rw [hy] at hf ⊢
  obtain ⟨A1, n1, c1, A2, n2, c2, rfl⟩ := first_v h
  have hb0 := Blk.new w 194 (rowV L i A1 n1 c1 A2 n2 c2)
  obtain ⟨x0, x1, x2, x3⟩ := L
  have HB0 := Lib.hid hb0
  have HF := Lib.hid hf
  clear hy hp hkf hf hb0 h
  unfold rowV at hW ⊢
  dsimp only at hW ⊢
  go_enter Tryz.func163, Tryz.ntmps163
  go_wp2_with fail
  refine (HF.out).mono ?_
  rintro e w1 ⟨rfl, hb1⟩
  go_wp2_with fail
  refine (word_any _ _).mono ?_
  rintro e w2 ⟨rfl, hb2⟩
  go_wp2_with fail
  go_ret
  exact ⟨rfl, bseq (bseq hW hb1) hb2⟩
end Go.Proofs.YteekabaoocaghaaGreat
namespace Go.Proofs.YteekabaoocaghaaGreat
open Go.RowKit

/-- the boundaries from a place on, with that place at the head -/
theorem bnds_chain (l : List Int) : ∀ (f p : Nat), l.length - p ≤ f → p ≤ l.length →
    (∀ k, k < (bnds l p).length → (p :: bnds l p).getD k 0 < l.length ∧ (p :: bnds l p).getD (k + 1) 0 = nextB l ((p :: bnds l p).getD k 0)) ∧ (p :: bnds l p).getD (bnds l p).length 0 = l.length := by
  intro f
  induction f with
  | zero =>
    intro p h hp
    rw [bnds_ge l p (by omega)]
    refine ⟨fun k hk => absurd hk (by simp), ?_⟩
    simp
    omega
  | succ f ih =>
    intro p h hp
    by_cases hlt : p < l.length
    · have hg := nextB_gt l p
      have hl := nextB_le l p hlt
      obtain ⟨h1, h2⟩ := ih (nextB l p) (by omega) hl
      rw [bnds_lt l p hlt]
      refine ⟨fun k hk => ?_, ?_⟩
      · cases k with
        | zero => exact ⟨by simpa using hlt, by simp⟩
        | succ k =>
          have := h1 k (by simpa using hk)
          simpa using this
      · simpa using h2
    · rw [bnds_ge l p (by omega)]
      refine ⟨fun k hk => absurd hk (by simp), ?_⟩
      simp
      omega
/-- the k-th boundary -/
noncomputable def mkb (C : List Int) (k : Nat) : Nat := (0 :: bnds C 0).getD k 0
/-- how many clusters -/
noncomputable def nC (C : List Int) : Nat := (bnds C 0).length
theorem mk_zero (C : List Int) : mkb C 0 = 0 := rfl
theorem mk_step {C : List Int} {k : Nat} (h : k < nC C) : mkb C k < C.length ∧ mkb C (k + 1) = nextB C (mkb C k) := (bnds_chain C C.length 0 (by omega) (by omega)).1 k h
theorem mk_last (C : List Int) : mkb C (nC C) = C.length := (bnds_chain C C.length 0 (by omega) (by omega)).2
theorem mk_lt {C : List Int} {k : Nat} (h : k < nC C) : mkb C k < mkb C (k + 1) := by rw [(mk_step h).2]; exact nextB_gt _ _
theorem mk_mono {C : List Int} {a b : Nat} (h : a ≤ b) (hb : b ≤ nC C) : mkb C a ≤ mkb C b := by
  induction b with
  | zero => rw [Nat.le_zero.1 h]; exact Nat.le_refl _
  | succ b ih =>
    rcases Nat.eq_or_lt_of_le h with h | h
    · rw [h]; exact Nat.le_refl _
    · exact Nat.le_of_lt (Nat.lt_of_le_of_lt (ih (by omega) (by omega)) (mk_lt (by omega)))
theorem mk_smono {C : List Int} {a b : Nat} (h : a < b) (hb : b ≤ nC C) : mkb C a < mkb C b := Nat.lt_of_lt_of_le (mk_lt (by omega)) (mk_mono h hb)
theorem mk_le {C : List Int} {k : Nat} (h : k ≤ nC C) : mkb C k ≤ C.length := by rw [← mk_last]; exact mk_mono h (Nat.le_refl _)
theorem allB_len (C : List Int) : (allB C).length = nC C + 1 := by simp [allB, nC]
theorem allB_at {C : List Int} {k : Nat} (h : k ≤ nC C) : (allB C).getD k 0 = (mkb C k : Int) := by
  unfold allB mkb
  cases k with
  | zero => rfl
  | succ k =>
    have hk : k < (bnds C 0).length := h
    simp only [List.getD_cons_succ]
    rw [List.getD_eq_getElem?_getD, List.getD_eq_getElem?_getD, List.getElem?_map, List.getElem?_eq_getElem hk]
    rfl
theorem allB_bd {C : List Int} (h : C.length ≤ 1073741824) : ∀ x ∈ allB C, 0 ≤ x ∧ x ≤ 1073741824 := by
  intro x hx
  obtain ⟨k, hk, rfl⟩ := List.getElem_of_mem hx
  rw [allB_len] at hk
  have e := allB_at (C := C) (k := k) (by omega)
  rw [List.getD_eq_getElem?_getD, List.getElem?_eq_getElem (by rw [allB_len]; exact hk)] at e
  simp only [Option.getD_some] at e
  have := mk_le (C := C) (k := k) (by omega)
  omega
theorem allB_sorted {C : List Int} (a b : Nat) (h : a ≤ b) (hb : b < (allB C).length) : (allB C).getD a 0 ≤ (allB C).getD b 0 := by
  rw [allB_len] at hb
  rw [allB_at (by omega), allB_at (by omega)]
  have := mk_mono (C := C) h (by omega)
  omega
theorem nC_le (C : List Int) : nC C ≤ C.length := by
  have h : ∀ k, k ≤ nC C → k ≤ mkb C k := by
    intro k
    induction k with
    | zero => intro _; omega
    | succ k ih =>
      intro h
      have := ih (by omega)
      have := mk_lt (C := C) (k := k) (by omega)
      omega
  have := h (nC C) (Nat.le_refl _)
  rw [mk_last] at this
  exact this
theorem nC_pos {C : List Int} (h : 0 < C.length) : 0 < nC C := by
  rcases Nat.eq_zero_or_pos (nC C) with e | e
  · have := mk_last C
    rw [e, mk_zero] at this
    omega
  · exact e
end Go.Proofs.YteekabaoocaghaaGreat
namespace Go.Proofs.YteekabaoocaghaaGreat
open Go.RowKit

/-- the cluster in which the r-th atom lies (or the number of clusters) -/
structure InC (C : List Int) (r j : Nat) : Prop where
  le : j ≤ nC C
  low : mkb C j ≤ r
  high : ∀ k, j < k → k ≤ nC C → r < mkb C k
theorem InC.uniq {C : List Int} {r j j' : Nat} (h : InC C r j) (h' : InC C r j') : j = j' := by
  rcases Nat.lt_trichotomy j j' with hlt | e | hlt
  · have := h.high j' hlt h'.le; have := h'.low; omega
  · exact e
  · have := h'.high j hlt h.le; have := h.low; omega
theorem InC.lt {C : List Int} {r j : Nat} (h : InC C r j) (hr : r < C.length) : j < nC C := by
  rcases Nat.lt_or_ge j (nC C) with h1 | h1
  · exact h1
  · have e : j = nC C := Nat.le_antisymm h.le h1
    have := h.low
    rw [e, mk_last] at this
    omega
theorem InC.at_mk {C : List Int} {k : Nat} (h : k ≤ nC C) : InC C (mkb C k) k := ⟨h, Nat.le_refl _, fun _ h1 h2 => mk_smono h1 h2⟩
theorem InC.next {C : List Int} {r j : Nat} (h : InC C r j) (hj : j < nC C) : r < mkb C (j + 1) := h.high (j + 1) (Nat.lt_succ_self _) hj
theorem column_mk (D : Nat → Prop) (L : Ln) (i : Int) (C : List Int) (v : Array Value) (r : Nat) (w : World) (h : RowC w D L i C v) (hL : 0 ≤ L.from_ ∧ L.from_ ≤ 1073741824) (hC : C.length ≤ 1073741824) :
    Calls Tryz.prog 101 #[.agg v, .int .i64 (L.from_ + (r : Int))] w fun e w' => (∃ j : Nat, e = .returned (.int .i64 (j : Int)) ∧ InC C r j) ∧ Below w.heap.size w w' := by
  have hn := nC_le C
  refine (column_any D L i C v _ w h hL (by rw [allB_len]; omega) (allB_bd hC) allB_sorted).mono ?_
  rintro e w' ⟨⟨j, rfl, hc⟩, hb⟩
  obtain ⟨h1, h2, h3⟩ := hc
  rw [allB_len] at h1 h3
  refine ⟨⟨j, rfl, by omega, ?_, fun k hk hk2 => ?_⟩, hb⟩
  · rcases h2 with rfl | h2
    · rw [mk_zero]; omega
    · rw [allB_at (by omega)] at h2; omega
  · have := h3 k hk (by omega)
    rw [allB_at (by omega)] at this
    omega
theorem place_mk (D : Nat → Prop) (L : Ln) (i : Int) (C : List Int) (v : Array Value) (k : Nat) (w : World) (h : RowC w D L i C v) (hL : 0 ≤ L.from_ ∧ L.from_ ≤ 1073741824) (hC : C.length ≤ 1073741824) (hk : k ≤ nC C) :
    Calls Tryz.prog 99 #[.agg v, .int .i64 (k : Int)] w fun e w' => e = .returned (.int .i64 (L.from_ + (mkb C k : Int))) ∧ Below w.heap.size w w' := by
  have hn := nC_le C
  have := place_any D L i C v (k : Int) w h hL (by rw [allB_len]; omega) (allB_bd hC) (by omega) (by rw [allB_len]; omega)
  rw [Int.toNat_natCast, allB_at hk] at this
  exact this
/-- the kind of the k-th cluster, by its first atom -/
noncomputable def kd (C : List Int) (k : Nat) : Int := wordF (C.getD (mkb C k) 0)
theorem kind_mk (D : Nat → Prop) (L : Ln) (i : Int) (C : List Int) (v : Array Value) (k : Nat) (w : World) (h : RowC w D L i C v) (hk : k < nC C) :
    Calls Tryz.prog 163 #[.agg v, .int .i64 (k : Int), .bool false] w fun e w' => e = .returned (.int .i64 (kd C k)) ∧ Below w.heap.size w w' := by
  have h1 := allB_at (C := C) (k := k) (by omega)
  have := kind_any D L i C v k (mkb C k) w h (by rw [allB_len]; omega) h1 (mk_step hk).1
  unfold kindF at this
  rw [h1] at this
  exact this
theorem clusters_mk (D : Nat → Prop) (L : Ln) (i : Int) (C : List Int) (v : Array Value) (w : World) (h : RowC w D L i C v) (hC : C.length ≤ 1073741824) :
    Calls Tryz.prog 100 #[.agg v] w fun e w' => e = .returned (.int .i64 (nC C : Nat)) ∧ Below w.heap.size w w' := by
  obtain ⟨A1, n1, c1, A2, n2, c2, rfl, h1, h2, h3, h4⟩ := h
  have hlen := h3.len
  have hn := nC_le C
  rw [allB_len] at hlen
  have := clusters_any L i A1 A2 n1 c1 n2 c2 w (by omega) (by omega)
  rw [show n2 - 1 = nC C by omega] at this
  exact this
end Go.Proofs.YteekabaoocaghaaGreat
