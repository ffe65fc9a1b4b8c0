/-
  The walks of package motion, tenth part: walk.next and walk.prev within a line, walk.begins, ending.
-/
import Derived.Test.YtkoakanpaehkmaaGreatDoorLRfLines
import Derived.Test.YtkoakanpaehkmaaGreatDoorLHeavy
import Derived.Test.YtkoakanpaehkmaaGreatDoorLGrow3
import Derived.Test.YtkoakanpaehkmaaGreatDoorLEnds
set_option linter.unusedSimpArgs false
set_option linter.unusedVariables false
set_option maxRecDepth 100000
set_option maxHeartbeats 32000000
namespace Go.Proofs.YtkoakanpaehkmaaGreatDoor
open Go.RowKit
def rowIx (ds : List (Int × Int)) (at_ : Int) (past : Bool) : Nat := if past = true then ofF ds at_ else min (ofF ds at_) (countF ds - 1)
theorem countF_pos {ds : List (Int × Int)} : 1 <= countF ds /\ countF ds <= totE ds + 1 := by
 unfold countF
 split
 ·rename_i h
  unfold endB at h
  simp only [decide_eq_true_eq] at h
  have : totE ds ≠ 0 := by
   intro e
   rw [e, sk_zero] at h
   omega
  omega
 ·omega
theorem ofF_le (ds : List (Int × Int)) (at_ : Int) : ofF ds at_ <= totE ds := by
 unfold ofF totE
 exact cntE_mono _ (Nat.min_le_right _ _)
theorem rowIx_le (ds : List (Int × Int)) (at_ : Int) (past : Bool) : rowIx ds at_ past <= totE ds := by
 have h1 := ofF_le ds at_
 unfold rowIx
 split <;> omega
theorem row_fin2 {w w4 : World} {B : Nat} {v : Array Value} {i : Int} {L : Ln} {C : List Int} (hB : w.heap.size < B) (hr : RowC w4 (fun k => B <= k) L i C v) (hw : Below w.heap.size w w4) :
  ∃ A1 n1 c1 A2 n2 c2, v = rowV L i A1 n1 c1 A2 n2 c2 /\ RowPost L i C w (.returned (.agg (rowV L i A1 n1 c1 A2 n2 c2))) (setR w4 w.heap.size L.from_ L.to_ L.next L.brk i (.slice A1 n1 c1) (.slice A2 n2 c2)) := by
 obtain ⟨A1, n1, c1, A2, n2, c2, rfl, h1, h2, h3, h4⟩ := hr
 have hfr := setR_fr w4 w.heap.size L.from_ L.to_ L.next L.brk i (.slice A1 n1 c1) (.slice A2 n2 c2)
 refine ⟨A1, n1, c1, A2, n2, c2, rfl, _, rfl, ⟨A1, n1, c1, A2, n2, c2, rfl, ?_, h2, ?_, h4⟩, bfr hw hfr (fun k hk => by rw [hk]; exact Nat.le_refl _)⟩
 ·exact Reads.more (Reads.fr h1 hfr (fun k hk _ e => by omega)) (fun k hk _ => by omega) (by decide)
 ·exact Reads.more (Reads.fr h3 hfr (fun k hk _ e => by omega)) (fun k hk _ => by omega) (by decide)
theorem row_facts0 {w : World} {b : Nat} (h : Blk w b 94 #[.int .i64 0, .int .i64 0, .int .i64 0, .int .i64 0, .int .i64 0, .slice none 0 0, .slice none 0 0]) :
  (w.cell? ⟨b, 0, none⟩ = some (.int .i64 0) /\ w.cell? ⟨b, 1, none⟩ = some (.int .i64 0) /\ w.cell? ⟨b, 2, none⟩ = some (.int .i64 0) /\ w.cell? ⟨b, 3, none⟩ = some (.int .i64 0) /\ w.cell? ⟨b, 4, none⟩ = some (.int .i64 0) /\
   w.cell? ⟨b, 5, none⟩ = some (.slice none 0 0) /\ w.cell? ⟨b, 6, none⟩ = some (.slice none 0 0)) /\
  w.frozen? ⟨b, 0, none⟩ = false /\ w.frozen? ⟨b, 1, none⟩ = false /\ w.frozen? ⟨b, 2, none⟩ = false /\ w.frozen? ⟨b, 3, none⟩ = false /\ w.frozen? ⟨b, 4, none⟩ = false /\ w.frozen? ⟨b, 5, none⟩ = false /\ w.frozen? ⟨b, 6, none⟩ = false :=
 row_facts (L := ⟨0, 0, 0, 0⟩) (i := 0) (A1 := none) (n1 := 0) (c1 := 0) (A2 := none) (n2 := 0) (c2 := 0) h
theorem rowAt_any (D : Nat -> Prop) (g : Nat) (enc : Int) (ds : List (Int × Int)) (at_ : Int) (past : Bool) (w : World) (h : TextAt w D g enc ds) :
  Calls Tryz.prog 52 #[.pointer (some ⟨g, 0, none⟩), .int .i64 at_, .bool past] w fun e w' => RowPost (lineF ds (rowIx ds at_ past)) (rowIx ds at_ past) (cont ds (rowIx ds at_ past)) w e w' := by
 have hW : Below w.heap.size w (w.alloc (.cells (rowV ⟨0, 0, 0, 0⟩ 0 none 0 0 none 0 0) 94)) := balloc (Below.refl _ w)
 have hR : Blk (w.alloc (.cells (rowV ⟨0, 0, 0, 0⟩ 0 none 0 0 none 0 0) 94)) w.heap.size 94 (rowV ⟨0, 0, 0, 0⟩ 0 none 0 0 none 0 0) := Blk.new w _ _
 have hix := rowIx_le ds at_ past
 have hcp := @countF_pos ds
 have hlen := h.len
 have hT1 : totE ds <= 1073741824 := Nat.le_trans (cntE_le _ _) hlen
 have ho := of_line D g enc ds at_ _ (h.below hW)
 have hc := fun (w' : World) (hb : Below w.heap.size w w') => count_line D g enc ds w' (h.below hb)
 have hn := fun (w' : World) (hb : Below w.heap.size w w') => newRow_any D g enc ds (rowIx ds at_ past) w' (h.below hb) hix
 have hofl := ofF_le ds at_
 have hif : past = false -> min (ofF ds at_ : Int) ((countF ds : Int) - 1) = (rowIx ds at_ past : Int) := by
  intro e
  unfold rowIx
  rw [e]
  simp only [Bool.false_eq_true, if_false]
  omega
 have hit : past = true -> ofF ds at_ = rowIx ds at_ past := by
  intro e
  unfold rowIx
  rw [if_pos e]
 obtain ⟨K, hK⟩ : ∃ K, countF ds = K := ⟨_, rfl⟩
 obtain ⟨V, hV⟩ : ∃ V, ofF ds at_ = V := ⟨_, rfl⟩
 obtain ⟨I, hI⟩ : ∃ I, rowIx ds at_ past = I := ⟨_, rfl⟩
 obtain ⟨T, hT⟩ : ∃ T, totE ds = T := ⟨_, rfl⟩
 rw [hT] at hT1 hix hofl hcp
 rw [hK] at hc hcp hif
 rw [hV] at ho hif hit hofl
 rw [hI] at hn hix hif hit ⊢
 obtain ⟨C, hC⟩ : ∃ C, cont ds I = C := ⟨_, rfl⟩
 obtain ⟨L, hL⟩ : ∃ L, lineF ds I = L := ⟨_, rfl⟩
 rw [hC, hL] at hn ⊢
 have HC := Lib.hid hc
 have HO := Lib.hid ho
 have HN := Lib.hid hn
 have HIF := Lib.hid hif
 have HIT := Lib.hid hit
 clear hc ho hn hif hit hK hV hI hT hC hL
 simp only [rowV] at hW hR
 go_enter Tryz.func52, Tryz.ntmps52
 go_wp2_with fail
 refine (HO.out).mono ?_
 rintro e w1 ⟨rfl, hb1⟩
 have hW1 := bseq hW hb1
 have hR1 := hR.below hb1
 cases past
 ·go_wp2_with fail
  refine (HC.out _ hW1).mono ?_
  rintro e w2 ⟨rfl, hb2⟩
  have hW2 := bseq hW1 hb2
  have hR2 := hR1.below hb2
  go_wp2_with fail
  all_goals
   have hmin := HIF.out trivial
   first
    | rw [show (K : Int) - 1 = (I : Int) by omega]
    | rw [show (V : Int) = (I : Int) by omega]
   clear hmin
   refine (HN.out _ hW2).mono ?_
   rintro e w3 ⟨v, rfl, hrow, hb3⟩
   have hW3 := bseq hW2 hb3
   have hz : w.heap.size < w2.heap.size := hR2.lt
   obtain ⟨A1, n1, c1, A2, n2, c2, rfl, hfin⟩ := row_fin2 hz hrow hW3
   unfold setR at hfin
   have HF := Lib.hid hfin
   obtain ⟨⟨j0, j1, j2, j3, j4, j5, j6⟩, v0, v1, v2, v3, v4, v5, v6⟩ := row_facts0 (hR2.below hb3)
   unfold rowV
   clear hfin hrow
   go_wp2_with fail
   refine bodyPost_ret (v := .agg (rowV L I A1 n1 c1 A2 n2 c2)) (by simp [results, Tryz.results52, go_sem, rowV, j0, j1, j2, j3, j4, j5, j6]) rfl ?_
   with_reducible exact HF.out
 ·go_wp2_with fail
  rw [show (V : Int) = (I : Int) by rw [HIT.out trivial]]
  refine (HN.out _ hW1).mono ?_
  rintro e w3 ⟨v, rfl, hrow, hb3⟩
  have hW3 := bseq hW1 hb3
  have hz : w.heap.size < w1.heap.size := hR1.lt
  obtain ⟨A1, n1, c1, A2, n2, c2, rfl, hfin⟩ := row_fin2 hz hrow hW3
  unfold setR at hfin
  have HF := Lib.hid hfin
  obtain ⟨⟨j0, j1, j2, j3, j4, j5, j6⟩, v0, v1, v2, v3, v4, v5, v6⟩ := row_facts0 (hR1.below hb3)
  unfold rowV
  clear hfin hrow
  go_wp2_with fail
  refine bodyPost_ret (v := .agg (rowV L I A1 n1 c1 A2 n2 c2)) (by simp [results, Tryz.results52, go_sem, rowV, j0, j1, j2, j3, j4, j5, j6]) rfl ?_
  with_reducible exact HF.out
theorem line_from (ds : List (Int × Int)) (i : Nat) : (lineF ds i).from_ = (sk ds i : Int) := by
 unfold lineF
 split
 ·unfold closedF
  split
  ·rfl
  ·split <;> rfl
 ·rfl
theorem line_sk_le {ds : List (Int × Int)} (hp : PosD ds) {m k : Nat} (hm : m <= ds.length) (hk : k <= totE ds) (h : k <= cntE (ds.map Prod.fst) m) : sk ds k <= m := by
 rcases Nat.eq_zero_or_pos k with h0 | h0
 ·subst h0; rw [sk_zero]; omega
 ·obtain ⟨_, h2, h3⟩ := sk_spec hp h0 hk
  rcases Nat.lt_or_ge m (sk ds k) with h4 | h4
  ·have := cntE_lt (ds.map Prod.fst) h4 h2
   omega
  ·exact h4
def GotInts (W : World) (n : Nat) (l : List Int) (v : Value) (w' : World) : Prop := ∃ A c, v = .slice A n c /\ n <= c /\ Ints w' Any A n l /\ Below W.heap.size W w'
theorem GotInts.bel {W w' : World} {n : Nat} {l : List Int} {v : Value} (h : GotInts W n l v w') : Below W.heap.size W w' := by
 obtain ⟨_, _, _, _, _, h⟩ := h
 exact h
theorem GotInts.out {W w' : World} {n c : Nat} {l : List Int} {A : Option Addr} (h : GotInts W n l (.slice A n c) w') : Ints w' Any A n l /\ Below W.heap.size W w' := by
 obtain ⟨_, _, e, _, hi, hb⟩ := h
 injection e with e1 e2 e3
 subst e1
 exact ⟨hi, hb⟩
theorem GotInts.keep {W w' w'' : World} {n : Nat} {l : List Int} {v : Value} (h : GotInts W n l v w') (hb : Below w'.heap.size w' w'') : GotInts W n l v w'' := by
 obtain ⟨A, c, e, hc, hi, hb'⟩ := h
 exact ⟨A, c, e, hc, Reads.below hi hb, bseq hb' hb⟩
theorem GotInts.mk_ {W w w' : World} {n : Nat} {l : List Int} {v : Value} (hn : n = l.length) (hb : Below W.heap.size W w) (ho : w'.ownsRow w.heap.size 3 1 v l.length (l.map (Value.int .i64))) (hb' : Below w.heap.size w w') : GotInts W n l v w' := by
 subst hn
 rcases ho.2 with ⟨e1, e2⟩ | ⟨g, cap, cur, e1, _, _, hc, _⟩
 ·refine ⟨none, 0, by rw [e1, e2], by omega, ⟨by simp, fun h => absurd h (by omega)⟩, bseq hb hb'⟩
 ·exact ⟨_, cap, e1, hc, Reads.more (Reads.of_own (by rw [<- e1]; exact ho)) (fun _ _ _ => trivial) (by decide), bseq hb hb'⟩
theorem newP_bts {w0 w : World} {B g bt bf bp bn n0 : Nat} {enc lim : Int} {add0 add v : Value} {a : Option Addr} {xs : List Value} {dn pd : List Int} {m : Nat} {ps : List Pc} {ba cap : Nat}
  (h : FreshS w0 B g bt bf bp bn enc lim n0 add0 a xs dn pd m ps v add w) (hr0 : w0.ownsRow B 5 1 add0 n0 xs) (hadd : add = .slice (some ⟨ba, 0, none⟩) (n0 + (putL enc dn).length + (putL enc pd).length) cap) :
  Bts w Any (some ⟨ba, n0 + (putL enc dn).length, none⟩) (putL enc pd).length (putL enc pd) := by
 refine ⟨by simp, fun _ => ⟨_, rfl, trivial, fun j u hj => ?_⟩⟩
 rw [add_cell]
 have := h.row.cells (g := ba) (by rw [hadd]; rfl) (n0 + (putL enc dn).length + j) u (by
  have hx := hr0.1
  rw [List.getElem?_append_right (by omega), List.map_append, List.getElem?_append_right (by rw [List.length_map]; omega), List.length_map]
  rw [<- hj]
  congr 1
  omega)
 rw [add_cell, Nat.zero_add] at this
 exact this
def ShutC (bt bf bp g : Nat) (enc : Int) (F : Nat) (v av : Value) (w : World) : Prop :=
 w.cell? ⟨bt, 0, none⟩ = some (.pointer (some ⟨g, 0, none⟩)) /\ w.cell? ⟨g, 0, none⟩ = some (.int .i64 enc) /\ w.cell? ⟨g, 3, none⟩ = some av /\ w.cell? ⟨bf, 0, none⟩ = some (.int .i64 F) /\ w.cell? ⟨bp, 0, none⟩ = some v
def ShutF (bt bf bp bn g : Nat) (enc : Int) (F : Nat) (v av : Value) (w : World) : Prop := ShutC bt bf bp g enc F v av w /\ w.frozen? ⟨bp, 0, none⟩ = false /\ w.frozen? ⟨bf, 0, none⟩ = false /\ w.frozen? ⟨bn, 0, none⟩ = false
theorem FreshS.fr_facts {w0 w w1 : World} {B g bt bf bp bn n0 : Nat} {enc lim : Int} {add0 add v : Value} {a : Option Addr} {xs : List Value} {dn pd : List Int} {m : Nat} {ps : List Pc}
  (h : FreshS w0 B g bt bf bp bn enc lim n0 add0 a xs dn pd m ps v add w) (hfr : Fr (OwnB v) w w1) : ShutF bt bf bp bn g enc (n0 + (putL enc dn).length) v add w1 := by
 have ov : ∀ {T : TypeId} {cs : Array Value} {b : Nat}, Blk w b T cs -> 142 ≠ T -> ¬ OwnB v b := fun hb hT => own_blk_ne h.prow hb hT
 have t1 := h.tx.fr hfr (ov h.tx (by decide))
 have t2 := h.tb.fr hfr (ov h.tb (by decide))
 have t3 := h.fb.fr hfr (ov h.fb (by decide))
 have t4 := h.pb.fr hfr (ov h.pb (by decide))
 have t5 := h.nb.fr hfr (ov h.nb (by decide))
 exact ⟨⟨t2.cell 0, t1.cell 0, t1.cell 3, t3.cell 0, t4.cell 0⟩, t4.frozen 0, t3.frozen 0, t5.frozen 0⟩
theorem FreshS.fr_blks {w0 w w1 : World} {B g bt bf bp bn n0 : Nat} {enc lim : Int} {add0 add v : Value} {a : Option Addr} {xs : List Value} {dn pd : List Int} {m : Nat} {ps : List Pc}
  (h : FreshS w0 B g bt bf bp bn enc lim n0 add0 a xs dn pd m ps v add w) (hfr : Fr (OwnB v) w w1) (u : Value) (x : Value) :
  (w1.setCell ⟨bp, 0, none⟩ u).cell? ⟨bf, 0, none⟩ = some (.int .i64 ((n0 + (putL enc dn).length : Nat) : Int)) /\ ((w1.setCell ⟨bp, 0, none⟩ u).setCell ⟨bf, 0, none⟩ x).cell? ⟨bn, 0, none⟩ = some (.int .i64 (m : Int)) := by
 have ov : ∀ {T : TypeId} {cs : Array Value} {b : Nat}, Blk w b T cs -> 142 ≠ T -> ¬ OwnB v b := fun hb hT => own_blk_ne h.prow hb hT
 have t3 := h.fb.fr hfr (ov h.fb (by decide))
 have t4 := h.pb.fr hfr (ov h.pb (by decide))
 have t5 := h.nb.fr hfr (ov h.nb (by decide))
 have n7 : bf ≠ bp := Blk.ne_ t3 t4 (by decide)
 have n8 : bn ≠ bp := Blk.ne_ t5 t4 (by decide)
 exact ⟨(t3.far (p := ⟨bp, 0, none⟩) n7 u).cell 0, ((t5.far (p := ⟨bp, 0, none⟩) n8 u).far (p := ⟨bf, 0, none⟩) (Ne.symm h.ge.2.2.2.2) x).cell 0⟩
theorem shut_any (w0 : World) (B g bt bf bp bn : Nat) (enc lim : Int) (n0 : Nat) (add0 : Value) (a : Option Addr) (xs : List Value) (dn pd : List Int) (ps : List Pc) (v add : Value) (w : World) (he : enc = 1 \/ enc = 2 \/ enc = 3 \/ enc = 4)
  (h : FreshS w0 B g bt bf bp bn enc lim n0 add0 a xs dn pd pd.length ps v add w) (hr0 : w0.ownsRow B 5 1 add0 n0 xs) (hd : dec enc (putL enc pd) = withSz enc pd) (hf : Fit enc pd) (hn : (putL enc pd).length <= 1048576) (hN : n0 + (putL enc dn).length + (putL enc pd).length <= 1073741824) (hpl : ps.length <= 1073741824) :
  Calls Tryz.prog 194 #[.pointer (some ⟨bt, 0, none⟩), .pointer (some ⟨bf, 0, none⟩), .pointer (some ⟨bp, 0, none⟩), .pointer (some ⟨bn, 0, none⟩)] w fun e w' => ShutPost w0 B g bt bf bp bn enc lim n0 add0 a xs dn pd add w e w' := by
 obtain ⟨A', cap, hadd, hcap⟩ := own_slice h.row
 have c1 := h.tb.cell 0
 have c2 := h.tx.cell 3
 have c3 := h.fb.cell 0
 have c4 := h.pb.cell 0
 have c5 := h.nb.cell 0
 simp at c1 c2 c3 c4 c5
 by_cases hz : (putL enc pd).length = 0
 ·have hpd : pd = [] := by
   cases pd with
   | nil => rfl
   | cons x xs =>
    have h1 := putA_len enc x (hf x List.mem_cons_self)
    have h2 := hf x List.mem_cons_self
    rw [putL_cons, List.length_append] at hz
    omega
  subst hpd
  rw [hadd] at c2
  obtain ⟨F, hF⟩ : ∃ F, n0 + (putL enc dn).length = F := ⟨_, rfl⟩
  have q : ((F : Int) < ((n0 + (putL enc dn).length + (putL enc ([] : List Int)).length : Nat) : Int)) = False := by simp [putL_nil]; omega
  obtain ⟨M, hM⟩ : ∃ M, n0 + (putL enc dn).length + (putL enc ([] : List Int)).length = M := ⟨_, rfl⟩
  rw [hM] at c2 q
  rw [<- Int.natCast_add, hF] at c3
  have H := Lib.hid h
  clear h hF hM hadd hr0 c4 c5 hd hf
  go_enter Tryz.func194, Tryz.ntmps194
  go_wp2_with fail
  refine bodyPost_ret (results_none rfl _ _ _) rfl ⟨rfl, ps, v, ?_⟩
  rw [List.append_nil]
  exact H.out
 ·obtain ⟨ba, hA⟩ : ∃ ba, A' = some ⟨ba, 0, none⟩ := by
   rcases h.row.2 with ⟨e0, e1⟩ | ⟨q, c, cur, e0, _⟩
   ·omega
   ·rw [hadd] at e0
    injection e0 with e0
    exact ⟨q, e0⟩
  subst hA
  obtain ⟨F, hF⟩ : ∃ F, n0 + (putL enc dn).length = F := ⟨_, rfl⟩
  obtain ⟨m, hm⟩ : ∃ m, (putL enc pd).length = m := ⟨_, rfl⟩
  have hbts := newP_bts h hr0 hadd
  have hcl := fun (w1 : World) hfr (u x : Value) => h.fr_blks (w1 := w1) hfr u x
  rw [hF] at hcl
  have HCL := Lib.hid hcl
  clear hcl
  have hkp := fun (w1 : World) hfr => h.fr_facts (w1 := w1) hfr
  have hfin := fun (w1 : World) (v' : Value) hfr hown => h.shut (w1 := w1) (v' := v') hr0 hadd hd hf (by omega) hn hfr hown
  obtain ⟨S, hS⟩ : ∃ S, sumsOf (dec enc (putL enc pd)) = S := ⟨_, rfl⟩
  have hcells : (newP enc ba (n0 + (putL enc dn).length) pd).cells = partC (some ⟨ba, F, none⟩) m m (-1) S := by
   unfold newP Pc.cells
   dsimp only
   rw [hF, hm, hS]
  rw [hF, hm] at hadd hN hcap hbts
  rw [hF] at hkp
  rw [hcells, hF, hm] at hfin
  rw [hadd] at c2
  rw [<- Int.natCast_add, hF] at c3
  have q : ((F : Int) < ((F + m : Nat) : Int)) = True := by simp; omega
  obtain ⟨M, hM⟩ : ∃ M, F + m = M := ⟨_, rfl⟩
  rw [hM] at c2 q hN hcap hadd hfin
  have q2 : F <= M := by omega
  have q3 : M - F = m := by omega
  have q4 : (M = F) = False := by simp; omega
  rw [hadd] at hkp
  have HK := Lib.hid hkp
  have hbyt := putL_byt enc pd hf
  have hrow := h.prow
  obtain ⟨xs0, hxs0⟩ : ∃ x, (ps.flatMap fun p => p.cells.toList) = x := ⟨_, rfl⟩
  rw [hxs0] at hrow hfin
  obtain ⟨l, hl⟩ : ∃ l, putL enc pd = l := ⟨_, rfl⟩
  rw [hl] at hbts hbyt hS
  have hb0 : w0.heap.size <= w.heap.size := h.step.fr.size
  have f3 := h.fb.frozen 0
  have f4 := h.pb.frozen 0
  have f5 := h.nb.frozen 0
  have c0 := h.tx.cell 0
  simp at c0
  have HF := Lib.hid hfin
  have HD := Lib.hid hd
  have HBT := Lib.hid hbts
  have HBY := Lib.hid hbyt
  have HR := Lib.hid hrow
  have HS := Lib.hid hS
  have HE := Lib.hid he
  clear h hkp hF hm hM hadd hr0 hd hf hfin hcells hn hxs0 hl hbts hbyt hrow hS he hz
  obtain ⟨ip, zp, hip, hp0, hp1, hp2, hp3⟩ := part_row
  go_enter Tryz.func194, Tryz.ntmps194
  go_wp2_with fail
  refine wp_region_lin (ShutC bt bf bp g enc F v (.slice (some ⟨ba, 0, none⟩) M cap)) (fun w' => Below w.heap.size w w') (fun k => k == 13 || k == 14 || k == 15 || k == 16) (fun k => k == 16) (fun _ => false) (by kernel_rfl) (by kernel_rfl) ((Below.refl _ _).drew) (fun w' h => (HK.out _ (Fr.of_below h)).1) ?_
  repeat ((first
   | (refine wpL_read (v := ?_) (by rfl) (by rfl) (fun w6 hSw => ?_) ?_; rotate_left; (· (obtain ⟨y0, y1, y2, y3, y4⟩ := hSw; go_simp; try with_reducible rfl)))
   | (refine wpL_free (v := ?_) (by rfl) (fun w6 => ?_) ?_; rotate_left; (· (go_simp; try with_reducible rfl)))
   | refine wpL_not (by rfl) ?_); (try simp only [Act.put, pA, pB, pC]))
  refine wpL_call (f := ?_) (args := ?_) (fun v1 w1 => v1 = .agg #[.slice (some ⟨ba, F, none⟩) m m, .int .i64 (-1), .int .i64 S.atoms, .int .i64 S.bytes, .int .i64 S.breaks, .bool S.lf, .bool S.cr] /\ Below w.heap.size w w1) (by rfl) (by rfl) (fun w6 hSw => ?_) (fun w6 hSw => ?_) (.inr (fun v6 w6 hT6 => ?_)) (fun v6 hv6 => ?_)
  rotate_left 2
  ·(skip; go_simp; first | done | (constructor <;> with_reducible rfl) | with_reducible rfl)
  ·(refine (newPart_any enc Any (some ⟨ba, F, none⟩) m m (-1) l w6 HE.out (Reads.below HBT.out hSw) HBY.out (by omega) (Nat.le_refl _)).mono ?_; rintro e w1 ⟨rfl, hb1⟩; exact ⟨_, rfl, by rw [HS.out]; rfl, bseq hSw hb1⟩)
  ·(exact (HK.out _ (Fr.of_below hT6.2)).1)
  obtain ⟨wq, rfl, -⟩ := hv6
  (try simp only [Act.put, pA, pB, pC])
  refine wpL_heavy (fun u w' => ∃ wq, Below w.heap.size w wq /\ u = .slice (some ⟨wq.heap.size, 0, none⟩) 1 1 /\ w' = wq.alloc (.cells #[.slice (some ⟨ba, F, none⟩) m m, .int .i64 (-1), .int .i64 S.atoms, .int .i64 S.bytes, .int .i64 S.breaks, .bool S.lf, .bool S.cr] 142)) (by rfl) (by rfl) (fun w6 hSw => ?_) (.inr (fun v6 w6 hT6 => ?_)) (fun v6 hv6 => ?_)
  ·(go_simp; exact ⟨w6, hSw.2, rfl, rfl⟩)
  ·(obtain ⟨wq, hq, -, rfl⟩ := hT6; exact (HK.out _ (Fr.of_below (balloc hq))).1)
  skip
  (try simp only [Act.put, pA, pB, pC])
  refine wpL_heavy (fun u w' => Fr (OwnB v) w w' /\ w'.ownsRow w0.heap.size 142 7 u (ps.length + 1) (xs0 ++ [.slice (some ⟨ba, F, none⟩) m m, .int .i64 (-1), .int .i64 S.atoms, .int .i64 S.bytes, .int .i64 S.breaks, .bool S.lf, .bool S.cr])) (by rfl) (by rfl) (fun w6 hSw => ?_) (.inr (fun v6 w6 hT6 => ?_)) (fun v6 hv6 => ?_)
  ·(obtain ⟨wq, hq, rfl, rfl⟩ := hSw; exact hrun_append_own 225 rfl w0.heap.size 142 ip zp 7 64 Tryz.underlying225 hip hp0 hp1 hp2 hp3 (by decide) v ps.length _ rfl ((ownsRow_below HR.out hq).alloc _) ⟨wq.heap.size, 0, none⟩ 1 1 [.slice (some ⟨ba, F, none⟩) m m, .int .i64 (-1), .int .i64 S.atoms, .int .i64 S.bytes, .int .i64 S.breaks, .bool S.lf, .bool S.cr] rfl rfl (cells_new _ _ _) (part_one _ _ _ _ _ _ _ _ _) (by unfold maxLen; omega) (by omega) (by have := hq.size; simp; omega) (fun v' w' ho' hg' _ hat' => ⟨(Fr.of_below (balloc hq)).grown hg' (fun k hk _ => hk), ho'⟩))
  ·(exact (HK.out _ hT6.1).1)
  obtain ⟨wz, -, hz7⟩ := hv6; obtain ⟨A7, c7, rfl, -⟩ := own_slice hz7
  (try simp only [Act.put, pA, pB, pC])
  refine wpL_heavy (fun _ w' => ∃ wq, (Fr (OwnB v) w wq /\ wq.ownsRow w0.heap.size 142 7 (.slice A7 (ps.length + 1) c7) (ps.length + 1) (xs0 ++ [.slice (some ⟨ba, F, none⟩) m m, .int .i64 (-1), .int .i64 S.atoms, .int .i64 S.bytes, .int .i64 S.breaks, .bool S.lf, .bool S.cr])) /\ w' = wq.setCell ⟨bp, 0, none⟩ (.slice A7 (ps.length + 1) c7)) (by rfl) (by rfl) (fun w6 hSw => ?_) (.inl (by rfl)) (fun v6 hv6 => ?_)
  ·(obtain ⟨⟨y0, y1, y2, y3, y4⟩, y5, y6, y7⟩ := HK.out _ hSw.1; go_simp; exact ⟨w6, hSw, rfl⟩)
  skip
  (try simp only [Act.put, pA, pB, pC])
  refine wpL_nil ?_
  rintro w2 ⟨wq, ⟨hfr, hown⟩, rfl⟩
  have hB3 := (HK.out _ hfr).2
  have y6 : (wq.setCell ⟨bp, 0, none⟩ (.slice A7 (ps.length + 1) c7)).frozen? ⟨bf, 0, none⟩ = false := (World.frozen?_setCell _ _ _ _).trans hB3.2.1
  have y7 : ((wq.setCell ⟨bp, 0, none⟩ (.slice A7 (ps.length + 1) c7)).setCell ⟨bf, 0, none⟩ (.int .i64 M)).frozen? ⟨bn, 0, none⟩ = false := (World.frozen?_setCell _ _ _ _).trans ((World.frozen?_setCell _ _ _ _).trans hB3.2.2)
  obtain ⟨z6, z7⟩ := HCL.out _ hfr (.slice A7 (ps.length + 1) c7) (.int .i64 M)
  have HP := Lib.hid (HF.out _ _ hfr hown)
  clear hB3 hfr hown
  go_wp2_with fail
  refine bodyPost_ret (results_none rfl _ _ _) rfl ⟨rfl, _, _, HP.out⟩
theorem clusters_any (L : Ln) (i : Int) (A1 A2 : Option Addr) (n1 c1 n2 c2 : Nat) (w : World) (hn : n2 <= 2147483648) (h1 : 1 <= n2) :
  Calls Tryz.prog 54 #[.agg (rowV L i A1 n1 c1 A2 n2 c2)] w fun e w' => e = .returned (.int .i64 ((n2 - 1 : Nat) : Int)) /\ Below w.heap.size w w' := by
 have hW : Below w.heap.size w (w.alloc (.cells (rowV L i A1 n1 c1 A2 n2 c2) 94)) := balloc (Below.refl _ w)
 have hq : IntKind.i64.wrap ((n2 : Int) - 1) = ((n2 - 1 : Nat) : Int) := by rw [IntWalk.i64_in _ (by omega)]; omega
 unfold rowV at hW ⊢
 go_enter Tryz.func54, Tryz.ntmps54
 go_wp2_with fail
 go_ret
 exact ⟨ret_i (by omega), hW⟩
theorem ints_form {w : World} {D : Nat -> Prop} {A : Option Addr} {n : Nat} {l : List Int} (h : Ints w D A n l) (hn : 0 < n) :
  ∃ b off, A = some ⟨b, off, none⟩ /\ D b /\ ∀ k, k < n -> w.cell? ⟨b, off + k, none⟩ = some (.int .i64 (l.getD k 0)) := by
 have hlen := h.len
 obtain ⟨b, off, e, hD, hc⟩ := Reads.form h hn (by decide)
 refine ⟨b, off, e, hD, fun k hk => hc k _ ?_⟩
 rw [List.getElem?_map, List.getD_eq_getElem?_getD, List.getElem?_eq_getElem (by omega)]
 rfl
theorem keep8 {w w1 : World} {b b' o : Nat} {u0 u1 u2 u3 u4 u5 u6 u : Value} (hb : Below w.heap.size w w1) (h : w.cell? ⟨b, 0, none⟩ = some u0 /\ w.cell? ⟨b, 1, none⟩ = some u1 /\ w.cell? ⟨b, 2, none⟩ = some u2 /\ w.cell? ⟨b, 3, none⟩ = some u3 /\ w.cell? ⟨b, 4, none⟩ = some u4 /\ w.cell? ⟨b, 5, none⟩ = some u5 /\ w.cell? ⟨b, 6, none⟩ = some u6 /\ w.cell? ⟨b', o, none⟩ = some u) :
  w1.cell? ⟨b, 0, none⟩ = some u0 /\ w1.cell? ⟨b, 1, none⟩ = some u1 /\ w1.cell? ⟨b, 2, none⟩ = some u2 /\ w1.cell? ⟨b, 3, none⟩ = some u3 /\ w1.cell? ⟨b, 4, none⟩ = some u4 /\ w1.cell? ⟨b, 5, none⟩ = some u5 /\ w1.cell? ⟨b, 6, none⟩ = some u6 /\ w1.cell? ⟨b', o, none⟩ = some u :=
 ⟨cell_keep hb h.1, cell_keep hb h.2.1, cell_keep hb h.2.2.1, cell_keep hb h.2.2.2.1, cell_keep hb h.2.2.2.2.1, cell_keep hb h.2.2.2.2.2.1, cell_keep hb h.2.2.2.2.2.2.1, cell_keep hb h.2.2.2.2.2.2.2⟩
theorem place_any (D : Nat -> Prop) (L : Ln) (i : Int) (C : List Int) (v : Array Value) (k : Int) (w : World) (h : RowC w D L i C v) (hL : 0 <= L.from_ /\ L.from_ <= 1073741824) (hn : (allB C).length <= 1073741825) (hB : ∀ x ∈ allB C, 0 <= x /\ x <= 1073741824) (hk0 : 0 <= k) (hk : k < ((allB C).length : Int)) :
  Calls Tryz.prog 53 #[.agg v, .int .i64 k] w fun e w' => e = .returned (.int .i64 (L.from_ + (allB C).getD k.toNat 0)) /\ Below w.heap.size w w' := by
 obtain ⟨A1, n1, c1, A2, n2, c2, rfl, h1, h2, h3, h4⟩ := h
 obtain ⟨x0, x1, x2, x3⟩ := L
 dsimp only at hL ⊢
 have hlen := h3.len
 have hpos : 0 < (allB C).length := by simp [allB]
 obtain ⟨b, off, rfl, hD, hcell⟩ := ints_form h3 (by omega)
 have hc := hcell k.toNat (by omega)
 have hmb : 0 <= (allB C).getD k.toNat 0 /\ (allB C).getD k.toNat 0 <= 1073741824 := by
  rw [List.getD_eq_getElem?_getD, List.getElem?_eq_getElem (by omega)]
  exact hB _ (List.getElem_mem _)
 obtain ⟨m, hm⟩ : ∃ m, (allB C).getD k.toNat 0 = m := ⟨_, rfl⟩
 rw [hm] at hc hmb ⊢
 obtain ⟨j, hj⟩ : ∃ j : Nat, k.toNat = j := ⟨_, rfl⟩
 rw [hj] at hc
 have hj2 : j <= n2 - 1 := by omega
 have hcl := fun (w' : World) => clusters_any ⟨x0, x1, x2, x3⟩ i A1 (some ⟨b, off, none⟩) n1 c1 n2 c2 w' (by omega) (by omega)
 obtain ⟨N, hN⟩ : ∃ N, n2 - 1 = N := ⟨_, rfl⟩
 rw [hN] at hcl hj2
 have hjn : (j : Int) < (n2 : Int) := by omega
 have hj0 : (0 : Int) <= (j : Int) := by omega
 have hjc : (j : Int) <= (N : Int) := by omega
 have hwr : IntKind.i64.wrap (x0 + m) = x0 + m := IntWalk.i64_in _ (by omega)
 have hkk : k = (j : Int) := by omega
 have hb0 := Blk.new w 94 (rowV ⟨x0, x1, x2, x3⟩ i A1 n1 c1 (some ⟨b, off, none⟩) n2 c2)
 obtain ⟨⟨g0, g1, g2, g3, g4, g5, g6⟩, _⟩ := row_facts hb0
 have hcw := cell_keep (balloc (o := .cells (rowV ⟨x0, x1, x2, x3⟩ i A1 n1 c1 (some ⟨b, off, none⟩) n2 c2) 94) (Below.refl _ w)) hc
 have hW : Below w.heap.size w (w.alloc (.cells (rowV ⟨x0, x1, x2, x3⟩ i A1 n1 c1 (some ⟨b, off, none⟩) n2 c2) 94)) := balloc (Below.refl _ w)
 unfold rowV at hcl g0 g1 g2 g3 g4 g5 g6 hcw hW
 dsimp only at hcl g0 g1 g2 g3 g4 g5 g6 hcw hW
 have HCL := Lib.hid hcl
 have HW := Lib.hid hW
 have hS := And.intro g0 (And.intro g1 (And.intro g2 (And.intro g3 (And.intro g4 (And.intro g5 (And.intro g6 hcw))))))
 clear hcl hm hj hN hlen hpos hcell hB hb0 h1 h3 hW
 subst hkk
 ·have hz2 : ((N : Int) < (j : Int)) = False := by simp; omega
  have hz3 : (N < j) = False := by simp; omega
  have hz4 : ((j : Int) < 0) = False := by simp
  unfold rowV
  go_enter Tryz.func53, Tryz.ntmps53
  go_upto_region 1 with fail
  go_cut [4] (fun s4 wx => s4 = .int .i64 (x0 + m) /\ Below w.heap.size w wx)
  case first =>
   have hSd := keep8 (Below.drew (Below.refl _ _)) hS
   go_region_held3 (fun w' => w'.cell? ⟨w.heap.size, 0, none⟩ = some (.int .i64 x0) /\ w'.cell? ⟨w.heap.size, 1, none⟩ = some (.int .i64 x1) /\ w'.cell? ⟨w.heap.size, 2, none⟩ = some (.int .i64 x2) /\ w'.cell? ⟨w.heap.size, 3, none⟩ = some (.int .i64 x3) /\ w'.cell? ⟨w.heap.size, 4, none⟩ = some (.int .i64 i) /\ w'.cell? ⟨w.heap.size, 5, none⟩ = some (.slice A1 n1 c1) /\ w'.cell? ⟨w.heap.size, 6, none⟩ = some (.slice (some ⟨b, off, none⟩) n2 c2) /\ w'.cell? ⟨b, off + j, none⟩ = some (.int .i64 m)) (first | (with_reducible assumption) | (with_reducible exact hSd)) (first | (go_at_call 54; refine (HCL.out _).mono ?_; rintro e w1 ⟨rfl, hb1⟩; have s1 := keep8 (bdrew hb1) hS))
   all_goals
    go_wp2_with fail
    go_meet
    exact ⟨rfl, bseq HW.out (bdrew hb1)⟩
  case rest =>
   obtain ⟨rfl, hb⟩ := hcut
   go_wp2_with fail
   go_ret
   exact ⟨rfl, hb⟩
structure ColOk (F at_ : Int) (M : List Int) (j : Nat) : Prop where
 lt : j < M.length
 low : j = 0 \/ F + M.getD j 0 <= at_
 high : ∀ k, j < k -> k < M.length -> at_ < F + M.getD k 0
def ColR (F at_ : Int) (M : List Int) (cs : Array Value) (w : World) (k : Nat) (q5 q6 : Value) (wr : World) : Prop :=
 ∃ lo hi : Nat, q5 = .int .i64 (lo : Int) /\ q6 = .int .i64 (hi : Int) /\ lo <= hi /\ hi < M.length /\ Hid (lo = 0 \/ F + M.getD lo 0 <= at_) /\ Hid (∀ j, hi < j -> j < M.length -> at_ < F + M.getD j 0) /\ hi - lo <= k /\
  Below w.heap.size w wr /\ Blk wr w.heap.size 94 cs
theorem column_any (D : Nat -> Prop) (L : Ln) (i : Int) (C : List Int) (v : Array Value) (at_ : Int) (w : World) (h : RowC w D L i C v) (hL : 0 <= L.from_ /\ L.from_ <= 1073741824) (hn : (allB C).length <= 1073741825) (hB : ∀ x ∈ allB C, 0 <= x /\ x <= 1073741824)
  (hs : ∀ a b, a <= b -> b < (allB C).length -> (allB C).getD a 0 <= (allB C).getD b 0) :
  Calls Tryz.prog 55 #[.agg v, .int .i64 at_] w fun e w' => (∃ j : Nat, e = .returned (.int .i64 (j : Int)) /\ ColOk L.from_ at_ (allB C) j) /\ Below w.heap.size w w' := by
 obtain ⟨A1, n1, c1, A2, n2, c2, rfl, h1, h2, h3, h4⟩ := h
 obtain ⟨x0, x1, x2, x3⟩ := L
 dsimp only at hL ⊢
 have hlen := h3.len
 have hpos : 0 < (allB C).length := by simp [allB]
 obtain ⟨b, off, rfl, hD, hcell⟩ := ints_form h3 (by omega)
 obtain ⟨M, hM⟩ : ∃ M, allB C = M := ⟨_, rfl⟩
 rw [hM] at hcell hB hs hn hlen hpos ⊢
 clear hM h1 h3
 have hcl := fun (w' : World) => clusters_any ⟨x0, x1, x2, x3⟩ i A1 (some ⟨b, off, none⟩) n1 c1 n2 c2 w' (by omega) (by omega)
 have hW : Below w.heap.size w (w.alloc (.cells (rowV ⟨x0, x1, x2, x3⟩ i A1 n1 c1 (some ⟨b, off, none⟩) n2 c2) 94)) := balloc (Below.refl _ w)
 have hb0 := Blk.new w 94 (rowV ⟨x0, x1, x2, x3⟩ i A1 n1 c1 (some ⟨b, off, none⟩) n2 c2)
 obtain ⟨N, hN⟩ : ∃ N, n2 - 1 = N := ⟨_, rfl⟩
 rw [hN] at hcl
 have HCE := Lib.hid hcell
 have HBB := Lib.hid hB
 have HSS := Lib.hid hs
 clear hcell hB hs
 unfold rowV at hcl hW ⊢
 dsimp only at hcl hW ⊢
 have HCL := Lib.hid hcl
 clear hcl
 go_enter Tryz.func55, Tryz.ntmps55
 go_wp2_with fail
 refine (HCL.out _).mono ?_
 rintro e w1 ⟨rfl, hb1⟩
 have hW1 := bseq hW hb1
 have hB1 := hb0.below hb1
 go_wp2_with fail
 go_loopg [5, 6] N (fun k p q wr => ColR x0 at_ M (rowV ⟨x0, x1, x2, x3⟩ i A1 n1 c1 (some ⟨b, off, none⟩) n2 c2) w k p q wr)
 case atStart => exact ⟨0, N, rfl, rfl, by omega, by omega, Lib.hid (.inl rfl), Lib.hid (fun j h1 h2 => absurd h1 (by omega)), by omega, hW1, hB1⟩
 case round =>
  obtain ⟨lo, hi, rfl, rfl, hle, hhi, hlo, hup, hk, hw, hbk⟩ := hrel
  by_cases hlt : lo < hi
  ·obtain ⟨m, hm⟩ : ∃ m, (lo + hi + 1) / 2 = m := ⟨_, rfl⟩
   have hm2 : ((lo : Int) + (hi : Int) + 1) / 2 = (m : Int) := by omega
   have hmb : lo < m /\ m <= hi := by omega
   have hcm := cell_keep hw (HCE.out m (by omega))
   have hmx : 0 <= M.getD m 0 /\ M.getD m 0 <= 1073741824 := by
    rw [List.getD_eq_getElem?_getD, List.getElem?_eq_getElem (by omega)]
    exact HBB.out _ (List.getElem_mem _)
   obtain ⟨y, hy⟩ : ∃ y, M.getD m 0 = y := ⟨_, rfl⟩
   rw [hy] at hcm hmx
   obtain ⟨⟨g0, g1, g2, g3, g4, g5, g6⟩, _⟩ := row_facts hbk
   dsimp only at g0
   have hy' := Lib.hid hy
   have hwr : IntKind.i64.wrap (x0 + y) = x0 + y := IntWalk.i64_in _ (by omega)
   have z1 : (0 : Int) <= (m : Int) := by omega
   have z2 : (m : Int) < (n2 : Int) := by omega
   clear hy
   dsimp only at g1 g2 g3
   by_cases hc : x0 + y <= at_
   ·go_upto_region 4 with fail
    go_quiet (fail)
    go_wp2_with fail
    go_roundg (hi - m)
    case measure => omega
    case rel => exact ⟨m, hi, by go_num, rfl, by omega, hhi, Lib.hid (.inr (by rw [hy'.out]; exact hc)), hup, by omega, below_drewN hw _, hbk.drewN _⟩
   ·go_upto_region 4 with fail
    go_quiet (fail)
    go_wp2_with fail
    go_roundg (m - 1 - lo)
    case measure => omega
    case rel =>
     refine ⟨lo, m - 1, rfl, by go_num, by omega, by omega, hlo, Lib.hid (fun j h1 h2 => ?_), by omega, below_drewN hw _, hbk.drewN _⟩
     have := HSS.out m j (by omega) h2
     rw [hy'.out] at this
     omega
  ·have hee : lo = hi := by omega
   subst hee
   go_wp2_with fail
   go_ret
   exact ⟨⟨lo, rfl, hhi, hlo.out, hup.out⟩, hw⟩
theorem first_v {L : Ln} {i : Int} {D : Nat -> Prop} {C : List Int} {v : Array Value} {w : World} (h : RowC w D L i C v) : ∃ A1 n1 c1 A2 n2 c2, v = rowV L i A1 n1 c1 A2 n2 c2 := by
 obtain ⟨A1, n1, c1, A2, n2, c2, e, _⟩ := h
 exact ⟨A1, n1, c1, A2, n2, c2, e⟩
theorem bnds_chain (l : List Int) : ∀ (f p : Nat), l.length - p <= f -> p <= l.length ->
  (∀ k, k < (bnds l p).length -> (p :: bnds l p).getD k 0 < l.length /\ (p :: bnds l p).getD (k + 1) 0 = nextB l ((p :: bnds l p).getD k 0)) /\ (p :: bnds l p).getD (bnds l p).length 0 = l.length := by
 intro f
 induction f with
 | zero =>
  intro p h hp
  rw [bnds_ge l p (by omega)]
  refine ⟨fun k hk => absurd hk (by simp), ?_⟩
  simp
  omega
 | succ f ih =>
  intro p h hp
  by_cases hlt : p < l.length
  ·have hg := nextB_gt l p
   have hl := nextB_le l p hlt
   obtain ⟨h1, h2⟩ := ih (nextB l p) (by omega) hl
   rw [bnds_lt l p hlt]
   refine ⟨fun k hk => ?_, ?_⟩
   ·cases k with
    | zero => exact ⟨by simpa using hlt, by simp⟩
    | succ k =>
     have := h1 k (by simpa using hk)
     simpa using this
   ·simpa using h2
  ·rw [bnds_ge l p (by omega)]
   refine ⟨fun k hk => absurd hk (by simp), ?_⟩
   simp
   omega
noncomputable def mkb (C : List Int) (k : Nat) : Nat := (0 :: bnds C 0).getD k 0
noncomputable def nC (C : List Int) : Nat := (bnds C 0).length
theorem mk_zero (C : List Int) : mkb C 0 = 0 := rfl
theorem mk_step {C : List Int} {k : Nat} (h : k < nC C) : mkb C k < C.length /\ mkb C (k + 1) = nextB C (mkb C k) := (bnds_chain C C.length 0 (by omega) (by omega)).1 k h
theorem mk_last (C : List Int) : mkb C (nC C) = C.length := (bnds_chain C C.length 0 (by omega) (by omega)).2
theorem mk_lt {C : List Int} {k : Nat} (h : k < nC C) : mkb C k < mkb C (k + 1) := by rw [(mk_step h).2]; exact nextB_gt _ _
theorem mk_mono {C : List Int} {a b : Nat} (h : a <= b) (hb : b <= nC C) : mkb C a <= mkb C b := by
 induction b with
 | zero => rw [Nat.le_zero.1 h]; exact Nat.le_refl _
 | succ b ih =>
  rcases Nat.eq_or_lt_of_le h with h | h
  ·rw [h]; exact Nat.le_refl _
  ·exact Nat.le_of_lt (Nat.lt_of_le_of_lt (ih (by omega) (by omega)) (mk_lt (by omega)))
theorem mk_le {C : List Int} {k : Nat} (h : k <= nC C) : mkb C k <= C.length := by rw [<- mk_last]; exact mk_mono h (Nat.le_refl _)
theorem allB_len (C : List Int) : (allB C).length = nC C + 1 := by simp [allB, nC]
theorem allB_at {C : List Int} {k : Nat} (h : k <= nC C) : (allB C).getD k 0 = (mkb C k : Int) := by
 unfold allB mkb
 cases k with
 | zero => rfl
 | succ k =>
  have hk : k < (bnds C 0).length := h
  simp only [List.getD_cons_succ]
  rw [List.getD_eq_getElem?_getD, List.getD_eq_getElem?_getD, List.getElem?_map, List.getElem?_eq_getElem hk]
  rfl
theorem allB_bd {C : List Int} (h : C.length <= 1073741824) : ∀ x ∈ allB C, 0 <= x /\ x <= 1073741824 := by
 intro x hx
 obtain ⟨k, hk, rfl⟩ := List.getElem_of_mem hx
 rw [allB_len] at hk
 have e := allB_at (C := C) (k := k) (by omega)
 rw [List.getD_eq_getElem?_getD, List.getElem?_eq_getElem (by rw [allB_len]; exact hk)] at e
 simp only [Option.getD_some] at e
 have := mk_le (C := C) (k := k) (by omega)
 omega
theorem allB_sorted {C : List Int} (a b : Nat) (h : a <= b) (hb : b < (allB C).length) : (allB C).getD a 0 <= (allB C).getD b 0 := by
 rw [allB_len] at hb
 rw [allB_at (by omega), allB_at (by omega)]
 have := mk_mono (C := C) h (by omega)
 omega
theorem nC_le (C : List Int) : nC C <= C.length := by
 have h : ∀ k, k <= nC C -> k <= mkb C k := by
  intro k
  induction k with
  | zero => intro _; omega
  | succ k ih =>
   intro h
   have := ih (by omega)
   have := mk_lt (C := C) (k := k) (by omega)
   omega
 have := h (nC C) (Nat.le_refl _)
 rw [mk_last] at this
 exact this
structure InC (C : List Int) (r j : Nat) : Prop where
 le : j <= nC C
 low : mkb C j <= r
 high : ∀ k, j < k -> k <= nC C -> r < mkb C k
theorem InC.uniq {C : List Int} {r j j' : Nat} (h : InC C r j) (h' : InC C r j') : j = j' := by
 rcases Nat.lt_trichotomy j j' with hlt | e | hlt
 ·have := h.high j' hlt h'.le; have := h'.low; omega
 ·exact e
 ·have := h'.high j hlt h.le; have := h.low; omega
theorem column_mk (D : Nat -> Prop) (L : Ln) (i : Int) (C : List Int) (v : Array Value) (r : Nat) (w : World) (h : RowC w D L i C v) (hL : 0 <= L.from_ /\ L.from_ <= 1073741824) (hC : C.length <= 1073741824) :
  Calls Tryz.prog 55 #[.agg v, .int .i64 (L.from_ + (r : Int))] w fun e w' => (∃ j : Nat, e = .returned (.int .i64 (j : Int)) /\ InC C r j) /\ Below w.heap.size w w' := by
 have hn := nC_le C
 refine (column_any D L i C v _ w h hL (by rw [allB_len]; omega) (allB_bd hC) allB_sorted).mono ?_
 rintro e w' ⟨⟨j, rfl, hc⟩, hb⟩
 obtain ⟨h1, h2, h3⟩ := hc
 rw [allB_len] at h1 h3
 refine ⟨⟨j, rfl, by omega, ?_, fun k hk hk2 => ?_⟩, hb⟩
 ·rcases h2 with rfl | h2
  ·rw [mk_zero]; omega
  ·rw [allB_at (by omega)] at h2; omega
 ·have := h3 k hk (by omega)
  rw [allB_at (by omega)] at this
  omega
theorem place_mk (D : Nat -> Prop) (L : Ln) (i : Int) (C : List Int) (v : Array Value) (k : Nat) (w : World) (h : RowC w D L i C v) (hL : 0 <= L.from_ /\ L.from_ <= 1073741824) (hC : C.length <= 1073741824) (hk : k <= nC C) :
  Calls Tryz.prog 53 #[.agg v, .int .i64 (k : Int)] w fun e w' => e = .returned (.int .i64 (L.from_ + (mkb C k : Int))) /\ Below w.heap.size w w' := by
 have hn := nC_le C
 have := place_any D L i C v (k : Int) w h hL (by rw [allB_len]; omega) (allB_bd hC) (by omega) (by rw [allB_len]; omega)
 rw [Int.toNat_natCast, allB_at hk] at this
 exact this
noncomputable def kd (C : List Int) (k : Nat) : Int := wordF (C.getD (mkb C k) 0)
theorem clusters_mk (D : Nat -> Prop) (L : Ln) (i : Int) (C : List Int) (v : Array Value) (w : World) (h : RowC w D L i C v) (hC : C.length <= 1073741824) :
  Calls Tryz.prog 54 #[.agg v] w fun e w' => e = .returned (.int .i64 (nC C : Nat)) /\ Below w.heap.size w w' := by
 obtain ⟨A1, n1, c1, A2, n2, c2, rfl, h1, h2, h3, h4⟩ := h
 have hlen := h3.len
 have hn := nC_le C
 rw [allB_len] at hlen
 have := clusters_any L i A1 A2 n1 c1 n2 c2 w (by omega) (by omega)
 rw [show n2 - 1 = nC C by omega] at this
 exact this
theorem inC_ex {C : List Int} {r : Nat} (hr : r <= C.length) : ∃ j, InC C r j := by
 have key : ∀ n, n <= nC C -> ∃ j, j <= n /\ mkb C j <= r /\ ∀ k, j < k -> k <= n -> r < mkb C k := by
  intro n
  induction n with
  | zero => intro _; exact ⟨0, Nat.le_refl _, by rw [mk_zero]; omega, fun k h1 h2 => by omega⟩
  | succ n ih =>
   intro hn
   obtain ⟨j, h1, h2, h3⟩ := ih (by omega)
   rcases Nat.lt_or_ge r (mkb C (n + 1)) with h4 | h4
   ·refine ⟨j, by omega, h2, fun k hk hk2 => ?_⟩
    rcases Nat.eq_or_lt_of_le hk2 with e | e
    ·rw [e]; exact h4
    ·exact h3 k hk (by omega)
   ·exact ⟨n + 1, Nat.le_refl _, h4, fun k hk hk2 => by omega⟩
 obtain ⟨j, h1, h2, h3⟩ := key (nC C) (Nat.le_refl _)
 exact ⟨j, h1, h2, h3⟩
end Go.Proofs.YtkoakanpaehkmaaGreatDoor
