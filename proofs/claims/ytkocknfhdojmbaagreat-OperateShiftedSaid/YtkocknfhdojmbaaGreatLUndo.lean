/-
  The walk of inverse: it answers, and leaves what was (what it answers is of no account where there are no marks). The walk of Book.Undo (no marks).
-/
import Derived.Test.YtkocknfhdojmbaaGreatLBChange
import Derived.Test.YtkocknfhdojmbaaGreatLUndoLaw
import Derived.Test.YtkocknfhdojmbaaGreatLEnd2
set_option linter.unusedSimpArgs false
set_option linter.unusedVariables false
set_option maxRecDepth 100000
set_option maxHeartbeats 32000000
namespace Go.Proofs.YtkocknfhdojmbaaGreat
open Go.RowKit
theorem mvFlat_at (es : List Mv) (k : Nat) (hk : k < es.length) (j : Nat) (hj : j < 3) : (mvFlat es)[k * 3 + j]? = es[k].cells[j]? := by
 unfold mvFlat
 induction es generalizing k with
 | nil => simp at hk
 | cons p ps ih =>
  rw [List.flatMap_cons]
  cases k with
  | zero =>
   rw [List.getElem?_append_left (by simp [Mv.cells]; omega)]
   simp
  | succ k =>
   rw [List.getElem?_append_right (by simp [Mv.cells]; omega)]
   have := ih k (by simpa using hk)
   simp only [List.getElem_cons_succ]
   rw [<- this]
   congr 1
   simp [Mv.cells]
   omega
theorem RowT.mv {w : World} {N m : Nat} {A : Option Addr} {mv : List Mv} (h : RowT w N 211 3 A m (mvFlat mv)) (hl : mv.length = m) {j : Nat} (hj : j < m) :
  ∃ b o f t n, A = some ⟨b, o, none⟩ /\ w.cell? ⟨b, o + j * 3, none⟩ = some (.int .i64 f) /\ w.cell? ⟨b, o + j * 3 + 1, none⟩ = some (.int .i64 t) /\ w.cell? ⟨b, o + j * 3 + 2, none⟩ = some (.int .i64 n) := by
 obtain ⟨b, o, cs, e, _, hk, hc⟩ := h.2 (by omega)
 refine ⟨b, o, mv[j].f, mv[j].t, mv[j].n, e, ?_, ?_, ?_⟩
 ·rw [hk.cell]
  exact hc _ _ (by have := mvFlat_at mv j (by omega) 0 (by omega); rw [Nat.add_zero] at this; rw [this]; rfl)
 ·rw [hk.cell, Nat.add_assoc]
  exact hc _ _ (by rw [mvFlat_at mv j (by omega) 1 (by omega)]; rfl)
 ·rw [hk.cell, Nat.add_assoc]
  exact hc _ _ (by rw [mvFlat_at mv j (by omega) 2 (by omega)]; rfl)
def InvR (w2 : World) (b m : Nat) (k : Nat) (q4 q12 : Value) (wr : World) : Prop :=
 ∃ (s : Int) (j : Nat) (cs : Array Value), q4 = .int .i64 s /\ q12 = .int .i64 (j : Int) /\ Blk wr b 211 cs /\ cs.size = m * 3 /\ Fr (fun x => x = b) w2 wr /\ j <= m /\ m - j <= k
theorem inverse_any (N : Nat) (A : Option Addr) (m c : Nat) (mv : List Mv) (w : World) (hr : RowT w N 211 3 A m (mvFlat mv)) (hN : N <= w.heap.size) (hl : mv.length = m) (hm : m <= 1073741824) :
  Calls Tryz.prog 86 #[.slice A m c] w fun e w' => (∃ v, e = .returned v) /\ Below w.heap.size w w' := by
 obtain ⟨im, him, hi0, hi1, hi2⟩ := info_parts move_info
 have HR := Lib.hid hr
 have HL := Lib.hid hl
 clear hr hl
 go_enter Tryz.func86, Tryz.ntmps86
 go_wp2_with (at_make; refine wpList_make_full _ rfl _ _ 158 rfl w.heap.size 211 im (.agg #[.int .i64 0, .int .i64 0, .int .i64 0]) 3 Tryz.underlying158 him hi0 hi1 _ _ _ _ m rfl rfl rfl rfl (by rw [hi2]; omega) (by unfold maxLen; omega) (Nat.le_refl _) ?_)
 intro w2 ho2 hg2
 obtain ⟨cs0, hcl, hB2⟩ : ∃ cs0 : Array Value, cs0.size = m * 3 /\ Blk w2 w.heap.size 211 cs0 := ⟨_, by simp [size_madeCells], own_fullN ho2⟩
 have hb2 : Below w.heap.size w w2 := below_grown hg2
 have hB2lt : w.heap.size < w2.heap.size := hB2.lt
 clear ho2 hg2 him hi0 hi1 hi2
 go_wp2_with fail
 go_loopg [4, 12] m (fun k q4 q12 wr => InvR w2 w.heap.size m k q4 q12 wr)
 case atStart => exact ⟨0, 0, cs0, rfl, rfl, hB2, hcl, Fr.refl _ _, by omega, by omega⟩
 case round =>
  obtain ⟨s, j, cs, rfl, rfl, hB, hcs, hF, hj, hgk⟩ := hrel
  obtain ⟨w3, hw3⟩ : ∃ x, x = wr := ⟨_, rfl⟩
  subst hw3
  by_cases hlt : j < m
  ·have hR3 : RowT w3 N 211 3 A m (mvFlat mv) := (HR.out.keep (KeepTy.below hb2)).keep (KeepTy.fr hF (fun b cs hb hs _ => by omega))
   obtain ⟨eb, eo, ef, et, en, rfl, z0, z1, z2⟩ := hR3.mv HL.out hlt
   have hlb := hB.lt
   clear hR3
   go_upto_region 6 with fail
   obtain ⟨w4, hw4⟩ : ∃ w4, w3.alloc (.cells #[.int .i64 ef, .int .i64 et, .int .i64 en] 211) = w4 := ⟨_, rfl⟩
   have hbx := Blk.new w3 211 #[.int .i64 ef, .int .i64 et, .int .i64 en]
   have hB3 := hB.alloc (.cells #[.int .i64 ef, .int .i64 et, .int .i64 en] 211)
   have hF4 := hF.alloc (.cells #[.int .i64 ef, .int .i64 et, .int .i64 en] 211)
   rw [hw4] at hbx hB3 hF4 ⊢
   clear hw4
   obtain ⟨u0, hu0⟩ : ∃ u, cs[j * 3]? = some u := ⟨cs[j * 3]'(by omega), Array.getElem?_eq_getElem (by omega)⟩
   obtain ⟨u1, hu1⟩ : ∃ u, cs[j * 3 + 1]? = some u := ⟨cs[j * 3 + 1]'(by omega), Array.getElem?_eq_getElem (by omega)⟩
   obtain ⟨u2, hu2⟩ : ∃ u, cs[j * 3 + 2]? = some u := ⟨cs[j * 3 + 2]'(by omega), Array.getElem?_eq_getElem (by omega)⟩
   have r0 := hB3.cell (j * 3)
   have r1 := hB3.cell (j * 3 + 1)
   have r2 := hB3.cell (j * 3 + 2)
   rw [hu0] at r0
   rw [hu1] at r1
   rw [hu2] at r2
   have f0 := hB3.frozen (j * 3)
   have f1 := hB3.frozen (j * 3 + 1)
   have f2 := hB3.frozen (j * 3 + 2)
   have x0 := hbx.cell 0
   have x1 := hbx.cell 1
   have x2 := hbx.cell 2
   simp at x0 x1 x2
   clear hu0 hu1 hu2 z0 z1 z2
   have ej : ((j : Int) + 1) = ((j + 1 : Nat) : Int) := by omega
   have hne : w3.heap.size ≠ w.heap.size := by omega
   have hfin : ∀ (q : Int) v0 v1 v2, InvR w2 w.heap.size m (m - (j + 1)) (.int .i64 q) (.int .i64 ((j + 1 : Nat) : Int)) (((w4.setCell ⟨w.heap.size, j * 3, none⟩ v0).setCell ⟨w.heap.size, j * 3 + 1, none⟩ v1).setCell ⟨w.heap.size, j * 3 + 2, none⟩ v2) := fun q v0 v1 v2 =>
    ⟨q, j + 1, _, rfl, rfl, ((hB3.set_ (j * 3) v0).set_ (j * 3 + 1) v1).set_ (j * 3 + 2) v2, by simp [hcs], ((hF4.setCell (p := ⟨w.heap.size, j * 3, none⟩) (.inl rfl) v0).setCell (p := ⟨w.heap.size, j * 3 + 1, none⟩) (.inl rfl) v1).setCell (p := ⟨w.heap.size, j * 3 + 2, none⟩) (.inl rfl) v2, by omega, by omega⟩
   have hX5 := fun v0 v1 v2 => ((hbx.far (p := ⟨w.heap.size, j * 3, none⟩) hne v0).far (p := ⟨w.heap.size, j * 3 + 1, none⟩) hne v1).far (p := ⟨w.heap.size, j * 3 + 2, none⟩) hne v2
   have HFIN := Lib.hid hfin
   have HX5 := Lib.hid hX5
   clear hfin hX5 hB3 hF4 hB hF hbx
   go_upto_region 7 with fail
   obtain ⟨v0, hv0⟩ : ∃ v, Value.int .i64 (wrap64 (ef + s)) = v := ⟨_, rfl⟩
   obtain ⟨v1, hv1⟩ : ∃ v, Value.int .i64 (wrap64 (wrap64 (ef + s) + en)) = v := ⟨_, rfl⟩
   obtain ⟨v2, hv2⟩ : ∃ v, Value.int .i64 (wrap64 (et - ef)) = v := ⟨_, rfl⟩
   rw [hv1, hv2, hv0]
   clear hv0 hv1 hv2
   have hX := HX5.out v0 v1 v2
   have hfin := fun q => HFIN.out q v0 v1 v2
   obtain ⟨w5, hw5⟩ : ∃ w5, ((w4.setCell ⟨w.heap.size, j * 3, none⟩ v0).setCell ⟨w.heap.size, j * 3 + 1, none⟩ v1).setCell ⟨w.heap.size, j * 3 + 2, none⟩ v2 = w5 := ⟨_, rfl⟩
   rw [hw5] at hX hfin ⊢
   rw [<- ej] at hfin
   have y0 := hX.cell 0
   have y1 := hX.cell 1
   have y2 := hX.cell 2
   simp at y0 y1 y2
   have HFI := Lib.hid hfin
   clear hfin hX HX5 HFIN hw5 ej x0 x1 x2 r0 r1 r2 f0 f1 f2
   go_wp2_with fail
   go_roundg (m - (j + 1))
   case measure => omega
   case rel => exact HFI.out _
  ·have hjm : j = m := by omega
   subst hjm
   have hfin : Below w.heap.size w w3 := (Fr.call (S := fun x => x = w.heap.size) (Fr.of_below hb2) hF (fun i hi hs => hs)).below (fun k hk h => by omega)
   clear hB hF
   go_wp2_with fail
   go_ret
   exact ⟨⟨_, rfl⟩, hfin⟩
def UndoQ (N B gb g : Nat) (enc lim : Int) (n : Nat) (add : Value) (st : BkS) (xs : List Value) (m : Nat) (us : List Gr) (G : Gr) (w : World) (e : Ending) (w' : World) : Prop :=
 e = .returned (.tuple #[.int .i64 G.bgn, .int .i64 0]) /\ (∃ t' a' vu' vr', BkAt w' N B gb g enc lim n add { st with ats := G.before, undo := us, redo := st.redo ++ [G], state := G.old } t' a' xs m vu' vr' none) /\ BkFr B w w'
def UndoR (w5 : World) (mm : Nat) (j : Nat) (q6 : Value) (wr : World) : Prop :=
 ∃ i : Int, q6 = .int .i64 i /\ Below w5.heap.size w5 wr /\ -1 <= i /\ i < (mm : Int) /\ i + 1 <= (j : Int)
theorem undo_none (N B gb g : Nat) (enc lim : Int) (n : Nat) (add : Value) (st : BkS) (t : Tr) (a : Option Addr) (xs : List Value) (m : Nat) (vu vr : Value) (now : Option Addr) (us : List Gr) (G : Gr) (w : World)
  (h : BkAt w N B gb g enc lim n add st t a xs m vu vr now) (hn : st.now = none) (hu : st.undo = us ++ [G]) (hr : st.redo.length < 1048576) (hmb : ∀ mv, mv ∈ G.moves -> mv.length <= 1048576) :
  Calls Tryz.prog 30 #[.pointer (some ⟨gb, 0, none⟩)] w (UndoQ N B gb g enc lim n add st xs m us G w) := by
 have hop := h.open_
 rw [hn] at hop
 subst hop
 have hun := h.undo
 rw [hu] at hun
 obtain ⟨bu, cu, q, rfl, hc1, hc2, hul, ⟨csu, hbu⟩, hcell, hG, hun⟩ := hun.last
 obtain ⟨pr, hvr, hpr, hprg, -⟩ := h.redo
 obtain ⟨k, hk⟩ : ∃ k, us.length = k := ⟨_, rfl⟩
 rw [hk] at hc1 hul hcell hun h
 obtain ⟨s1, s2, Am, mm, cm, vs, hqN, hq, hs1, hs2, hmv0, hmc, hmv, hmm⟩ := hG
 have HG := Lib.hid (show GrAt w N g add n enc q G from ⟨s1, s2, Am, mm, cm, vs, hqN, hq, hs1, hs2, hmv0, hmc, hmv, hmm⟩)
 obtain ⟨hs1N, t2, a2, hs1b, ht2, ha2, hz2⟩ := hs1
 have e1 : IntKind.i64.wrap (((k + 1 : Nat) : Int) - 1) = (k : Int) := by rw [IntWalk.i64_in _ (by omega)]; omega
 have e2 : (((k + 1 : Nat) : Int) == 0) = false := by simp; omega
 have c6 := h.blk.cell 6
 have c2 := h.blk.cell 2
 have c3 := h.blk.cell 3
 simp at c6 c2 c3
 have hne : gb ≠ g := fun e => Blk.ne_ h.blk h.text.blk (by decide) e
 have HH := Lib.hid h
 have HK := Lib.hid hk
 have HU := Lib.hid hu
 have HN := Lib.hid hn
 have HUN := Lib.hid hun
 have HQ := Lib.hid hq
 obtain ⟨Ar, cr, rfl, hcr⟩ := own_slice hvr
 have hS0 : ∀ w', Fr (OwnB (.slice Ar pr.length cr)) w w' -> Blk w' gb 83 #[.pointer (some ⟨g, 0, none⟩), .int .i64 st.depth, .slice (some ⟨bu, 0, none⟩) (k + 1) cu, .slice Ar pr.length cr, .map (some m), .slice none 0 0, .pointer none, .int .i64 st.state, .int .i64 st.saved, .int .i64 st.last] := fun w' hf => HH.out.blk.fr hf (own_blk_ne hvr HH.out.blk (by decide))
 have HS0 := Lib.hid hS0
 have HVR := Lib.hid hvr
 have hprl : pr.length <= 1048576 := by omega
 have k1 : ((k : Int) <= (cu : Int)) = True := by simp; omega
 have k2 : (k <= cu) = True := by simp; omega
 have e3 : IntKind.i64.wrap (k : Int) = (k : Int) := IntWalk.i64_in _ (by omega)
 have k0 : ((0 : Int) <= (k : Int)) = True := by simp
 have k3 : ((cu : Int) < (k : Int)) = False := by simp; omega
 have HPR := Lib.hid hpr
 have HA2 := Lib.hid ha2
 have hbase := HH.out.text.base
 obtain ⟨ig, hig, hg0, hg1, hg2⟩ := info_parts groups_info
 clear h hk hu hun hpr hq hvr ha2 hn hS0
 go_enter Tryz.func30, Tryz.ntmps30
 go_upto_region 7 with fail
 refine wp_region_lin (fun w' => w'.cell? ⟨gb, 2, none⟩ = some (.slice (some ⟨bu, 0, none⟩) (k + 1) cu) /\ w'.cell? ⟨gb, 3, none⟩ = some (.slice Ar pr.length cr)) (fun w' => w' = w.drew) (fun k => k == 14 || k == 15 || k == 18 || k == 21) (fun k => k == 18 || k == 21) (fun k => k == 1 || k == 19 || k == 20 || k == 21) (by kernel_rfl) (by kernel_rfl) (rfl) (fun w' h => by subst h; exact ⟨(HS0.out _ (Fr.refl _ _).drew).cell 2, (HS0.out _ (Fr.refl _ _).drew).cell 3⟩) ?_
 repeat ((first
  | (refine wpL_read (v := ?_) (by rfl) (by rfl) (fun w6 hSw => ?_) ?_; rotate_left; (· (obtain ⟨y0, y1⟩ := hSw; go_simp; try with_reducible rfl)))
  | (refine wpL_free (v := ?_) (by rfl) (fun w6 => ?_) ?_; rotate_left; (· (go_simp; try with_reducible rfl)))
  | refine wpL_not (by rfl) ?_); (try simp only [Act.put, pA, pB, pC]))
 refine wpL_heavy (fun u w' => u = .slice (some ⟨w.heap.size, 0, none⟩) 1 1 /\ w' = w.drew.alloc (.cells #[.pointer (some ⟨q, 0, none⟩)] 151)) (by rfl) (by rfl) (fun w6 hSw => ?_) (.inr (fun v6 w6 hT6 => ?_)) (fun v6 hv6 => ?_)
 ·(subst hSw; go_simp; exact ⟨rfl, rfl⟩)
 ·(obtain ⟨-, rfl⟩ := hT6; exact ⟨(HS0.out _ ((Fr.refl _ _).drew.alloc _)).cell 2, (HS0.out _ ((Fr.refl _ _).drew.alloc _)).cell 3⟩)
 obtain ⟨wz, rfl, -⟩ := hv6
 (try simp only [Act.put, pA, pB, pC])
 refine wpL_heavy (fun u w' => (w'.ownsRow B 151 1 u (pr.length + 1) ((pr.map fun p => Value.pointer (some ⟨p, 0, none⟩)) ++ [.pointer (some ⟨q, 0, none⟩)]) /\ ∀ b, u.ownBlock = some b -> (Value.slice Ar pr.length cr).ownBlock = some b \/ w.heap.size <= b) /\ Fr (OwnB (.slice Ar pr.length cr)) w w') (by rfl) (by rfl) (fun w6 hSw => ?_) (.inr (fun v6 w6 hT6 => ?_)) (fun v6 hv6 => ?_)
 ·(obtain ⟨-, rfl⟩ := hSw; exact hrun_append_own 79 rfl B 151 ig (.pointer none) 1 8 Tryz.underlying79 hig hg0 hg1 hg2 rfl (by decide) (.slice Ar pr.length cr) pr.length _ rfl ((own_bel HVR.out (Below.refl _ _).drew).alloc _) ⟨w.heap.size, 0, none⟩ 1 1 [.pointer (some ⟨q, 0, none⟩)] rfl rfl (cell_one_new w.drew _ _) (by simp [Value.oneCell']) (by unfold maxLen; omega) (by omega) (by simp; omega) (fun v' w' ho' hg' _ hat' => ⟨⟨ho', fun b hb => (by rcases hat' with e | e; exact .inl (e ▸ hb); rw [e] at hb; injection hb with hb; right; rw [<- hb]; simp)⟩, ((Fr.refl _ _).drew.alloc _).grown hg' (fun k hk _ => hk)⟩))
 ·(exact ⟨(HS0.out _ hT6.2).cell 2, (HS0.out _ hT6.2).cell 3⟩)
 obtain ⟨wz, hz7, -⟩ := hv6; obtain ⟨A7, c7, rfl, -⟩ := own_slice hz7.1; have HSEP := Lib.hid hz7.2
 (try simp only [Act.put, pA, pB, pC])
 iterate 2 ((first
  | (refine wpL_read (v := ?_) (by rfl) (by rfl) (fun w6 hSw => ?_) ?_; rotate_left; (· (obtain ⟨y0, y1⟩ := hSw; go_simp; try with_reducible rfl)))
  | (refine wpL_free (v := ?_) (by rfl) (fun w6 => ?_) ?_; rotate_left; (· (go_simp; try with_reducible rfl)))
  | refine wpL_not (by rfl) ?_); (try simp only [Act.put, pA, pB, pC]))
 refine wpL_heavy (fun _ w' => ∃ wq, (wq.ownsRow B 151 1 (.slice A7 (pr.length + 1) c7) (pr.length + 1) ((pr.map fun p => Value.pointer (some ⟨p, 0, none⟩)) ++ [.pointer (some ⟨q, 0, none⟩)]) /\ Fr (OwnB (.slice Ar pr.length cr)) w wq) /\ w' = wq.setCell ⟨gb, 2, none⟩ (.slice (some ⟨bu, 0, none⟩) k cu)) (by rfl) (by rfl) (fun w6 hSw => ?_) (.inl (by rfl)) (fun v6 hv6 => ?_)
 ·(have y2 := (HS0.out _ hSw.2).cell 2; have y3 := (HS0.out _ hSw.2).frozen 2; simp at y2; go_simp; exact ⟨w6, ⟨hSw.1.1, hSw.2⟩, rfl⟩)
 skip
 (try simp only [Act.put, pA, pB, pC])
 iterate 2 ((first
  | (refine wpL_read (v := ?_) (by rfl) (by rfl) (fun w6 hSw => ?_) ?_; rotate_left; (· (obtain ⟨y0, y1⟩ := hSw; go_simp; try with_reducible rfl)))
  | (refine wpL_free (v := ?_) (by rfl) (fun w6 => ?_) ?_; rotate_left; (· (go_simp; try with_reducible rfl)))
  | refine wpL_not (by rfl) ?_); (try simp only [Act.put, pA, pB, pC]))
 refine wpL_heavy (fun _ w' => ∃ wq, (wq.ownsRow B 151 1 (.slice A7 (pr.length + 1) c7) (pr.length + 1) ((pr.map fun p => Value.pointer (some ⟨p, 0, none⟩)) ++ [.pointer (some ⟨q, 0, none⟩)]) /\ Fr (OwnB (.slice Ar pr.length cr)) w wq) /\ w' = (wq.setCell ⟨gb, 2, none⟩ (.slice (some ⟨bu, 0, none⟩) k cu)).setCell ⟨gb, 3, none⟩ (.slice A7 (pr.length + 1) c7)) (by rfl) (by rfl) (fun w6 hSw => ?_) (.inl (by rfl)) (fun v6 hv6 => ?_)
 ·(obtain ⟨wq, hwq, rfl⟩ := hSw; have y4 := (HS0.out _ hwq.2).set_ 2 (.slice (some ⟨bu, 0, none⟩) k cu); have y2 := y4.cell 3; have y3 := y4.frozen 3; simp at y2; go_simp; exact ⟨wq, hwq, rfl⟩)
 skip
 (try simp only [Act.put, pA, pB, pC])
 refine wpL_nil ?_
 rintro w4 ⟨wq, ⟨hu, hfq⟩, rfl⟩
 have hgbq := HS0.out _ hfq
 have typed : ∀ y, (y = gb \/ OwnB (.slice Ar pr.length cr) y) -> (∃ cs', Blk w y 83 cs') \/ (∃ cs', Blk w y 151 cs') := fun y hy => by
  rcases hy with rfl | hy
  ·exact .inl ⟨_, HH.out.blk⟩
  ·rcases HVR.out.2 with ⟨e0, _⟩ | ⟨r, c, cur, e0, h1, h2, _⟩
   ·unfold OwnB at hy; rw [e0] at hy; cases hy
   ·unfold OwnB at hy
    rw [e0] at hy
    have : r = y := by simpa [Value.ownBlock] using hy
    subst this
    exact .inr ⟨cur, h2⟩
 have hFar : ∀ M y, y < w.heap.size -> (y = gb \/ OwnB (.slice Ar pr.length cr) y) -> Far2 w M y := fun M y _ hy => by
  rcases typed _ hy with ⟨c1, hc⟩ | ⟨c1, hc⟩
  ·exact Far2.blk hc (by decide)
  ·exact Far2.blk hc (by decide)
 have notT : ∀ {T : TypeId} {cs' : Array Value} {y : Nat}, Blk w y T cs' -> T ≠ 83 -> T ≠ 151 -> ¬ (y = gb \/ OwnB (.slice Ar pr.length cr) y) := fun hb h1 h2 hy => by
  rcases typed _ hy with ⟨c1, hc⟩ | ⟨c1, hc⟩
  ·exact Blk.ne_ hb hc h1 rfl
  ·exact Blk.ne_ hb hc h2 rfl
 have hgb4 := ((hgbq.set_ 2 (.slice (some ⟨bu, 0, none⟩) k cu)).set_ 3 (.slice A7 (pr.length + 1) c7)).eq_ (show _ = #[.pointer (some ⟨g, 0, none⟩), .int .i64 st.depth, .slice (some ⟨bu, 0, none⟩) k cu, .slice A7 (pr.length + 1) c7, .map (some m), .slice none 0 0, .pointer none, .int .i64 st.state, .int .i64 st.saved, .int .i64 st.last] by simp)
 have hown4 := own_set_far (i := 3) (u := .slice A7 (pr.length + 1) c7) (own_set_far (i := 2) (u := .slice (some ⟨bu, 0, none⟩) k cu) hu hgbq (by decide)) (hgbq.set_ 2 (.slice (some ⟨bu, 0, none⟩) k cu)) (by decide)
 have hF4 := ((hfq.more (S' := fun y => y = gb \/ OwnB (.slice Ar pr.length cr) y) (fun _ _ h => .inr h)).setCell (p := ⟨gb, 2, none⟩) (.inl (.inl rfl)) (.slice (some ⟨bu, 0, none⟩) k cu)).setCell (p := ⟨gb, 3, none⟩) (.inl (.inl rfl)) (.slice A7 (pr.length + 1) c7)
 obtain ⟨w4, hw4⟩ : ∃ w4, (wq.setCell ⟨gb, 2, none⟩ (.slice (some ⟨bu, 0, none⟩) k cu)).setCell ⟨gb, 3, none⟩ (.slice A7 (pr.length + 1) c7) = w4 := ⟨_, rfl⟩
 rw [hw4] at hgb4 hown4 hF4 ⊢
 have hg4 := HH.out.text.blk.fr hF4 (notT HH.out.text.blk (by decide) (by decide))
 have hs14 := hs1b.fr hF4 (notT hs1b (by decide) (by decide))
 have hq4 := HQ.out.fr hF4 (notT HQ.out (by decide) (by decide))
 have HX := Lib.hid (show w4.drew.cell? ⟨gb, 0, none⟩ = some (.pointer (some ⟨g, 0, none⟩)) /\ w4.drew.cell? ⟨q, 0, none⟩ = some (.pointer (some ⟨s1, 0, none⟩)) from ⟨hgb4.drew.cell 0, hq4.drew.cell 0⟩)
 clear hw4 hgbq hu hfq hz7 hig hg0 hg1 hg2
 go_wp2_with fail
 refine wp_region_lin (fun w' => w'.cell? ⟨gb, 0, none⟩ = some (.pointer (some ⟨g, 0, none⟩)) /\ w'.cell? ⟨q, 0, none⟩ = some (.pointer (some ⟨s1, 0, none⟩))) (fun w' => w' = w4.drew) (fun k => k == 8) (fun k => k == 8) (fun _ => false) (by kernel_rfl) (by kernel_rfl) (rfl) (fun w' h => by subst h; exact HX.out) ?_
 repeat ((first
  | (refine wpL_read (v := ?_) (by rfl) (by rfl) (fun w6 hSw => ?_) ?_; rotate_left; (· (obtain ⟨y0, y1⟩ := hSw; go_simp; try with_reducible rfl)))
  | (refine wpL_free (v := ?_) (by rfl) (fun w6 => ?_) ?_; rotate_left; (· (go_simp; try with_reducible rfl)))
  | refine wpL_not (by rfl) ?_); (try simp only [Act.put, pA, pB, pC]))
 refine wpL_call (f := ?_) (args := ?_) (fun v w' => v = .int .i64 0 /\ w' = w4.drew.setCell ⟨g, 2, none⟩ (.pointer a2)) (by rfl) (by rfl) (fun w6 hSw => ?_) (fun w6 hSw => ?_) (.inl (by rfl)) (fun v6 hv6 => ?_)
 rotate_left 2
 ·(skip; go_simp; first | done | (constructor <;> with_reducible rfl) | with_reducible rfl)
 ·(subst hSw; refine (tback_any g s1 _ a2 _ hg4.drew ⟨_, rfl⟩ hs14.drew).mono ?_; rintro e w' ⟨rfl, rfl⟩; exact ⟨_, rfl, rfl, rfl⟩)
 obtain ⟨wz, rfl, -⟩ := hv6
 (try simp only [Act.put, pA, pB, pC])
 refine wpL_nil ?_
 rintro w5 ⟨-, rfl⟩
 have hrow4 : w4.drew.ownsRow B 5 1 add n xs := own_fr' HH.out.text.row hF4.drew (fun b cs' hs hc => notT hc (by decide) (by decide) hs)
 have hm4 : EmptyMap w4.drew m := HH.out.map.fr hF4.drew (fun hy => by
  rcases typed _ hy with ⟨c1, hc⟩ | ⟨c1, hc⟩
  ·exact HH.out.map.ne_blk hc rfl
  ·exact HH.out.map.ne_blk hc rfl)
 have hK5 : ∀ M, GKeep M add add n n enc w (w4.drew.setCell ⟨g, 2, none⟩ (.pointer a2)) := fun M => (GKeep.far hF4.drew (hFar M)).trans (GKeep.step (TStep.set hrow4 hg4.drew HH.out.text.ne 2 _) hrow4 hg4.drew)
 have hg5 := (hg4.drew.set_ 2 (.pointer a2)).eq_ (show _ = #[.int .i64 enc, .int .i64 lim, .pointer a2, add] by simp)
 have hgb5 := hgb4.drew.far (p := ⟨g, 2, none⟩) hne (.pointer a2)
 have hq5 := hq4.drew.far (p := ⟨g, 2, none⟩) (Blk.ne_ hq4 hg4 (by decide)) (.pointer a2)
 have hrow5 := own_set_far (i := 2) (u := .pointer a2) hrow4 hg4.drew (by decide)
 have hown5 := own_set_far (i := 2) (u := .pointer a2) (show w4.drew.ownsRow B 151 1 (.slice A7 (pr.length + 1) c7) (pr.length + 1) ((pr.map fun p => Value.pointer (some ⟨p, 0, none⟩)) ++ [.pointer (some ⟨q, 0, none⟩)]) from ⟨hown4.1, hown4.2⟩) hg4.drew (by decide)
 have hmap5 := hm4.far (p := ⟨g, 2, none⟩) (fun e => hm4.ne_blk hg4.drew e) (.pointer a2)
 have hF5 := (hF4.drew.more (S' := fun y => y = g \/ y = gb \/ OwnB (.slice Ar pr.length cr) y) (fun _ _ h => .inr h)).setCell (p := ⟨g, 2, none⟩) (.inl (.inl rfl)) (.pointer a2)
 obtain ⟨w5, hw5⟩ : ∃ w5, w4.drew.setCell ⟨g, 2, none⟩ (.pointer a2) = w5 := ⟨_, rfl⟩
 rw [hw5] at hK5 hg5 hgb5 hq5 hrow5 hown5 hmap5 hF5 ⊢
 have hfin : ∀ w6, Below w5.heap.size w5 w6 -> UndoQ N B gb g enc lim n add st xs m us G w (.returned (.tuple #[.int .i64 G.bgn, .int .i64 0])) (w6.setCell ⟨gb, 7, none⟩ (.int .i64 G.old)) := by
  intro w6 hb6
  have hgb6 := hgb5.below hb6
  have hF7 : Fr (fun y => y = g \/ y = gb \/ OwnB (.slice Ar pr.length cr) y) w (w6.setCell ⟨gb, 7, none⟩ (.int .i64 G.old)) := (hF5.bel hb6).setCell (p := ⟨gb, 7, none⟩) (.inl (.inr (.inl rfl))) _
  have hK7 : ∀ M, GKeep M add add n n enc w (w6.setCell ⟨gb, 7, none⟩ (.int .i64 G.old)) := fun M => ((hK5 M).trans (GKeep.below hrow5 hg5 hb6)).trans (GKeep.far (show Fr (· = gb) w6 _ from (Fr.refl _ _).set1 7 _) (fun k _ hk => hk ▸ Far2.blk hgb6 (by decide)))
  have hsz7 := hF7.size
  have hT7 : TextM (w6.setCell ⟨gb, 7, none⟩ (.int .i64 G.old)) B g enc lim n add t2 a2 xs := ⟨(hg5.below hb6).far (p := ⟨gb, 7, none⟩) (Ne.symm hne) _, own_set_far (own_bel hrow5 hb6) hgb6 (by decide), HH.out.text.enc4, Nat.le_trans HH.out.text.base hsz7, (hK7 N).tree t2 a2 ht2⟩
  have hgb7 := (hgb6.set_ 7 (.int .i64 G.old)).eq_ (show _ = #[.pointer (some ⟨g, 0, none⟩), .int .i64 st.depth, .slice (some ⟨bu, 0, none⟩) k cu, .slice A7 (pr.length + 1) c7, .map (some m), .slice none 0 0, .pointer none, .int .i64 G.old, .int .i64 st.saved, .int .i64 st.last] by simp)
  have hun7 : StackAt (w6.setCell ⟨gb, 7, none⟩ (.int .i64 G.old)) N B g add n enc (.slice (some ⟨bu, 0, none⟩) k cu) us := HUN.out.keep (hK7 N) (Nat.le_refl _) (fun m' xs' ho => own_fr ho hF7 (fun b hb hs => by
   have hb' : bu = b := by simpa [Value.ownBlock] using hb
   subst hb'
   rcases hs with h1 | h1 | h1
   ·exact Blk.ne_ hbu HH.out.text.blk (by decide) h1
   ·exact Blk.ne_ hbu HH.out.blk (by decide) h1
   ·exact HH.out.sep bu rfl h1))
  have hre7 : StackAt (w6.setCell ⟨gb, 7, none⟩ (.int .i64 G.old)) N B g add n enc (.slice A7 (pr.length + 1) c7) (st.redo ++ [G]) := StackAt.push HPR.out hprg (hK7 N) HG.out (own_set_far (own_bel hown5 hb6) hgb6 (by decide)) hr
  refine ⟨rfl, ⟨t2, a2, _, _, hgb7, hT7, HA2.out, hz2, HH.out.lim0, (hmap5.below hb6).far (fun e => (hmap5.below hb6).ne_blk hgb6 e) _, hun7, hre7, fun b hb hb2 => ?_, (by dsimp only; rw [HN.out]), Nat.le_trans HH.out.nle hsz7, HH.out.nums, ⟨HH.out.low.1, HH.out.low.2.1, HH.out.low.2.2.1, fun _ e => by cases e⟩⟩, BkFr.of_fr hF7 (fun y hy hs => ?_)⟩
  ·have hb' : bu = b := by simpa [Value.ownBlock] using hb
   subst hb'
   rcases HSEP.out bu hb2 with h1 | h1
   ·exact HH.out.sep bu rfl h1
   ·have := hbu.lt
    omega
  ·rcases hs with rfl | hs
   ·exact ⟨HH.out.low.2.1, _, _, HH.out.text.blk, .inl rfl⟩
   ·have hlo : B <= y := by
     rcases hs with rfl | hs
     ·exact HH.out.low.1
     ·exact hs.low HVR.out
    rcases typed _ hs with ⟨c1, hc⟩ | ⟨c1, hc⟩
    ·exact ⟨hlo, _, _, hc, .inr (.inr (.inl rfl))⟩
    ·exact ⟨hlo, _, _, hc, .inr (.inr (.inr (.inr (.inr rfl))))⟩
 have hrw5 := hmv0.keep (hK5 N).rows
 have hmr5 := hmv.keep (hK5 N).mvs
 have hvl : vs.length = mm := by have := hmv0.1; omega
 have hN5 : N <= w5.heap.size := Nat.le_trans HH.out.nle hF5.size
 have c5q4 := hq5.cell 4
 have g5 : ∀ w6, Below w5.heap.size w5 w6 -> w6.cell? ⟨q, 5, none⟩ = some (.int .i64 G.old) /\ w6.cell? ⟨q, 2, none⟩ = some (.int .i64 G.bgn) /\ w6.cell? ⟨q, 4, none⟩ = some (.slice Am mm cm) /\ w6.cell? ⟨gb, 7, none⟩ = some (.int .i64 st.state) /\ w6.frozen? ⟨gb, 7, none⟩ = false := fun w6 hb =>
  ⟨(hq5.below hb).cell 5, (hq5.below hb).cell 2, (hq5.below hb).cell 4, (hgb5.below hb).cell 7, (hgb5.below hb).frozen 7⟩
 have hqg : q ≠ gb := Blk.ne_ hq5 hgb5 (by decide)
 simp at c5q4
 have HFIN := Lib.hid hfin
 have HG5 := Lib.hid g5
 have HRW := Lib.hid hrw5
 have HMR := Lib.hid hmr5
 have HVL := Lib.hid hvl
 have HGB5 := Lib.hid hgb5
 have HMAP := Lib.hid hmap5
 clear hfin g5 hrw5 hmr5 hvl hw5 hK5 hg5 hgb5 hq5 hrow5 hown5 hmap5 hF5 hrow4 hm4 hgb4 hown4 hF4 hg4 hs14 hq4 c2 c3 c6
 go_wp2_with fail
 go_loopg [6] mm (fun j q6 wr => UndoR w5 mm j q6 wr)
 case atStart => exact ⟨_, rfl, Below.refl _ _, by omega, by omega, by omega⟩
 case round =>
  obtain ⟨i, rfl, hbr, hi0, hi1, hik⟩ := hrel
  obtain ⟨w6, hw6⟩ : ∃ x, x = wr := ⟨_, rfl⟩
  subst hw6
  obtain ⟨x0, x1, x2, x3, x4⟩ := HG5.out w6 hbr
  by_cases hi : 0 <= i
  ·obtain ⟨j, rfl⟩ := Int.eq_ofNat_of_zero_le hi
   have hj : j < mm := by omega
   have hr6 := HRW.out.keep (KeepTy.below hbr)
   have hm6 := HMR.out.keep (KeepTy.below hbr)
   obtain ⟨vb, vo, vcs, rfl, -, hvk, hvc⟩ := hr6.2 (by omega)
   obtain ⟨v, hv⟩ : ∃ v, vs[j]? = some v := ⟨_, List.getElem?_eq_getElem (by have := HVL.out; omega)⟩
   obtain ⟨mv, hmv6⟩ : ∃ mv, G.moves[j]? = some mv := ⟨_, List.getElem?_eq_getElem (by have := HVL.out; have := HMR.out.1; omega)⟩
   obtain ⟨A', m', c', rfl, hmc', hrm, hl'⟩ := hm6.2 j v mv hv hmv6
   have xv : w6.cell? ⟨vb, vo + j, none⟩ = some (.slice A' m' c') := by rw [hvk.cell]; exact hvc j _ hv
   have KI := Lib.hid (inverse_any N A' m' c' mv w6 hrm (Nat.le_trans hN5 hbr.size) hl' (by have := hmb mv (List.mem_of_getElem? hmv6); omega))
   have e7 : IntKind.i64.wrap ((j : Int) - 1) = (j : Int) - 1 := IntWalk.i64_in _ (by omega)
   have HBR := Lib.hid hbr
   clear hr6 hm6 hvk hvc hv hmv6 hrm hl' hi
   go_wp2_with fail
   refine (KI.out).mono ?_
   rintro e w7 ⟨⟨v7, rfl⟩, hb7⟩
   go_wp2_with fail
   refine (follow_none w7 gb m _ v7 ((HGB5.out.below HBR.out).below hb7) rfl rfl ((HMAP.out.below HBR.out).below hb7)).mono ?_
   rintro e w8 ⟨rfl, hb8⟩
   have HB8 := Lib.hid (bseq HBR.out (bseq hb7 hb8))
   clear hb7 hb8
   go_wp2_with fail
   go_roundg j
   case measure => omega
   case rel => exact ⟨_, rfl, HB8.out, by omega, by omega, by omega⟩
  ·have q1 : (0 <= i) = False := eq_false hi
   have HB6 := Lib.hid hbr
   clear hi hbr
   go_wp2_with fail
   (try simp only [Exit.inBlock, Exit.then])
   exact bodyPost_ret (v := .tuple #[.int .i64 G.bgn, .int .i64 0]) (by simp [results, Tryz.results30, go_sem]) rfl (HFIN.out w6 HB6.out)
end Go.Proofs.YtkocknfhdojmbaaGreat
