/-
  The walk of Book.End where something changed and the stack is full: the oldest group goes.
-/
import Derived.Test.YtkoakanpaehkmaaGreatDoorLEnd2
import Derived.Test.YtkoakanpaehkmaaGreatDoorLDel
set_option linter.unusedSimpArgs false
set_option linter.unusedVariables false
set_option maxRecDepth 100000
set_option maxHeartbeats 32000000
namespace Go.Proofs.YtkoakanpaehkmaaGreatDoor
open Go.RowKit
theorem BkAt.ended1 {w w9 : World} {N B gb g n m p s q s2 : Nat} {enc lim x : Int} {add vm vu vr vu' : Value} {st : BkS} {o : OpS} {t : Tr} {a : Option Addr} {xs vs : List Value} {ps : List Nat}
  (h : BkAt w N B gb g enc lim n add st t a xs m vu vr (some ⟨p, 0, none⟩)) (hsn : SnapB w N g add n enc s o.before) (hvm : w.ownsRow N 103 1 vm vs.length vs) (hmv : MvRows w w.heap.size vs o.moves) (hml : o.moves.length <= 1048576)
  (hF : Fr (fun y => y = gb \/ OwnB vu y) w w9)
  (hgb : Blk w9 gb 87 #[.pointer (some ⟨g, 0, none⟩), .int .i64 st.depth, vu', .slice none 0 0, .map (some m), .slice none 0 0, .pointer none, .int .i64 (st.last + 1), .int .i64 st.saved, .int .i64 (st.last + 1)])
  (hq : Blk w9 q 101 #[.pointer (some ⟨s, 0, none⟩), .pointer (some ⟨s2, 0, none⟩), .int .i64 o.bgn, .int .i64 x, vm, .int .i64 o.old, .int .i64 (st.last + 1)]) (hs2 : SnapAt w9 g add n enc s2 st.ats)
  (hps : ps.length = st.undo.length) (hpg : ∀ (i p' : Nat) (G : Gr), ps[i]? = some p' -> st.undo[i]? = some G -> GrAt w N g add n enc p' G) (hvu : w.ownsRow B 96 1 vu ps.length (ps.map fun p => Value.pointer (some ⟨p, 0, none⟩)))
  (hvu' : w9.ownsRow B 96 1 vu' ps.length (((ps.map fun p => Value.pointer (some ⟨p, 0, none⟩)) ++ [Value.pointer (some ⟨q, 0, none⟩)]).drop 1)) (hul : st.undo.length < 1048576) (hlast : st.last < 1073741824) :
  BkAt w9 w9.heap.size B gb g enc lim n add { st with now := none, undo := (st.undo ++ [(⟨o.before, st.ats, o.bgn, x, o.moves, o.old, st.last + 1⟩ : Gr)]).drop 1, redo := [], state := st.last + 1, last := st.last + 1 } t a xs m vu' (.slice none 0 0) none := by
 have typed : ∀ y, (y = gb \/ OwnB vu y) -> (∃ cs', Blk w y 87 cs') \/ (∃ cs', Blk w y 96 cs') := fun y hy => by
  rcases hy with rfl | hy
  ·exact .inl ⟨_, h.blk⟩
  ·rcases hvu.2 with ⟨e0, _⟩ | ⟨r, c, cur, e0, h1, h2, _⟩
   ·unfold OwnB at hy; rw [e0] at hy; cases hy
   ·unfold OwnB at hy
    rw [e0] at hy
    have : r = y := by simpa [Value.ownBlock] using hy
    subst this
    exact .inr ⟨cur, h2⟩
 have hFar : ∀ M y, y < w.heap.size -> (y = gb \/ OwnB vu y) -> Far2 w M y := fun M y _ hy => by
  rcases typed _ hy with ⟨c1, hc⟩ | ⟨c1, hc⟩
  ·exact Far2.blk hc (by decide)
  ·exact Far2.blk hc (by decide)
 have hK : ∀ M, GKeep M add add n n enc w w9 := fun M => GKeep.far hF (hFar M)
 have hsz := hF.size
 have hNle : N <= w9.heap.size := Nat.le_trans h.nle hsz
 have notT : ∀ {T : TypeId} {cs' : Array Value} {y : Nat}, Blk w y T cs' -> T ≠ 87 -> T ≠ 96 -> ¬ (y = gb \/ OwnB vu y) := fun hb h1 h2 hy => by
  rcases typed _ hy with ⟨c1, hc⟩ | ⟨c1, hc⟩
  ·exact Blk.ne_ hb hc h1 rfl
  ·exact Blk.ne_ hb hc h2 rfl
 have hmap : MapE w9 st.mb m := h.map.fr hF (fun hy => by
  rcases typed _ hy with ⟨c1, hc⟩ | ⟨c1, hc⟩
  ·exact h.map.ne_blk hc rfl
  ·exact h.map.ne_blk hc rfl)
 have hvm9 : w9.ownsRow N 103 1 vm vs.length vs := own_fr' hvm hF (fun b cs' hs hc => notT hc (by decide) (by decide) hs)
 obtain ⟨Av, cv, rfl, hcv⟩ := own_slice hvm9
 have hmv9 := (hmv.keep (hK w.heap.size).mvs).mono hsz
 have hG : GrAt w9 w9.heap.size g add n enc q ⟨o.before, st.ats, o.bgn, x, o.moves, o.old, st.last + 1⟩ := by
  refine ⟨s, s2, Av, vs.length, cv, vs, hq.lt, hq, (hsn.keep (hK N)).mono hNle, ⟨?_, hs2⟩, RowT.of_own hvm9 (Nat.le_refl _), hcv, hmv9, by have := hmv9.1; omega⟩
  obtain ⟨_, _, hb, _⟩ := hs2
  exact hb.lt
 have hGG : ∀ (i p' : Nat) (G : Gr), (ps ++ [q])[i]? = some p' -> (st.undo ++ [(⟨o.before, st.ats, o.bgn, x, o.moves, o.old, st.last + 1⟩ : Gr)])[i]? = some G -> GrAt w9 w9.heap.size g add n enc p' G := fun i p' G hi hGi => by
  rcases Nat.lt_or_ge i ps.length with hlt | hge
  ·rw [List.getElem?_append_left hlt] at hi
   rw [List.getElem?_append_left (by omega)] at hGi
   exact ((hpg i p' G hi hGi).keep (hK N)).mono hNle
  ·rw [List.getElem?_append_right hge] at hi
   rw [List.getElem?_append_right (by omega), <- hps] at hGi
   have hi0 : i - ps.length = 0 := by
    rcases Nat.eq_zero_or_pos (i - ps.length) with h0 | h0
    ·exact h0
    ·rw [List.getElem?_eq_none (by simp; omega)] at hi
     cases hi
   rw [hi0] at hi hGi
   simp at hi hGi
   subst hi
   subst hGi
   exact hG
 have hl1 : ((ps ++ [q]).drop 1).length = ps.length := by simp
 refine ⟨hgb, h.text.far hF (fun k hk hs => (hFar N k hk hs).1), h.ats, h.sz, h.lim0, hmap, ⟨(ps ++ [q]).drop 1, ?_, by simp [hps], fun i p' G hi hGi => ?_, by simp; omega⟩, ⟨[], World.ownsRow_nil _ _ _ _, rfl, fun i p' G hi => (by simp at hi), by simp⟩, fun b _ hb => (by cases hb), rfl, Nat.le_refl _, ?_, ⟨h.low.1, h.low.2.1, Nat.le_trans h.low.2.2.1 hNle, fun _ e => by cases e⟩⟩
 ·rw [hl1, List.map_drop, List.map_append]
  exact hvu'
 ·rw [List.getElem?_drop] at hi hGi
  exact hGG _ _ _ hi hGi
 ·have := h.nums
  dsimp only
  omega
theorem end_full (N B gb g : Nat) (enc lim : Int) (n : Nat) (add : Value) (st : BkS) (t : Tr) (a : Option Addr) (xs : List Value) (m : Nat) (vu vr : Value) (now : Option Addr) (o : OpS) (x : Int) (w : World) (h : BkAt w N B gb g enc lim n add st t a xs m vu vr now) (hn : st.now = some o) (hx : 0 <= x /\ x <= (st.ats.length : Int)) (hc : o.changed = true) (hul : (st.undo.length : Int) = st.depth) (hlast : st.last < 1073741824) :
  Calls Tryz.prog 77 #[.pointer (some ⟨gb, 0, none⟩), .int .i64 x] w fun e w' => e = .returned (.int .i64 0) /\ (∃ vu', BkAt w' w'.heap.size B gb g enc lim n add { st with now := none, undo := (st.undo ++ [(⟨o.before, st.ats, o.bgn, x, o.moves, o.old, st.last + 1⟩ : Gr)]).drop 1, redo := [], state := st.last + 1, last := st.last + 1 } t a xs m vu' (.slice none 0 0) none) /\ BkFr B w w' := by
 have hop := h.open_
 rw [hn] at hop
 obtain ⟨p, rfl, s, m2, vm, vs, hp0, hm2, hsn, hvm, hmv, hml2⟩ := hop
 obtain ⟨ps, hvu, hps, hpg, hul2⟩ := h.undo
 have hulp : (ps.length : Int) = st.depth := by omega
 have hulm : ps.length <= 1048576 := by omega
 have HPS := Lib.hid hps
 have HUL := Lib.hid hul
 have HUL2 := Lib.hid hul2
 clear hps hul hul2
 have hal : (atsL enc t.list).length = (decL enc t.list).length := atsL_len enc _
 have hki := inside_any gb g _ Any enc (decL enc t.list) x w h.blk rfl ⟨lim, t, a, add, h.text.text, rfl⟩
 have hq : decide (0 <= x /\ x <= ((decL enc t.list).length : Int)) = true := by
  rw [<- hal, h.ats]
  simpa using hx
 rw [hq] at hki
 have HKI := Lib.hid hki
 have hnums := h.nums
 have HH := Lib.hid h
 have c6 := h.blk.cell 6
 simp at c6
 rw [hc] at hp0
 have HP0 := Lib.hid hp0
 have HVU := Lib.hid hvu
 have e1 : IntKind.i64.wrap (st.last + 1) = st.last + 1 := IntWalk.i64_in _ (by omega)
 obtain ⟨Au, cu, rfl, hcu⟩ := own_slice hvu
 obtain ⟨Am, cm, rfl, hcm⟩ := own_slice hvm
 clear h hki hq hal hp0 hvu
 go_enter_defers Tryz.func77, Tryz.ntmps77
 go_wp2_with fail
 refine (HKI.out).mono ?_
 rintro e w1 ⟨rfl, hb1⟩
 have hgb1 := HH.out.blk.below hb1
 have hp1 := HP0.out.below hb1
 have c61 := hgb1.cell 6
 have c91 := hp1.cell 9
 have d9 := hgb1.cell 9
 have df9 := hgb1.frozen 9
 have hne : p ≠ gb := Blk.ne_ hp1 hgb1 (by decide)
 have hp2 := hp1.far (p := ⟨gb, 9, none⟩) hne (.int .i64 (st.last + 1))
 have hgb2 := (hgb1.set_ 9 (.int .i64 (st.last + 1))).eq_ (show _ = #[.pointer (some ⟨g, 0, none⟩), .int .i64 st.depth, .slice Au ps.length cu, vr, .map (some m), .slice none 0 0, .pointer (some ⟨p, 0, none⟩), .int .i64 st.state, .int .i64 st.saved, .int .i64 (st.last + 1)] by simp)
 have k6 := hgb2.cell 6
 have k0 := hp2.cell 0
 have k1 := hp2.cell 1
 have k2 := hp2.cell 2
 have k3 := hp2.cell 3
 have k4 := hp2.cell 4
 have k5 := hp2.cell 5
 have k7 := hp2.cell 6
 simp at c61 c91 d9 k6 k0 k1 k2 k3 k4 k5 k7
 go_upto_region 10 with fail
 obtain ⟨w2, hw2⟩ : ∃ w2, w1.setCell ⟨gb, 9, none⟩ (.int .i64 (st.last + 1)) = w2 := ⟨_, rfl⟩
 have hF2 : Fr (· = gb) w w2 := by rw [<- hw2]; exact (Fr.of_below hb1).set1 9 _
 have hs2 : w1.heap.size = w2.heap.size := by rw [<- hw2]; simp [World.setCell]
 rw [hw2] at hgb2 ⊢
 rw [hs2]
 clear hw2 hp2 hp1 k0 k1 k2 k3 k4 k5 k7 k6 c61 c91 d9 df9 hgb1
 obtain ⟨htx2, -, -, -, -, -⟩ := HH.out.book hF2
 have hvu2 : w2.ownsRow B 96 1 (.slice Au ps.length cu) ps.length (ps.map fun p => Value.pointer (some ⟨p, 0, none⟩)) := own_fr' HVU.out hF2 (fun b cs' hs hc => Blk.ne_ hc HH.out.blk (by decide) hs)
 have hq3 : Blk (w2.alloc (.cells #[.pointer (some ⟨s, 0, none⟩), .pointer none, .int .i64 o.bgn, .int .i64 0, .slice Am vs.length cm, .int .i64 o.old, .int .i64 0] 101)) w2.heap.size 101 #[.pointer (some ⟨s, 0, none⟩), .pointer none, .int .i64 o.bgn, .int .i64 0, .slice Am vs.length cm, .int .i64 o.old, .int .i64 0] := Blk.new w2 _ _
 have hb3 : Below w2.heap.size w2 (w2.alloc (.cells #[.pointer (some ⟨s, 0, none⟩), .pointer none, .int .i64 o.bgn, .int .i64 0, .slice Am vs.length cm, .int .i64 o.old, .int .i64 0] 101)) := balloc (Below.refl _ _)
 obtain ⟨w3, hw3⟩ : ∃ w3, w2.alloc (.cells #[.pointer (some ⟨s, 0, none⟩), .pointer none, .int .i64 o.bgn, .int .i64 0, .slice Am vs.length cm, .int .i64 o.old, .int .i64 0] 101) = w3 := ⟨_, rfl⟩
 rw [hw3] at hq3 hb3 ⊢
 have hS0 : ∀ w', Below w2.heap.size w2 w' -> w'.cell? ⟨gb, 0, none⟩ = some (.pointer (some ⟨g, 0, none⟩)) /\ w'.cell? ⟨gb, 9, none⟩ = some (.int .i64 (st.last + 1)) := fun w' hb => ⟨(hgb2.below hb).cell 0, (hgb2.below hb).cell 9⟩
 have HS0 := Lib.hid hS0
 have HTX := Lib.hid htx2
 have HVU2 := Lib.hid hvu2
 have HGB2 := Lib.hid hgb2
 have HF2 := Lib.hid hF2
 clear hw3 hS0 htx2 hvu2 hgb2 hF2 hb1 hs2
 refine wp_region_lin (fun w' => w'.cell? ⟨gb, 0, none⟩ = some (.pointer (some ⟨g, 0, none⟩)) /\ w'.cell? ⟨gb, 9, none⟩ = some (.int .i64 (st.last + 1))) (fun w' => w' = w3.drew) (fun k => k == 4 || k == 11 || k == 13 || k == 15) (fun _ => false) (fun _ => false) (by kernel_rfl) (by kernel_rfl) (rfl) (fun w' h => by subst h; exact HS0.out _ hb3.drew) ?_
 iterate 4 ((first
  | (refine wpL_read (v := ?_) (by rfl) (by rfl) (fun w6 hSw => ?_) ?_; rotate_left; (· (obtain ⟨y0, y1⟩ := hSw; go_simp; try with_reducible rfl)))
  | (refine wpL_free (v := ?_) (by rfl) (fun w6 => ?_) ?_; rotate_left; (· (go_simp; try with_reducible rfl)))
  | refine wpL_not (by rfl) ?_); (try simp only [Act.put, pA, pB, pC]))
 refine wpL_call (f := ?_) (args := ?_) (fun v w' => ∃ s2, v = .pointer (some ⟨s2, 0, none⟩) /\ EndS w2 g n add enc st.ats w2.heap.size s2 #[.pointer (some ⟨s, 0, none⟩), .pointer none, .int .i64 o.bgn, .int .i64 0, .slice Am vs.length cm, .int .i64 o.old, .int .i64 0] w') (by rfl) (by rfl) (fun w6 hSw => ?_) (fun w6 hSw => ?_) (.inr (fun v6 w6 hT6 => ?_)) (fun v6 hv6 => ?_)
 rotate_left 2
 ·(skip; go_simp; first | done | (constructor <;> with_reducible rfl) | with_reducible rfl)
 ·(subst hSw; refine (snap_any B g enc lim n add t a xs _ (HTX.out.below hb3.drew) HH.out.sz).mono ?_; rintro e w' ⟨s2, rfl, hs, hge5, hb5⟩; rw [HH.out.ats] at hs; exact ⟨_, rfl, s2, rfl, hs, bseq hb3.drew hb5, hq3.drew.below hb5⟩)
 ·(obtain ⟨s2, -, hb⟩ := hT6; exact HS0.out _ hb.2.1)
 obtain ⟨wz, s2, rfl, -⟩ := hv6
 (try simp only [Act.put, pA, pB, pC])
 iterate 6 ((first
  | (refine wpL_read (v := ?_) (by rfl) (by rfl) (fun w6 hSw => ?_) ?_; rotate_left; (· (obtain ⟨y0, y1⟩ := hSw; go_simp; try with_reducible rfl)))
  | (refine wpL_free (v := ?_) (by rfl) (fun w6 => ?_) ?_; rotate_left; (· (go_simp; try with_reducible rfl)))
  | refine wpL_not (by rfl) ?_); (try simp only [Act.put, pA, pB, pC]))
 refine wpL_heavy (fun _ w' => EndS w2 g n add enc st.ats w2.heap.size s2 #[.pointer (some ⟨s, 0, none⟩), .pointer (some ⟨s2, 0, none⟩), .int .i64 o.bgn, .int .i64 0, .slice Am vs.length cm, .int .i64 o.old, .int .i64 0] w') (by rfl) (by rfl) (fun w6 hSw => ?_) (.inr (fun v6 w6 hT6 => ?_)) (fun v6 hv6 => ?_)
 ·(obtain ⟨s', e', hb⟩ := hSw; injection e' with e'; injection e' with e'; injection e' with e'; subst e'; have y2 := hb.2.2.frozen 1; have y3 := hb.2.2.cell 1; go_simp; exact hb.set (Nat.le_refl _))
 ·(exact HS0.out _ hT6.2.1)
 skip
 (try simp only [Act.put, pA, pB, pC])
 iterate 1 ((first
  | (refine wpL_read (v := ?_) (by rfl) (by rfl) (fun w6 hSw => ?_) ?_; rotate_left; (· (obtain ⟨y0, y1⟩ := hSw; go_simp; try with_reducible rfl)))
  | (refine wpL_free (v := ?_) (by rfl) (fun w6 => ?_) ?_; rotate_left; (· (go_simp; try with_reducible rfl)))
  | refine wpL_not (by rfl) ?_); (try simp only [Act.put, pA, pB, pC]))
 refine wpL_heavy (fun _ w' => EndS w2 g n add enc st.ats w2.heap.size s2 #[.pointer (some ⟨s, 0, none⟩), .pointer (some ⟨s2, 0, none⟩), .int .i64 o.bgn, .int .i64 x, .slice Am vs.length cm, .int .i64 o.old, .int .i64 0] w') (by rfl) (by rfl) (fun w6 hSw => ?_) (.inr (fun v6 w6 hT6 => ?_)) (fun v6 hv6 => ?_)
 ·(have y2 := hSw.2.2.frozen 3; have y3 := hSw.2.2.cell 3; go_simp; exact hSw.set (Nat.le_refl _))
 ·(exact HS0.out _ hT6.2.1)
 skip
 (try simp only [Act.put, pA, pB, pC])
 iterate 1 ((first
  | (refine wpL_read (v := ?_) (by rfl) (by rfl) (fun w6 hSw => ?_) ?_; rotate_left; (· (obtain ⟨y0, y1⟩ := hSw; go_simp; try with_reducible rfl)))
  | (refine wpL_free (v := ?_) (by rfl) (fun w6 => ?_) ?_; rotate_left; (· (go_simp; try with_reducible rfl)))
  | refine wpL_not (by rfl) ?_); (try simp only [Act.put, pA, pB, pC]))
 refine wpL_heavy (fun _ w' => EndS w2 g n add enc st.ats w2.heap.size s2 #[.pointer (some ⟨s, 0, none⟩), .pointer (some ⟨s2, 0, none⟩), .int .i64 o.bgn, .int .i64 x, .slice Am vs.length cm, .int .i64 o.old, .int .i64 (st.last + 1)] w') (by rfl) (by rfl) (fun w6 hSw => ?_) (.inr (fun v6 w6 hT6 => ?_)) (fun v6 hv6 => ?_)
 ·(have y2 := hSw.2.2.frozen 6; have y3 := hSw.2.2.cell 6; go_simp; exact hSw.set (Nat.le_refl _))
 ·(exact HS0.out _ hT6.2.1)
 skip
 (try simp only [Act.put, pA, pB, pC])
 refine wpL_nil ?_
 rintro w4 ⟨hsn4, hb4, hq4⟩
 have hgb4 := HGB2.out.below hb4
 have d2 := hgb4.cell 2
 have d3 := hgb4.cell 3
 have d7 := hgb4.cell 7
 have d9 := hgb4.cell 9
 have df2 := hgb4.frozen 2
 have df3 := hgb4.frozen 3
 have df7 := hgb4.frozen 7
 simp at d2 d3 d7 d9
 have hgb6 := (hgb4.set_ 7 (.int .i64 (st.last + 1))).set_ 3 (.slice none 0 0)
 have hvu6 := own_set_far (i := 3) (u := .slice none 0 0) (own_set_far (i := 7) (u := .int .i64 (st.last + 1)) (own_bel HVU2.out hb4) hgb4 (by decide)) (hgb4.set_ 7 (.int .i64 (st.last + 1))) (by decide)
 have hF6 : Fr (· = gb) w4 ((w4.setCell ⟨gb, 7, none⟩ (.int .i64 (st.last + 1))).setCell ⟨gb, 3, none⟩ (.slice none 0 0)) := ((Fr.refl _ _).set1 7 _).set1 3 _
 obtain ⟨ig, hig, hg0, hg1, hg2⟩ := info_parts groups_info
 have hbase : B <= w4.heap.size := by have := HH.out.text.base; have := HF2.out.size; have := hb4.size; omega
 have hpl : ps.length <= 1048576 := by omega
 have hsz6 : ((w4.setCell ⟨gb, 7, none⟩ (.int .i64 (st.last + 1))).setCell ⟨gb, 3, none⟩ (.slice none 0 0)).heap.size = w4.heap.size := by simp [World.setCell]
 have HSN4 := Lib.hid hsn4
 have HQ4 := Lib.hid hq4
 have HB4 := Lib.hid hb4
 clear hsn4 hq4 hv6
 go_wp2_with (at_builtin; go_loud (refine wpList_append_own_at _ rfl (.tmp 65) (.tmp 66) 83 rfl B 96 ig (.pointer none) 1 8 Tryz.underlying83 hig hg0 hg1 hg2 rfl (by decide) (.slice Au ps.length cu) ps.length _ rfl (hvu6.alloc _) ⟨w4.heap.size, 0, none⟩ 1 1 [.pointer (some ⟨w2.heap.size, 0, none⟩)] rfl rfl ?c1 (by simp [Value.oneCell']) (by unfold maxLen; omega) (by omega) (by simp [World.setCell]; omega) ?_))
 case c1 =>
  have := cell_one_new ((w4.setCell ⟨gb, 7, none⟩ (.int .i64 (st.last + 1))).setCell ⟨gb, 3, none⟩ (.slice none 0 0)) (.pointer (some ⟨w2.heap.size, 0, none⟩)) 96
  rw [hsz6] at this
  exact this
 intro v7 w7 hown7 hgr7 _ hat7
 have hvu6a := hvu6.alloc (.cells #[.pointer (some ⟨w2.heap.size, 0, none⟩)] 96)
 have hgb6a := hgb6.alloc (.cells #[.pointer (some ⟨w2.heap.size, 0, none⟩)] 96)
 have hgb7 := hgb6a.grown hgr7 (fun e => own_blk_ne hvu6a hgb6a (by decide) e.symm)
 obtain ⟨A7, c7, rfl, hc7⟩ := own_slice hown7
 have g2 := hgb7.cell 2
 have gf2 := hgb7.frozen 2
 have hgb8 := hgb7.set_ 2 (.slice A7 (ps.length + 1) c7)
 have g1' := hgb8.cell 1
 have g2' := hgb8.cell 2
 simp at g2 g1' g2'
 have q5 : (st.depth < (ps.length : Int) + 1) = True := by simp; omega
 have q6 : (st.depth < ((ps.length + 1 : Nat) : Int)) = True := by simp; omega
 have HO7 := Lib.hid hown7
 have HAT7 := Lib.hid hat7
 have HGR := Lib.hid hgr7
 have HGB6 := Lib.hid hgb6
 have HVU6 := Lib.hid hvu6
 have HGB8 := Lib.hid hgb8
 have HGB7 := Lib.hid hgb7
 have HGB4 := Lib.hid hgb4
 have HF6 := Lib.hid hF6
 clear hvu6a hgb6a hown7 hgr7 hat7 hgb6 hvu6 hgb8 hgb7 hgb4 hF6 d2 d3 d7 d9 df2 df3 df7 hig hg0 hg1 hg2
 go_upto_region 14 with fail
 obtain ⟨w8, hw8⟩ : ∃ w8, w7.setCell ⟨gb, 2, none⟩ (.slice A7 (ps.length + 1) c7) = w8 := ⟨_, rfl⟩
 rw [hw8] at g1' g2' HGB8 ⊢
 have HW8 := Lib.hid hw8
 clear hw8
 go_quiet (fail)
 have hown8 : w8.ownsRow B 96 1 (.slice A7 (ps.length + 1) c7) (ps.length + 1) ((ps.map fun p => Value.pointer (some ⟨p, 0, none⟩)) ++ [.pointer (some ⟨w2.heap.size, 0, none⟩)]) := by
  have a1 := own_set_far (i := 2) (u := .slice A7 (ps.length + 1) c7) HO7.out HGB7.out (by decide)
  rw [HW8.out] at a1
  exact a1
 have hownd : (w8.drewN nq).ownsRow B 96 1 (.slice A7 (ps.length + 1) c7) (ps.length + 1) ((ps.map fun p => Value.pointer (some ⟨p, 0, none⟩)) ++ [.pointer (some ⟨w2.heap.size, 0, none⟩)]) := ⟨hown8.1, hown8.2⟩
 have hgbd := HGB8.out.drewN nq
 obtain ⟨r7, hr7, hBr7⟩ : ∃ r7, A7 = some ⟨r7, 0, none⟩ /\ ∃ cs, Blk (w8.drewN nq) r7 96 cs := by
  rcases hownd.2 with ⟨_, e0⟩ | ⟨r', c', cur, e0, _, hbk, _⟩
  ·omega
  ·injection e0 with e0 _ _
   exact ⟨r', e0, cur, hbk⟩
 subst hr7
 obtain ⟨csr, hBr7⟩ := hBr7
 have g2d := hgbd.cell 2
 simp at g2d
 have HDEL := Lib.hid (del_any B r7 (ps.length + 1) c7 _ _ hownd (by omega) (fun u hu => by
  rcases List.mem_append.1 hu with h1 | h1
  ·obtain ⟨y, _, rfl⟩ := List.mem_map.1 h1
   rfl
  ·rw [List.mem_singleton] at h1
   rw [h1]
   rfl))
 have hrgb : r7 ≠ gb := Blk.ne_ hBr7 hgbd (by decide)
 have HGBD := Lib.hid hgbd
 clear hown8 hownd hgbd
 go_wp2_with fail
 refine (HDEL.out).mono ?_
 rintro e w10 ⟨rfl, hown10, hF10⟩
 rw [Nat.add_sub_cancel] at hown10 ⊢
 have hgb10 := HGBD.out.fr hF10 (fun e => hrgb e.symm)
 have k2 := hgb10.cell 2
 have kf2 := hgb10.frozen 2
 have hgb11 := hgb10.set_ 2 (.slice (some ⟨r7, 0, none⟩) ps.length c7)
 have hown11 := own_set_far (i := 2) (u := .slice (some ⟨r7, 0, none⟩) ps.length c7) hown10 hgb10 (by decide)
 simp at k2
 have HGB11 := Lib.hid hgb11
 have HO11 := Lib.hid hown11
 have HF10 := Lib.hid hF10
 have hro : OwnB (.slice (some ⟨r7, 0, none⟩) (ps.length + 1) c7) r7 := rfl
 clear hgb11 hown11 hown10 hgb10 HDEL
 go_wp2_with fail
 have hgbd := HGB11.out
 refine leaves_cons (f := 123) (args := #[.pointer (some ⟨gb, 0, none⟩)]) (by simp) (by simp [go_sem]) ?_
 refine (shut_deferred gb _ (some ⟨p, 0, none⟩) .returning _ hgbd (by simp)).mono ?_
 rintro e u' w'' ⟨rfl, rfl, rfl⟩
 have hvu4 := own_bel HVU2.out HB4.out
 have hF49 : Fr (fun y => y = gb \/ OwnB (.slice Au ps.length cu) y) w4 ((w10.setCell ⟨gb, 2, none⟩ (.slice (some ⟨r7, 0, none⟩) ps.length c7)).setCell ⟨gb, 6, none⟩ (.pointer none)) := by
  have a1 : Fr (fun y => y = gb \/ OwnB (.slice Au ps.length cu) y) w4 _ := HF6.out.more (fun _ _ h => .inl h)
  have a2 := (a1.alloc (.cells #[.pointer (some ⟨w2.heap.size, 0, none⟩)] 96)).grown HGR.out (fun k hk _ => .inr hk)
  have a3 := a2.setCell (p := ⟨gb, 2, none⟩) (.inl (.inl rfl)) (.slice (some ⟨r7, 0, none⟩) (ps.length + 1) c7)
  rw [HW8.out] at a3
  have a4 := (a3.drewN nq).call HF10.out (fun i hi hs => by
   subst hs
   rcases HAT7.out with h | h
   ·exact .inr (by unfold OwnB; rw [<- h]; rfl)
   ·have h' : i = w4.heap.size + 1 := Option.some.inj h
    have h3 : i < w4.heap.size := hi
    omega)
  exact (a4.setCell (p := ⟨gb, 2, none⟩) (.inl (.inl rfl)) _).setCell (p := ⟨gb, 6, none⟩) (.inl (.inl rfl)) _
 have hF09 : Fr (fun y => y = gb \/ OwnB (.slice Au ps.length cu) y) w ((w10.setCell ⟨gb, 2, none⟩ (.slice (some ⟨r7, 0, none⟩) ps.length c7)).setCell ⟨gb, 6, none⟩ (.pointer none)) :=
  ((HF2.out.more (fun _ _ h => .inl h)).bel HB4.out).call hF49 (fun i hi hs => hs)
 have typed4 : ∀ y, (y = gb \/ OwnB (.slice Au ps.length cu) y) -> (∃ cs', Blk w4 y 87 cs') \/ (∃ cs', Blk w4 y 96 cs') := fun y hy => by
  rcases hy with rfl | hy
  ·exact .inl ⟨_, HGB4.out⟩
  ·rcases hvu4.2 with ⟨e0, _⟩ | ⟨r, c, cur, e0, h1, h2, _⟩
   ·unfold OwnB at hy; rw [e0] at hy; cases hy
   ·unfold OwnB at hy
    rw [e0] at hy
    have : r = y := by simpa [Value.ownBlock] using hy
    subst this
    exact .inr ⟨cur, h2⟩
 have hK49 : GKeep w4.heap.size add add n n enc w4 ((w10.setCell ⟨gb, 2, none⟩ (.slice (some ⟨r7, 0, none⟩) ps.length c7)).setCell ⟨gb, 6, none⟩ (.pointer none)) := GKeep.far hF49 (fun y _ hy => by
  rcases typed4 _ hy with ⟨c1, hc⟩ | ⟨c1, hc⟩
  ·exact Far2.blk hc (by decide)
  ·exact Far2.blk hc (by decide))
 have hq9 := HQ4.out.fr hF49 (fun hy => by
  rcases typed4 _ hy with ⟨c1, hc⟩ | ⟨c1, hc⟩
  ·exact Blk.ne_ HQ4.out hc (by decide) rfl
  ·exact Blk.ne_ HQ4.out hc (by decide) rfl)
 have hs29 := HSN4.out.gkeep (N := w4.heap.size) (by
  obtain ⟨_, _, hb, _⟩ := HSN4.out
  exact hb.lt) hK49
 have hvu9 := own_set_far (i := 6) (u := .pointer none) HO11.out hgbd (by decide)
 have hgb9 := (hgbd.set_ 6 (.pointer none)).eq_ (show _ = #[.pointer (some ⟨g, 0, none⟩), .int .i64 st.depth, .slice (some ⟨r7, 0, none⟩) ps.length c7, .slice none 0 0, .map (some m), .slice none 0 0, .pointer none, .int .i64 (st.last + 1), .int .i64 st.saved, .int .i64 (st.last + 1)] by simp)
 refine ⟨_, results_tmp rfl _ _ _, rfl, ⟨.slice (some ⟨r7, 0, none⟩) ps.length c7, HH.out.ended1 hsn hvm hmv hml2 hF09 hgb9 hq9 hs29 HPS.out hpg HVU.out hvu9 (by have := HUL.out; omega) hlast⟩, ?_⟩
 refine BkFr.of_fr hF09 (fun y hy hs => ?_)
 rcases hs with rfl | hs
 ·exact ⟨HH.out.low.1, _, _, HH.out.blk, .inr (.inr (.inl rfl))⟩
 ·rcases HVU.out.2 with ⟨e0, _⟩ | ⟨r, c', cur, e0, hlo, h2, _⟩
  ·unfold OwnB at hs; rw [e0] at hs; cases hs
  ·unfold OwnB at hs
   rw [e0] at hs
   have : r = y := by simpa [Value.ownBlock] using hs
   subst this
   exact ⟨hlo, _, _, h2, .inr (.inr (.inr (.inr (.inr rfl))))⟩
end Go.Proofs.YtkoakanpaehkmaaGreatDoor
