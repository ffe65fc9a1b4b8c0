/-
  Drawn regions (Ord), and what the walks of the text bring. A call in a drawn region that brings a slice of integers. The walk of the closure in Text.fresh that shuts a piece. Where two neighbours part by themselves there is a boundary; cluster.Next tells the least boundary above an offset. (Plain.) Of a line: its content has no atom of a break, its break has no other (plain). motion.Clamp: the cursor's place nearest to any offset.
-/
import Derived.Test.YteekabaoocaghaaGreatLHeavy
import Derived.Test.YteekabaoocaghaaGreatLOpenLaw
import Derived.Test.YteekabaoocaghaaGreatLEnds
import Derived.Test.YteekabaoocaghaaGreatLFresh
import Derived.Test.YteekabaoocaghaaGreatLRow6
import Derived.Test.YteekabaoocaghaaGreatLCluster6
set_option linter.unusedSimpArgs false
set_option linter.unusedVariables false
namespace Go.Proofs.YteekabaoocaghaaGreat
end Go.Proofs.YteekabaoocaghaaGreat
namespace Go.Proofs.YteekabaoocaghaaGreat
open Go.RowKit

/-- a call has brought a slice of integers -/
def GotInts (W : World) (n : Nat) (l : List Int) (v : Value) (w' : World) : Prop := ∃ A c, v = .slice A n c ∧ n ≤ c ∧ Ints w' Any A n l ∧ Below W.heap.size W w'
theorem GotInts.bel {W w' : World} {n : Nat} {l : List Int} {v : Value} (h : GotInts W n l v w') : Below W.heap.size W w' := by
  obtain ⟨_, _, _, _, _, h⟩ := h
  exact h
theorem GotInts.out {W w' : World} {n c : Nat} {l : List Int} {A : Option Addr} (h : GotInts W n l (.slice A n c) w') : Ints w' Any A n l ∧ Below W.heap.size W w' := by
  obtain ⟨_, _, e, _, hi, hb⟩ := h
  injection e with e1 e2 e3
  subst e1
  exact ⟨hi, hb⟩
theorem GotInts.keep {W w' w'' : World} {n : Nat} {l : List Int} {v : Value} (h : GotInts W n l v w') (hb : Below w'.heap.size w' w'') : GotInts W n l v w'' := by
  obtain ⟨A, c, e, hc, hi, hb'⟩ := h
  exact ⟨A, c, e, hc, Reads.below hi hb, bseq hb' hb⟩
theorem GotInts.mk_ {W w w' : World} {n : Nat} {l : List Int} {v : Value} (hn : n = l.length) (hb : Below W.heap.size W w) (ho : w'.ownsRow w.heap.size 3 1 v l.length (l.map (Value.int .i64))) (hb' : Below w.heap.size w w') : GotInts W n l v w' := by
  subst hn
  rcases ho.2 with ⟨e1, e2⟩ | ⟨g, cap, cur, e1, _, _, hc, _⟩
  · refine ⟨none, 0, by rw [e1, e2], by omega, ⟨by simp, fun h => absurd h (by omega)⟩, bseq hb hb'⟩
  · exact ⟨_, cap, e1, hc, Reads.more (Reads.of_own (by rw [← e1]; exact ho)) (fun _ _ _ => trivial) (by decide), bseq hb hb'⟩
end Go.Proofs.YteekabaoocaghaaGreat
namespace Go.Proofs.YteekabaoocaghaaGreat
open Go.RowKit

theorem newP_bts {w0 w : World} {B g bt bf bp bn n0 : Nat} {enc lim : Int} {add0 add v : Value} {a : Option Addr} {xs : List Value} {dn pd : List Int} {m : Nat} {ps : List Pc} {ba cap : Nat}
    (h : FreshS w0 B g bt bf bp bn enc lim n0 add0 a xs dn pd m ps v add w) (hr0 : w0.ownsRow B 5 1 add0 n0 xs) (hadd : add = .slice (some ⟨ba, 0, none⟩) (n0 + (putL enc dn).length + (putL enc pd).length) cap) :
    Bts w Any (some ⟨ba, n0 + (putL enc dn).length, none⟩) (putL enc pd).length (putL enc pd) := by
  refine ⟨by simp, fun _ => ⟨_, rfl, trivial, fun j u hj => ?_⟩⟩
  rw [add_cell]
  have := h.row.cells (g := ba) (by rw [hadd]; rfl) (n0 + (putL enc dn).length + j) u (by
    have hx := hr0.1
    rw [List.getElem?_append_right (by omega), List.map_append, List.getElem?_append_right (by rw [List.length_map]; omega), List.length_map]
    rw [← hj]
    congr 1
    omega)
  rw [add_cell, Nat.zero_add] at this
  exact this
def ShutC (bt bf bp g : Nat) (enc : Int) (F : Nat) (v av : Value) (w : World) : Prop :=
  w.cell? ⟨bt, 0, none⟩ = some (.pointer (some ⟨g, 0, none⟩)) ∧ w.cell? ⟨g, 0, none⟩ = some (.int .i64 enc) ∧ w.cell? ⟨g, 3, none⟩ = some av ∧ w.cell? ⟨bf, 0, none⟩ = some (.int .i64 F) ∧ w.cell? ⟨bp, 0, none⟩ = some v
theorem ShutC.keep {w w' : World} {bt bf bp g F : Nat} {enc : Int} {v av : Value} (h : ShutC bt bf bp g enc F v av w) (hb : Below w.heap.size w w') : ShutC bt bf bp g enc F v av w' :=
  ⟨cell_keep hb h.1, cell_keep hb h.2.1, cell_keep hb h.2.2.1, cell_keep hb h.2.2.2.1, cell_keep hb h.2.2.2.2⟩
/-- what a store at the cells of the closure's variables asks -/
def ShutF (bt bf bp bn g : Nat) (enc : Int) (F : Nat) (v av : Value) (w : World) : Prop := ShutC bt bf bp g enc F v av w ∧ w.frozen? ⟨bp, 0, none⟩ = false ∧ w.frozen? ⟨bf, 0, none⟩ = false ∧ w.frozen? ⟨bn, 0, none⟩ = false
theorem FreshS.fr_facts {w0 w w1 : World} {B g bt bf bp bn n0 : Nat} {enc lim : Int} {add0 add v : Value} {a : Option Addr} {xs : List Value} {dn pd : List Int} {m : Nat} {ps : List Pc}
    (h : FreshS w0 B g bt bf bp bn enc lim n0 add0 a xs dn pd m ps v add w) (hfr : Fr (OwnB v) w w1) : ShutF bt bf bp bn g enc (n0 + (putL enc dn).length) v add w1 := by
  have ov : ∀ {T : TypeId} {cs : Array Value} {b : Nat}, Blk w b T cs → 136 ≠ T → ¬ OwnB v b := fun hb hT => own_blk_ne h.prow hb hT
  have t1 := h.tx.fr hfr (ov h.tx (by decide))
  have t2 := h.tb.fr hfr (ov h.tb (by decide))
  have t3 := h.fb.fr hfr (ov h.fb (by decide))
  have t4 := h.pb.fr hfr (ov h.pb (by decide))
  have t5 := h.nb.fr hfr (ov h.nb (by decide))
  exact ⟨⟨t2.cell 0, t1.cell 0, t1.cell 3, t3.cell 0, t4.cell 0⟩, t4.frozen 0, t3.frozen 0, t5.frozen 0⟩
theorem FreshS.fr_blks {w0 w w1 : World} {B g bt bf bp bn n0 : Nat} {enc lim : Int} {add0 add v : Value} {a : Option Addr} {xs : List Value} {dn pd : List Int} {m : Nat} {ps : List Pc}
    (h : FreshS w0 B g bt bf bp bn enc lim n0 add0 a xs dn pd m ps v add w) (hfr : Fr (OwnB v) w w1) (u : Value) (x : Value) :
    (w1.setCell ⟨bp, 0, none⟩ u).cell? ⟨bf, 0, none⟩ = some (.int .i64 ((n0 + (putL enc dn).length : Nat) : Int)) ∧ ((w1.setCell ⟨bp, 0, none⟩ u).setCell ⟨bf, 0, none⟩ x).cell? ⟨bn, 0, none⟩ = some (.int .i64 (m : Int)) := by
  have ov : ∀ {T : TypeId} {cs : Array Value} {b : Nat}, Blk w b T cs → 136 ≠ T → ¬ OwnB v b := fun hb hT => own_blk_ne h.prow hb hT
  have t3 := h.fb.fr hfr (ov h.fb (by decide))
  have t4 := h.pb.fr hfr (ov h.pb (by decide))
  have t5 := h.nb.fr hfr (ov h.nb (by decide))
  have n7 : bf ≠ bp := Blk.ne_ t3 t4 (by decide)
  have n8 : bn ≠ bp := Blk.ne_ t5 t4 (by decide)
  exact ⟨(t3.far (p := ⟨bp, 0, none⟩) n7 u).cell 0, ((t5.far (p := ⟨bp, 0, none⟩) n8 u).far (p := ⟨bf, 0, none⟩) (Ne.symm h.ge.2.2.2.2) x).cell 0⟩
set_option maxRecDepth 100000 in
set_option maxHeartbeats 4000000 in
theorem shut_any (w0 : World) (B g bt bf bp bn : Nat) (enc lim : Int) (n0 : Nat) (add0 : Value) (a : Option Addr) (xs : List Value) (dn pd : List Int) (ps : List Pc) (v add : Value) (w : World) (he : enc = 1 ∨ enc = 2 ∨ enc = 3 ∨ enc = 4)
    (h : FreshS w0 B g bt bf bp bn enc lim n0 add0 a xs dn pd pd.length ps v add w) (hr0 : w0.ownsRow B 5 1 add0 n0 xs) (hd : dec enc (putL enc pd) = withSz enc pd) (hf : Fit enc pd) (hn : (putL enc pd).length ≤ 1048576) (hN : n0 + (putL enc dn).length + (putL enc pd).length ≤ 1073741824) (hpl : ps.length ≤ 1073741824) :
    Calls Tryz.prog 148 #[.pointer (some ⟨bt, 0, none⟩), .pointer (some ⟨bf, 0, none⟩), .pointer (some ⟨bp, 0, none⟩), .pointer (some ⟨bn, 0, none⟩)] w fun e w' => ShutPost w0 B g bt bf bp bn enc lim n0 add0 a xs dn pd add w e w' := by
  obtain ⟨A', cap, hadd, hcap⟩ := own_slice h.row
  have c1 := h.tb.cell 0
  have c2 := h.tx.cell 3
  have c3 := h.fb.cell 0
  have c4 := h.pb.cell 0
  have c5 := h.nb.cell 0
  simp at c1 c2 c3 c4 c5
  by_cases hz : (putL enc pd).length = 0
  · have hpd : pd = [] := by
      cases pd with
      | nil => rfl
      | cons x xs =>
        have h1 := putA_len enc x (hf x List.mem_cons_self)
        have h2 := hf x List.mem_cons_self
        rw [putL_cons, List.length_append] at hz
        omega
    subst hpd
    rw [hadd] at c2
    obtain ⟨F, hF⟩ : ∃ F, n0 + (putL enc dn).length = F := ⟨_, rfl⟩
    have q : ((F : Int) < ((n0 + (putL enc dn).length + (putL enc ([] : List Int)).length : Nat) : Int)) = False := by simp [putL_nil]; omega
    obtain ⟨M, hM⟩ : ∃ M, n0 + (putL enc dn).length + (putL enc ([] : List Int)).length = M := ⟨_, rfl⟩
    rw [hM] at c2 q
    rw [← Int.natCast_add, hF] at c3
    have H := Lib.hid h
    clear h hF hM hadd hr0 c4 c5 hd hf
    go_enter Tryz.func148, Tryz.ntmps148
    go_wp2_with fail
    refine bodyPost_ret (results_none rfl _ _ _) rfl ⟨rfl, ps, v, ?_⟩
    rw [List.append_nil]
    exact H.out
  · obtain ⟨ba, hA⟩ : ∃ ba, A' = some ⟨ba, 0, none⟩ := by
      rcases h.row.2 with ⟨e0, e1⟩ | ⟨q, c, cur, e0, _⟩
      · omega
      · rw [hadd] at e0
        injection e0 with e0
        exact ⟨q, e0⟩
    subst hA
    obtain ⟨F, hF⟩ : ∃ F, n0 + (putL enc dn).length = F := ⟨_, rfl⟩
    obtain ⟨m, hm⟩ : ∃ m, (putL enc pd).length = m := ⟨_, rfl⟩
    have hbts := newP_bts h hr0 hadd
    have hcl := fun (w1 : World) hfr (u x : Value) => h.fr_blks (w1 := w1) hfr u x
    rw [hF] at hcl
    have HCL := Lib.hid hcl
    clear hcl
    have hkp := fun (w1 : World) hfr => h.fr_facts (w1 := w1) hfr
    have hfin := fun (w1 : World) (v' : Value) hfr hown => h.shut (w1 := w1) (v' := v') hr0 hadd hd hf (by omega) hn hfr hown
    obtain ⟨S, hS⟩ : ∃ S, sumsOf (dec enc (putL enc pd)) = S := ⟨_, rfl⟩
    have hcells : (newP enc ba (n0 + (putL enc dn).length) pd).cells = partC (some ⟨ba, F, none⟩) m m (-1) S := by
      unfold newP Pc.cells
      dsimp only
      rw [hF, hm, hS]
    rw [hF, hm] at hadd hN hcap hbts
    rw [hF] at hkp
    rw [hcells, hF, hm] at hfin
    rw [hadd] at c2
    rw [← Int.natCast_add, hF] at c3
    have q : ((F : Int) < ((F + m : Nat) : Int)) = True := by simp; omega
    obtain ⟨M, hM⟩ : ∃ M, F + m = M := ⟨_, rfl⟩
    rw [hM] at c2 q hN hcap hadd hfin
    have q2 : F ≤ M := by omega
    have q3 : M - F = m := by omega
    have q4 : (M = F) = False := by simp; omega
    rw [hadd] at hkp
    have HK := Lib.hid hkp
    have hbyt := putL_byt enc pd hf
    have hrow := h.prow
    obtain ⟨xs0, hxs0⟩ : ∃ x, (ps.flatMap fun p => p.cells.toList) = x := ⟨_, rfl⟩
    rw [hxs0] at hrow hfin
    obtain ⟨l, hl⟩ : ∃ l, putL enc pd = l := ⟨_, rfl⟩
    rw [hl] at hbts hbyt hS
    have hb0 : w0.heap.size ≤ w.heap.size := h.step.fr.size
    have f3 := h.fb.frozen 0
    have f4 := h.pb.frozen 0
    have f5 := h.nb.frozen 0
    have c0 := h.tx.cell 0
    simp at c0
    have HF := Lib.hid hfin
    have HD := Lib.hid hd
    have HBT := Lib.hid hbts
    have HBY := Lib.hid hbyt
    have HR := Lib.hid hrow
    have HS := Lib.hid hS
    have HE := Lib.hid he
    clear h hkp hF hm hM hadd hr0 hd hf hfin hcells hn hxs0 hl hbts hbyt hrow hS he hz
    obtain ⟨ip, zp, hip, hp0, hp1, hp2, hp3⟩ := part_row
    go_enter Tryz.func148, Tryz.ntmps148
    go_wp2_with fail
    refine wp_region_lin (ShutC bt bf bp g enc F v (.slice (some ⟨ba, 0, none⟩) M cap)) (fun w' => Below w.heap.size w w') (fun k => k == 13 || k == 14 || k == 15 || k == 16) (fun k => k == 16) (fun _ => false) (by kernel_rfl) (by kernel_rfl) ((Below.refl _ _).drew) (fun w' h => (HK.out _ (Fr.of_below h)).1) ?_
    repeat (first
      | (refine wpL_read (v := ?_) (by rfl) (by rfl) (fun w6 hSw => ?_) ?_; rotate_left; (· (obtain ⟨y0, y1, y2, y3, y4⟩ := hSw; go_simp; first | done | with_reducible rfl)); (try simp only [Act.put, List.setIfInBounds_toArray, List.set_cons_zero, List.set_cons_succ]))
      | (refine wpL_free (v := ?_) (by rfl) (fun w6 => ?_) ?_; rotate_left; (· (go_simp; first | done | with_reducible rfl)); (try simp only [Act.put, List.setIfInBounds_toArray, List.set_cons_zero, List.set_cons_succ]))
      | (refine wpL_not (by rfl) ?_; (try simp only [Act.put, List.setIfInBounds_toArray, List.set_cons_zero, List.set_cons_succ])))
    refine wpL_call (f := ?_) (args := ?_) (fun v1 w1 => v1 = .agg #[.slice (some ⟨ba, F, none⟩) m m, .int .i64 (-1), .int .i64 S.atoms, .int .i64 S.bytes, .int .i64 S.breaks, .bool S.lf, .bool S.cr] ∧ Below w.heap.size w w1) (by rfl) (by rfl) (fun w6 hSw => ?_) (fun w6 hSw => ?_) (.inr (fun v6 w6 hT6 => ?_)) (fun v6 hv6 => ?_)
    rotate_left 2
    · (skip; go_simp; first | done | (constructor <;> with_reducible rfl) | with_reducible rfl)
    · (refine (newPart_any enc Any (some ⟨ba, F, none⟩) m m (-1) l w6 HE.out (Reads.below HBT.out hSw) HBY.out (by omega) (Nat.le_refl _)).mono ?_; rintro e w1 ⟨rfl, hb1⟩; exact ⟨_, rfl, by rw [HS.out]; rfl, bseq hSw hb1⟩)
    · (exact (HK.out _ (Fr.of_below hT6.2)).1)
    obtain ⟨wq, rfl, -⟩ := hv6
    (try simp only [Act.put, List.setIfInBounds_toArray, List.set_cons_zero, List.set_cons_succ])
    refine wpL_heavy (fun u w' => ∃ wq, Below w.heap.size w wq ∧ u = .slice (some ⟨wq.heap.size, 0, none⟩) 1 1 ∧ w' = wq.alloc (.cells #[.slice (some ⟨ba, F, none⟩) m m, .int .i64 (-1), .int .i64 S.atoms, .int .i64 S.bytes, .int .i64 S.breaks, .bool S.lf, .bool S.cr] 136)) (by rfl) (by rfl) (fun w6 hSw => ?_) (.inr (fun v6 w6 hT6 => ?_)) (fun v6 hv6 => ?_)
    · (go_simp; exact ⟨w6, hSw.2, rfl, rfl⟩)
    · (obtain ⟨wq, hq, -, rfl⟩ := hT6; exact (HK.out _ (Fr.of_below (balloc hq))).1)
    skip
    (try simp only [Act.put, List.setIfInBounds_toArray, List.set_cons_zero, List.set_cons_succ])
    refine wpL_heavy (fun u w' => Fr (OwnB v) w w' ∧ w'.ownsRow w0.heap.size 136 7 u (ps.length + 1) (xs0 ++ [.slice (some ⟨ba, F, none⟩) m m, .int .i64 (-1), .int .i64 S.atoms, .int .i64 S.bytes, .int .i64 S.breaks, .bool S.lf, .bool S.cr])) (by rfl) (by rfl) (fun w6 hSw => ?_) (.inr (fun v6 w6 hT6 => ?_)) (fun v6 hv6 => ?_)
    · (obtain ⟨wq, hq, rfl, rfl⟩ := hSw; exact hrun_append_own 204 rfl w0.heap.size 136 ip zp 7 64 Tryz.underlying204 hip hp0 hp1 hp2 hp3 (by decide) v ps.length _ rfl ((ownsRow_below HR.out hq).alloc _) ⟨wq.heap.size, 0, none⟩ 1 1 [.slice (some ⟨ba, F, none⟩) m m, .int .i64 (-1), .int .i64 S.atoms, .int .i64 S.bytes, .int .i64 S.breaks, .bool S.lf, .bool S.cr] rfl rfl (cells_new _ _ _) (part_one _ _ _ _ _ _ _ _ _) (by unfold maxLen; omega) (by omega) (by have := hq.size; simp; omega) (fun v' w' ho' hg' _ hat' => ⟨(Fr.of_below (balloc hq)).grown hg' (fun k hk _ => hk), ho'⟩))
    · (exact (HK.out _ hT6.1).1)
    obtain ⟨wz, -, hz7⟩ := hv6; obtain ⟨A7, c7, rfl, -⟩ := own_slice hz7
    (try simp only [Act.put, List.setIfInBounds_toArray, List.set_cons_zero, List.set_cons_succ])
    refine wpL_heavy (fun _ w' => ∃ wq, (Fr (OwnB v) w wq ∧ wq.ownsRow w0.heap.size 136 7 (.slice A7 (ps.length + 1) c7) (ps.length + 1) (xs0 ++ [.slice (some ⟨ba, F, none⟩) m m, .int .i64 (-1), .int .i64 S.atoms, .int .i64 S.bytes, .int .i64 S.breaks, .bool S.lf, .bool S.cr])) ∧ w' = wq.setCell ⟨bp, 0, none⟩ (.slice A7 (ps.length + 1) c7)) (by rfl) (by rfl) (fun w6 hSw => ?_) (.inl (by rfl)) (fun v6 hv6 => ?_)
    · (obtain ⟨⟨y0, y1, y2, y3, y4⟩, y5, y6, y7⟩ := HK.out _ hSw.1; go_simp; exact ⟨w6, hSw, rfl⟩)
    skip
    (try simp only [Act.put, List.setIfInBounds_toArray, List.set_cons_zero, List.set_cons_succ])
    refine wpL_nil ?_
    rintro w2 ⟨wq, ⟨hfr, hown⟩, rfl⟩
    have hB3 := (HK.out _ hfr).2
    have y6 : (wq.setCell ⟨bp, 0, none⟩ (.slice A7 (ps.length + 1) c7)).frozen? ⟨bf, 0, none⟩ = false := (World.frozen?_setCell _ _ _ _).trans hB3.2.1
    have y7 : ((wq.setCell ⟨bp, 0, none⟩ (.slice A7 (ps.length + 1) c7)).setCell ⟨bf, 0, none⟩ (.int .i64 M)).frozen? ⟨bn, 0, none⟩ = false := (World.frozen?_setCell _ _ _ _).trans ((World.frozen?_setCell _ _ _ _).trans hB3.2.2)
    obtain ⟨z6, z7⟩ := HCL.out _ hfr (.slice A7 (ps.length + 1) c7) (.int .i64 M)
    have HP := Lib.hid (HF.out _ _ hfr hown)
    clear hB3 hfr hown
    go_wp2_with fail
    refine bodyPost_ret (results_none rfl _ _ _) rfl ⟨rfl, _, _, HP.out⟩
end Go.Proofs.YteekabaoocaghaaGreat
namespace Go.Proofs.YteekabaoocaghaaGreat
open Go.RowKit

theorem sure_no {s : Scan} {a b : Int} (h : sureF a b = true) (hs : s.last = classF a) : joinsF s b = false := by
  unfold sureF at h
  unfold joinsF
  rw [hs]
  rw [Bool.and_eq_true, Bool.or_eq_true] at h
  obtain ⟨h1, h2⟩ := h
  rw [if_neg (fun hh => by rw [hh.1, hh.2] at h2; exact absurd h2 (by decide)), if_pos h1]
theorem takesF_last {s : Scan} {b : Int} (h : joinsF s b = true) : (takesF s b).last = classF b := by
  unfold takesF
  rw [if_pos h]
  rfl
theorem runF_sure : ∀ (l : List Int) (s : Scan) (a : Int) (k : Nat), s.last = classF a → k < l.length → sureF ((a :: l).getD k 0) (l.getD k 0) = true → runF s l ≤ k := by
  intro l
  induction l with
  | nil => intro s a k _ hk; simp at hk
  | cons b r ih =>
    intro s a k hs hk h
    unfold runF
    split
    · rename_i hj
      cases k with
      | zero =>
        have := sure_no (s := s) (a := a) (b := b) (by simpa using h) hs
        rw [this] at hj
        cases hj
      | succ k =>
        have := ih (takesF s b) b k (takesF_last hj) (by simpa using hk) (by simpa using h)
        omega
    · omega
theorem nextB_sure {l : List Int} {q k : Nat} (hq : q < k) (hk : k < l.length) (h : sureF (l.getD (k - 1) 0) (l.getD k 0) = true) : nextB l q ≤ k := by
  unfold nextB
  have h1 : (l.drop (q + 1)).getD (k - (q + 1)) 0 = l.getD k 0 := by
    rw [List.getD_eq_getElem?_getD, List.getElem?_drop, List.getD_eq_getElem?_getD, show q + 1 + (k - (q + 1)) = k by omega]
  have h2 : (l.getD q 0 :: l.drop (q + 1)).getD (k - (q + 1)) 0 = l.getD (k - 1) 0 := by
    rcases Nat.eq_or_lt_of_le (show q + 1 ≤ k from hq) with e | e
    · rw [← e, Nat.sub_self]
      rfl
    · obtain ⟨m, hm⟩ : ∃ m, k - (q + 1) = m + 1 := ⟨k - (q + 1) - 1, by omega⟩
      rw [hm, List.getD_cons_succ, List.getD_eq_getElem?_getD, List.getElem?_drop, List.getD_eq_getElem?_getD, show q + 1 + m = k - 1 by omega]
  have := runF_sure (l.drop (q + 1)) (beginF (l.getD q 0)) (l.getD q 0) (k - (q + 1)) rfl (by rw [List.length_drop]; omega) (by rw [h1, h2]; exact h)
  omega
theorem inC_ex {C : List Int} {r : Nat} (hr : r ≤ C.length) : ∃ j, InC C r j := by
  have key : ∀ n, n ≤ nC C → ∃ j, j ≤ n ∧ mkb C j ≤ r ∧ ∀ k, j < k → k ≤ n → r < mkb C k := by
    intro n
    induction n with
    | zero => intro _; exact ⟨0, Nat.le_refl _, by rw [mk_zero]; omega, fun k h1 h2 => by omega⟩
    | succ n ih =>
      intro hn
      obtain ⟨j, h1, h2, h3⟩ := ih (by omega)
      rcases Nat.lt_or_ge r (mkb C (n + 1)) with h4 | h4
      · refine ⟨j, by omega, h2, fun k hk hk2 => ?_⟩
        rcases Nat.eq_or_lt_of_le hk2 with e | e
        · rw [e]; exact h4
        · exact h3 k hk (by omega)
      · exact ⟨n + 1, Nat.le_refl _, h4, fun k hk hk2 => by omega⟩
  obtain ⟨j, h1, h2, h3⟩ := key (nC C) (Nat.le_refl _)
  exact ⟨j, h1, h2, h3⟩
theorem sure_mk {l : List Int} {k : Nat} (hk : k < l.length) (h : sureF (l.getD (k - 1) 0) (l.getD k 0) = true) : ∃ j, j < nC l ∧ mkb l j = k := by
  obtain ⟨j, hj⟩ := inC_ex (C := l) (r := k) (by omega)
  have hlt := hj.lt hk
  refine ⟨j, hlt, ?_⟩
  rcases Nat.eq_or_lt_of_le hj.low with e | e
  · exact e
  · have h1 := nextB_sure e hk h
    have h2 := hj.next hlt
    rw [(mk_step hlt).2] at h2
    omega
theorem safeG_spec (l : List Int) (p : Nat) (hp : p < l.length) : ∃ j, j < nC l ∧ mkb l j = safeG l p := by
  induction p with
  | zero => exact ⟨0, nC_pos hp, by simp [safeG, mk_zero]⟩
  | succ p ih =>
    simp only [safeG]
    split
    · rename_i h
      exact sure_mk hp (by simpa using h)
    · exact ih (by omega)
theorem bnds_mk {C : List Int} {j : Nat} (hj : j < nC C) : bnds C (mkb C j) = mkb C (j + 1) :: bnds C (mkb C (j + 1)) := by
  rw [bnds_lt _ _ (mk_step hj).1, ← (mk_step hj).2]
theorem fold_next {C : List Int} {p j : Nat} (h : InC C p j) (hp : p < C.length) : ∀ (f j0 s : Nat), j - j0 ≤ f → j0 ≤ j →
    foldU (fun (s k : Nat) => (decide (k ≤ p), if p < k then k else s)) s (bnds C (mkb C j0)) = mkb C (j + 1) := by
  have hlt := h.lt hp
  have hn := h.next hlt
  intro f
  induction f with
  | zero =>
    intro j0 s hf hj0
    have e : j0 = j := by omega
    subst e
    rw [bnds_mk hlt]
    unfold foldU
    rw [if_neg (by simp; omega), if_pos hn]
  | succ f ih =>
    intro j0 s hf hj0
    rcases Nat.eq_or_lt_of_le hj0 with e | e
    · subst e
      rw [bnds_mk hlt]
      unfold foldU
      rw [if_neg (by simp; omega), if_pos hn]
    · rw [bnds_mk (by omega)]
      unfold foldU
      have h1 := mk_mono (C := C) (a := j0 + 1) (b := j) e h.le
      have h2 := h.low
      rw [if_pos (by simp; omega)]
      exact ih (j0 + 1) _ (by omega) e
theorem nextF_mk {C : List Int} {p j : Nat} (h : InC C p j) (hp : p < C.length) : nextF C p = mkb C (j + 1) := by
  unfold nextF
  rw [if_pos hp]
  obtain ⟨j0, h1, h2⟩ := safeG_spec C p hp
  have h3 : safeF C (p + 1) = safeG C p := by
    unfold safeF
    rw [show min (p + 1) C.length - 1 = p by omega]
  have h4 := safeG_le C p
  rw [h3, ← h2]
  refine fold_next h hp _ j0 _ (Nat.le_refl _) ?_
  rcases Nat.lt_or_ge j j0 with h5 | h5
  · have := h.high j0 h5 (by omega)
    omega
  · exact h5
end Go.Proofs.YteekabaoocaghaaGreat
namespace Go.Proofs.YteekabaoocaghaaGreat
open Go.RowKit

theorem line_from (ds : List (Int × Int)) (i : Nat) : (lineF ds i).from_ = (sk ds i : Int) := by
  unfold lineF
  split
  · unfold closedF
    split
    · rfl
    · split <;> rfl
  · rfl
theorem line_sk_le {ds : List (Int × Int)} (hp : PosD ds) {m k : Nat} (hm : m ≤ ds.length) (hk : k ≤ totE ds) (h : k ≤ cntE (ds.map Prod.fst) m) : sk ds k ≤ m := by
  rcases Nat.eq_zero_or_pos k with h0 | h0
  · subst h0; rw [sk_zero]; omega
  · obtain ⟨_, h2, h3⟩ := sk_spec hp h0 hk
    rcases Nat.lt_or_ge m (sk ds k) with h4 | h4
    · have := cntE_lt (ds.map Prod.fst) h4 h2
      omega
    · exact h4
theorem isE_no {A : List Int} {p : Nat} (h : isE A (p + 1) = false) (hp : p < A.length) : A.getD p 0 ≠ 10 ∧ (A.getD p 0 = 13 → p + 1 < A.length ∧ A.getD (p + 1) 0 = 10) := by
  unfold isE at h
  rw [decide_eq_false_iff_not] at h
  simp only [Nat.add_sub_cancel] at h
  have h1 : ¬ (A.getD p 0 = 10 ∨ (A.getD p 0 = 13 ∧ ¬ (p + 1 < A.length ∧ A.getD (p + 1) 0 = 10))) := fun hh => h ⟨by omega, by omega, hh⟩
  rw [not_or] at h1
  refine ⟨h1.1, fun h13 => ?_⟩
  exact Decidable.byContradiction fun hn => h1.2 ⟨h13, hn⟩
theorem isE_lf {A : List Int} {p : Nat} (hp : p < A.length) (h : A.getD p 0 = 10) : isE A (p + 1) = true := by
  unfold isE
  rw [decide_eq_true_eq]
  simp only [Nat.add_sub_cancel]
  exact ⟨by omega, by omega, .inl h⟩
theorem isE_brk {A : List Int} {p : Nat} (h : isE A p = true) : A.getD (p - 1) 0 = 10 ∨ A.getD (p - 1) 0 = 13 := by
  unfold isE at h
  rw [decide_eq_true_eq] at h
  omega
section
variable {ds : List (Int × Int)} (hp : PosD ds)
include hp
/-- no line ends within a line -/
theorem line_noE {i q : Nat} (hi : i ≤ totE ds) (h0 : sk ds i < q) (h1 : if i < totE ds then q < sk ds (i + 1) else q ≤ ds.length) : isE (ds.map Prod.fst) q = false := by
  rcases hb : isE (ds.map Prod.fst) q with _ | _
  · rfl
  · exfalso
    have hc := sk_cnt hp hi
    have a1 := cntE_lt (ds.map Prod.fst) h0 hb
    rw [hc.2.1] at a1
    split at h1
    · rename_i hlt
      have hs := sk_spec hp (k := i + 1) (by omega) hlt
      have a2 := cntE_lt (ds.map Prod.fst) h1 hs.2.1
      rw [hs.2.2] at a2
      omega
    · have a2 := cntE_mono (ds.map Prod.fst) h1
      have : totE ds = cntE (ds.map Prod.fst) ds.length := rfl
      omega
theorem line_form {i : Nat} (hi : i ≤ totE ds) : (∀ p : Nat, (lineF ds i).from_ ≤ p → (p : Int) < (lineF ds i).to_ → (ds.map Prod.fst).getD p 0 ≠ 10 ∧ (ds.map Prod.fst).getD p 0 ≠ 13) ∧
    (∀ p : Nat, (lineF ds i).to_ ≤ p → (p : Int) < (lineF ds i).next → (ds.map Prod.fst).getD p 0 = 10 ∨ (ds.map Prod.fst).getD p 0 = 13) ∧
    (i < totE ds → (lineF ds i).to_ < (lineF ds i).next ∧ (lineF ds i).next = (lineF ds (i + 1)).from_) := by
  have hno := fun q => line_noE hp (q := q) hi
  have hl : (ds.map Prod.fst).length = ds.length := List.length_map ..
  have hc := sk_cnt hp hi
  have hfr := line_from ds (i + 1)
  obtain ⟨A, hA⟩ : ∃ A, ds.map Prod.fst = A := ⟨_, rfl⟩
  by_cases hlt : i < totE ds
  · have hs := sk_spec hp (k := i + 1) (by omega) hlt
    have hsl := sk_lt hp hlt
    have hle := isE_le hs.2.1
    have hbr := isE_brk hs.2.1
    simp only [if_pos hlt] at hno
    have hF : lineF ds i = closedF (ds.map Prod.fst) (sk ds i) (sk ds (i + 1)) := by unfold lineF; rw [if_pos hlt]
    rw [hF, hfr]
    rw [hA] at hno hl hs hle hbr ⊢
    have key : ∀ p, sk ds i ≤ p → p + 1 < sk ds (i + 1) → A.getD p 0 ≠ 10 ∧ (A.getD p 0 = 13 → p + 2 = sk ds (i + 1) ∧ A.getD (p + 1) 0 = 10) := fun p h1 h2 => by
      have k1 := isE_no (hno (p + 1) (by omega) h2) (by omega)
      refine ⟨k1.1, fun h13 => ?_⟩
      obtain ⟨k2, k3⟩ := k1.2 h13
      refine ⟨?_, k3⟩
      have k4 := isE_lf k2 k3
      rcases Nat.lt_or_ge (p + 2) (sk ds (i + 1)) with k5 | k5
      · have := hno (p + 2) (by omega) k5
        rw [this] at k4
        cases k4
      · omega
    unfold closedF
    split
    · rename_i h13
      refine ⟨fun p h1 h2 => ?_, fun p h1 h2 => ?_, fun _ => ?_⟩
      · dsimp only at h1 h2
        have k := key p (by omega) (by omega)
        refine ⟨k.1, fun e => ?_⟩
        have k2 := k.2 e
        have : p + 1 = sk ds (i + 1) - 1 := by omega
        rw [this] at k2
        omega
      · dsimp only at h1 h2
        have : p = sk ds (i + 1) - 1 := by omega
        rw [this]
        exact .inr h13
      · dsimp only
        omega
    · rename_i hn13
      have h10 : A.getD (sk ds (i + 1) - 1) 0 = 10 := by omega
      split
      · rename_i h2c
        refine ⟨fun p h1 h2 => ?_, fun p h1 h2 => ?_, fun _ => ?_⟩
        · dsimp only at h1 h2
          have k := key p (by omega) (by omega)
          refine ⟨k.1, fun e => ?_⟩
          have k2 := k.2 e
          omega
        · dsimp only at h1 h2
          rcases Nat.lt_or_ge p (sk ds (i + 1) - 1) with h3 | h3
          · have : p = sk ds (i + 1) - 2 := by omega
            rw [this]
            exact .inr h2c.2
          · have : p = sk ds (i + 1) - 1 := by omega
            rw [this]
            exact .inl h10
        · dsimp only
          omega
      · rename_i h3c
        refine ⟨fun p h1 h2 => ?_, fun p h1 h2 => ?_, fun _ => ?_⟩
        · dsimp only at h1 h2
          have k := key p (by omega) (by omega)
          refine ⟨k.1, fun e => ?_⟩
          have k2 := k.2 e
          apply h3c
          refine ⟨by omega, ?_⟩
          have : sk ds (i + 1) - 2 = p := by omega
          rw [this]
          exact e
        · dsimp only at h1 h2
          have : p = sk ds (i + 1) - 1 := by omega
          rw [this]
          exact .inl h10
        · dsimp only
          omega
  · simp only [if_neg hlt] at hno
    have hF : lineF ds i = ⟨sk ds i, ds.length, ds.length, 0⟩ := by unfold lineF; rw [if_neg hlt]
    rw [hF]
    have htt : totE ds = i := by omega
    rw [hA] at hno hl ⊢
    refine ⟨fun p h1 h2 => ?_, fun p h1 h2 => ?_, fun h => absurd h hlt⟩
    · dsimp only at h1 h2
      have k1 := isE_no (hno (p + 1) (by omega) (by omega)) (by omega)
      refine ⟨k1.1, fun h13 => ?_⟩
      obtain ⟨k2, k3⟩ := k1.2 h13
      have k4 := isE_lf k2 k3
      have := hno (p + 2) (by omega) (by omega)
      rw [this] at k4
      cases k4
    · dsimp only at h1 h2
      omega
end
end Go.Proofs.YteekabaoocaghaaGreat
namespace Go.Proofs.YteekabaoocaghaaGreat
open Go.RowKit

theorem rowc_of {w : World} {b : Nat} {L : Ln} {i : Int} {A1 A2 : Option Addr} {n1 c1 n2 c2 : Nat} (h : Blk w b 194 (rowV L i A1 n1 c1 A2 n2 c2)) :
    w.cell? ⟨b, 0, none⟩ = some (.int .i64 L.from_) ∧ w.cell? ⟨b, 1, none⟩ = some (.int .i64 L.to_) ∧ w.cell? ⟨b, 2, none⟩ = some (.int .i64 L.next) ∧ w.cell? ⟨b, 3, none⟩ = some (.int .i64 L.brk) ∧ w.cell? ⟨b, 4, none⟩ = some (.int .i64 i) ∧
      w.cell? ⟨b, 5, none⟩ = some (.slice A1 n1 c1) ∧ w.cell? ⟨b, 6, none⟩ = some (.slice A2 n2 c2) := (row_facts h).1

set_option maxRecDepth 100000 in
set_option maxHeartbeats 1000000 in
theorem place_neg (D : Nat → Prop) (L : Ln) (i : Int) (C : List Int) (v : Array Value) (w : World) (h : RowC w D L i C v) (hL : 0 ≤ L.from_ ∧ L.from_ ≤ 1073741824) (hn : (allB C).length ≤ 1073741825) (hB : ∀ x ∈ allB C, 0 ≤ x ∧ x ≤ 1073741824) :
    Calls Tryz.prog 99 #[.agg v, .int .i64 (-1)] w fun e w' => e = .returned (.int .i64 (L.from_ + (allB C).getD 0 0)) ∧ Below w.heap.size w w' := by
  obtain ⟨A1, n1, c1, A2, n2, c2, rfl, h1, h2, h3, h4⟩ := h
  obtain ⟨x0, x1, x2, x3⟩ := L
  dsimp only at hL ⊢
  have hlen := h3.len
  have hpos : 0 < (allB C).length := by simp [allB]
  obtain ⟨b, off, rfl, hD, hcell⟩ := ints_form h3 (by omega)
  have hc := hcell 0 (by omega)
  have hmb : 0 ≤ (allB C).getD 0 0 ∧ (allB C).getD 0 0 ≤ 1073741824 := by
    rw [List.getD_eq_getElem?_getD, List.getElem?_eq_getElem (by omega)]
    exact hB _ (List.getElem_mem _)
  obtain ⟨m, hm⟩ : ∃ m, (allB C).getD 0 0 = m := ⟨_, rfl⟩
  rw [hm] at hc hmb ⊢
  rw [Nat.add_zero] at hc
  have hcl := fun (w' : World) => clusters_any ⟨x0, x1, x2, x3⟩ i A1 (some ⟨b, off, none⟩) n1 c1 n2 c2 w' (by omega) (by omega)
  obtain ⟨N, hN⟩ : ∃ N, n2 - 1 = N := ⟨_, rfl⟩
  rw [hN] at hcl
  have hjn : (0 : Int) < (n2 : Int) := by omega
  have hjn2 : 0 < n2 := by omega
  have hjn3 : ¬ n2 ≤ 0 := by omega
  have hjn4 : ¬ n2 = 0 := by omega
  have hwr : IntKind.i64.wrap (x0 + m) = x0 + m := IntWalk.i64_in _ (by omega)
  have hb0 := Blk.new w 194 (rowV ⟨x0, x1, x2, x3⟩ i A1 n1 c1 (some ⟨b, off, none⟩) n2 c2)
  obtain ⟨⟨g0, g1, g2, g3, g4, g5, g6⟩, _⟩ := row_facts hb0
  have hcw := cell_keep (balloc (o := .cells (rowV ⟨x0, x1, x2, x3⟩ i A1 n1 c1 (some ⟨b, off, none⟩) n2 c2) 194) (Below.refl _ w)) hc
  have hW : Below w.heap.size w (w.alloc (.cells (rowV ⟨x0, x1, x2, x3⟩ i A1 n1 c1 (some ⟨b, off, none⟩) n2 c2) 194)) := balloc (Below.refl _ w)
  unfold rowV at hcl g0 g1 g2 g3 g4 g5 g6 hcw hW
  dsimp only at hcl g0 g1 g2 g3 g4 g5 g6 hcw hW
  have HCL := Lib.hid hcl
  have HW := Lib.hid hW
  have hS := And.intro g0 (And.intro g1 (And.intro g2 (And.intro g3 (And.intro g4 (And.intro g5 (And.intro g6 hcw))))))
  clear hcl hm hN hlen hpos hcell hB hb0 h1 h3 hW
  · have hz2 : ((N : Int) < 0) = False := by simp
    have hz4 : ((-1 : Int) < 0) = True := by simp
    unfold rowV
    go_enter Tryz.func99, Tryz.ntmps99
    go_upto_region 1 with fail
    go_cut [4] (fun s4 wx => s4 = .int .i64 (x0 + m) ∧ Below w.heap.size w wx)
    case first =>
      have hSd := keep8 (Below.drew (Below.refl _ _)) hS
      go_region_held3 (fun w' => w'.cell? ⟨w.heap.size, 0, none⟩ = some (.int .i64 x0) ∧ w'.cell? ⟨w.heap.size, 1, none⟩ = some (.int .i64 x1) ∧ w'.cell? ⟨w.heap.size, 2, none⟩ = some (.int .i64 x2) ∧ w'.cell? ⟨w.heap.size, 3, none⟩ = some (.int .i64 x3) ∧ w'.cell? ⟨w.heap.size, 4, none⟩ = some (.int .i64 i) ∧ w'.cell? ⟨w.heap.size, 5, none⟩ = some (.slice A1 n1 c1) ∧ w'.cell? ⟨w.heap.size, 6, none⟩ = some (.slice (some ⟨b, off, none⟩) n2 c2) ∧ w'.cell? ⟨b, off, none⟩ = some (.int .i64 m)) (first | (with_reducible assumption) | (with_reducible exact hSd)) (first | (go_at_call 100; refine (HCL.out _).mono ?_; rintro e w1 ⟨rfl, hb1⟩; have s1 := keep8 (bdrew hb1) hS))
      all_goals
        go_wp2_with fail
        go_meet
        exact ⟨rfl, bseq HW.out (bdrew hb1)⟩
    case rest =>
      obtain ⟨rfl, hb⟩ := hcut
      go_wp2_with fail
      go_ret
      exact ⟨rfl, hb⟩
/-- the place of a cursor in its line -/
def ClampOk (ds : List (Int × Int)) (at_ : Int) (j : Nat) : Prop :=
  if (lineF ds (rowIx ds at_ false)).to_ ≤ min (max at_ 0) (ds.length : Int) then j = nC (cont ds (rowIx ds at_ false)) - 1 else InC (cont ds (rowIx ds at_ false)) (min (max at_ 0) (ds.length : Int) - (lineF ds (rowIx ds at_ false)).from_).toNat j
theorem rowIx_from {ds : List (Int × Int)} (hp : PosD ds) (at_ : Int) : (lineF ds (rowIx ds at_ false)).from_ ≤ min (max at_ 0) (ds.length : Int) := by
  have hix := rowIx_le ds at_ false
  rw [line_from]
  have h1 : rowIx ds at_ false ≤ ofF ds at_ := by unfold rowIx; simp; omega
  have := line_sk_le hp (m := min at_.toNat ds.length) (k := rowIx ds at_ false) (by omega) hix h1
  omega
set_option maxRecDepth 100000 in
set_option maxHeartbeats 4000000 in
theorem clamp_gen (D : Nat → Prop) (g : Nat) (enc : Int) (ds : List (Int × Int)) (at_ : Int) (w : World) (h : TextAt w D g enc ds) :
    Calls Tryz.prog 70 #[.pointer (some ⟨g, 0, none⟩), .int .i64 at_, .bool false] w fun e w' => ∃ j : Nat, e = .returned (.int .i64 ((lineF ds (rowIx ds at_ false)).from_ + (mkb (cont ds (rowIx ds at_ false)) j : Int))) ∧ ClampOk ds at_ j ∧ j ≤ nC (cont ds (rowIx ds at_ false)) ∧ Below w.heap.size w w' := by
  have hp := h.pos
  have hfr := rowIx_from hp at_
  have hix := rowIx_le ds at_ false
  have hbd := lineF_bd hp hix
  have hcl := cont_len hp hix
  have hlen := h.len
  have hra := rowAt_any D g enc ds at_ false w h
  have hle := fun (wy : World) (hy : Below w.heap.size w wy) => len_any D g enc ds wy (h.below hy)
  unfold ClampOk
  obtain ⟨I, hI⟩ : ∃ I, rowIx ds at_ false = I := ⟨_, rfl⟩
  rw [hI] at hbd hcl hra hfr ⊢
  obtain ⟨L, hL⟩ : ∃ L, lineF ds I = L := ⟨_, rfl⟩
  obtain ⟨C, hC⟩ : ∃ C, cont ds I = C := ⟨_, rfl⟩
  rw [hL] at hbd hcl hra hfr ⊢
  rw [hC] at hcl hra ⊢
  obtain ⟨n, hn⟩ : ∃ n, ds.length = n := ⟨_, rfl⟩
  rw [hn] at hle hlen hbd hfr ⊢
  obtain ⟨p, hpp⟩ : ∃ p, min (max at_ 0) (n : Int) = p := ⟨_, rfl⟩
  rw [hpp] at hfr ⊢
  have hl0 : 0 ≤ L.from_ ∧ L.from_ ≤ 1073741824 := by omega
  have hc0 : C.length ≤ 1073741824 := by omega
  have hcases : ((at_ < 0) = True ∧ ((n : Int) < 0) = False ∧ p = 0) ∨ ((at_ < 0) = False ∧ ((n : Int) < at_) = False ∧ p = at_) ∨ ((at_ < 0) = False ∧ ((n : Int) < at_) = True ∧ p = (n : Int)) := by
    simp only [eq_iff_iff, iff_true, iff_false]
    omega
  have hcr : p < L.to_ → ∃ r : Nat, L.from_ + (r : Int) = p ∧ (p - L.from_).toNat = r ∧ ∃ j, InC C r j := fun hlt => by
    obtain ⟨j, hj⟩ := inC_ex (C := C) (r := (p - L.from_).toNat) (by omega)
    exact ⟨(p - L.from_).toNat, by omega, rfl, j, hj⟩
  have HRA := Lib.hid hra
  have HLE := Lib.hid hle
  have HCR := Lib.hid hcr
  clear hra hle hI hL hC hix hp hcl hbd h hn hcr hpp
  by_cases hpt : p < L.to_
  · obtain ⟨r, hr, hr2, j, hj⟩ := HCR.out hpt
    have q5 : (L.to_ ≤ p) = False := by simp; omega
    have HR := Lib.hid hr
    have HJ := Lib.hid hj
    obtain ⟨P, hP⟩ : ∃ P, L.from_ + (mkb C j : Int) = P := ⟨_, rfl⟩
    have hjle := hj.le
    suffices hs : Calls Tryz.prog 70 #[.pointer (some ⟨g, 0, none⟩), .int .i64 at_, .bool false] w fun e w' => e = .returned (.int .i64 P) ∧ Below w.heap.size w w' by
      refine hs.mono ?_
      rintro e w' ⟨rfl, hb⟩
      exact ⟨j, by rw [hP], by rw [if_neg (by omega), hr2]; exact hj, hjle, hb⟩
    have HP := Lib.hid hP
    clear hP hr hr2 hj hfr HCR hpt hjle
    rcases hcases with ⟨q1, q2, rfl⟩ | ⟨q1, q2, rfl⟩ | ⟨q1, q2, rfl⟩
    all_goals
      go_enter Tryz.func70, Tryz.ntmps70
      go_wp2_with fail
      refine (HRA.out).mono ?_
      rintro e w1 ⟨v, rfl, hrow, hb1⟩
      have hco := fun (wy : World) (hy : Below w1.heap.size w1 wy) => column_mk _ L I C v r wy (hrow.below hy) hl0 hc0
      have hpl := fun (wy : World) (hy : Below w1.heap.size w1 wy) => place_mk _ L I C v j wy (hrow.below hy) hl0 hc0 HJ.out.le
      rw [HR.out] at hco
      rw [HP.out] at hpl
      obtain ⟨A1, n1, c1, A2, n2, c2, rfl⟩ := first_v hrow
      have HCO := Lib.hid hco
      have HPL := Lib.hid hpl
      clear hco hrow hpl
      have hf := fun (wy : World) (hy : Below (w1.alloc (.cells (rowV L I A1 n1 c1 A2 n2 c2) 194)).heap.size (w1.alloc (.cells (rowV L I A1 n1 c1 A2 n2 c2) 194)) wy) => rowc_of ((Blk.new w1 194 (rowV L I A1 n1 c1 A2 n2 c2)).below hy)
      have hw1 : Below w1.heap.size w1 (w1.alloc (.cells (rowV L I A1 n1 c1 A2 n2 c2) 194)) := balloc (Below.refl _ _)
      obtain ⟨x0, x1, x2, x3⟩ := L
      unfold rowV at HCO HPL hf hw1 ⊢
      dsimp only at HCO HPL hf hl0 hw1 q5 ⊢
      have HF := Lib.hid hf
      clear hf
      go_wp2_with fail
      refine (HLE.out _ (bseq hb1 hw1)).mono ?_
      rintro e w2 ⟨rfl, hb2⟩
      obtain ⟨g0, g1, g2, g3, g4, g5, g6⟩ := HF.out _ hb2
      go_upto_region 7 with fail
      have hb3 := bseq hw1 hb2
      refine wp_region_steady (fun w' => Below w2.heap.size w2 w') (by kernel_rfl) (by kernel_rfl) (Below.drew (Below.refl _ _)) ?_
      repeat (first
        | (refine wpSt_read (v := ?_) (by rfl) (fun w6 hSw => ?_) ?_; rotate_left; (· (obtain ⟨g0, g1, g2, g3, g4, g5, g6⟩ := HF.out _ (bseq hb2 hSw); go_simp; first | done | with_reducible rfl)); (try simp only [Act.put, List.setIfInBounds_toArray, List.set_cons_zero, List.set_cons_succ]))
        | (refine wpSt_not (by rfl) ?_; (try simp only [Act.put, List.setIfInBounds_toArray, List.set_cons_zero, List.set_cons_succ]))
        | (refine wpSt_call (f := ?_) (args := ?_) (v := .int .i64 (j : Int)) (by rfl) (fun w6 hSw => ?_) (fun w6 hSw => ?_) ?_; rotate_left 2; (· (obtain ⟨g0, g1, g2, g3, g4, g5, g6⟩ := HF.out _ (bseq hb2 hSw); go_simp; first | done | (constructor <;> with_reducible rfl) | with_reducible rfl)); (· ((with_reducible refine (HCO.out _ (bseq hb3 hSw)).mono ?_); rintro e w5 ⟨⟨j', rfl, hj'⟩, hb5⟩; have hjj := hj'.uniq HJ.out; subst hjj; exact ⟨rfl, bseq hSw hb5⟩)); (try simp only [Act.put, List.setIfInBounds_toArray, List.set_cons_zero, List.set_cons_succ]))
        | (refine wpSt_call (f := ?_) (args := ?_) (v := .int .i64 P) (by rfl) (fun w6 hSw => ?_) (fun w6 hSw => ?_) ?_; rotate_left 2; (· (obtain ⟨g0, g1, g2, g3, g4, g5, g6⟩ := HF.out _ (bseq hb2 hSw); go_simp; first | done | (constructor <;> with_reducible rfl) | with_reducible rfl)); (· ((with_reducible refine (HPL.out _ (bseq hb3 hSw)).mono ?_); rintro e w5 ⟨rfl, hb5⟩; exact ⟨rfl, bseq hSw hb5⟩)); (try simp only [Act.put, List.setIfInBounds_toArray, List.set_cons_zero, List.set_cons_succ])))
      refine wpSt_nil ?_
      intro w4 hb4
      go_wp2_with fail
      go_ret
      exact ⟨rfl, bseq (bseq hb1 hb3) hb4⟩
  · have q5 : (L.to_ ≤ p) = True := by simp; omega
    obtain ⟨P, hP⟩ : ∃ P, L.from_ + ((mkb C (nC C - 1) : Nat) : Int) = P := ⟨_, rfl⟩
    suffices hs : Calls Tryz.prog 70 #[.pointer (some ⟨g, 0, none⟩), .int .i64 at_, .bool false] w fun e w' => e = .returned (.int .i64 P) ∧ Below w.heap.size w w' by
      refine hs.mono ?_
      rintro e w' ⟨rfl, hb⟩
      exact ⟨nC C - 1, by rw [← hP], by rw [if_pos (by omega)], by omega, hb⟩
    have hnc := nC_le C
    obtain ⟨K, hK⟩ : ∃ K : Int, (nC C : Int) - 1 = K := ⟨_, rfl⟩
    have hwr : IntKind.i64.wrap ((nC C : Int) - 1) = K := by rw [IntWalk.i64_in _ (by omega), hK]
    have hpl0 : ∀ (v : Array Value) (wy : World) (D' : Nat → Prop), RowC wy D' L I C v → Calls Tryz.prog 99 #[.agg v, .int .i64 K] wy fun e w' => e = .returned (.int .i64 P) ∧ Below wy.heap.size wy w' := fun v wy D' hrow => by
      rcases Nat.eq_zero_or_pos (nC C) with h0 | h0
      · have hk1 : K = -1 := by omega
        have := place_neg D' L I C v wy hrow hl0 (by rw [allB_len]; omega) (allB_bd hc0)
        rw [allB_at (k := 0) (by omega), ← show nC C - 1 = 0 by omega, hP] at this
        rw [hk1]
        exact this
      · have := place_mk D' L I C v (nC C - 1) wy hrow hl0 hc0 (by omega)
        rw [hP, show ((nC C - 1 : Nat) : Int) = K by omega] at this
        exact this
    obtain ⟨N, hN⟩ : ∃ N, nC C = N := ⟨_, rfl⟩
    have hcn := fun (v : Array Value) (wy : World) (D' : Nat → Prop) (hrow : RowC wy D' L I C v) => clusters_mk D' L I C v wy hrow hc0
    rw [hN] at hcn hwr
    have HPL0 := Lib.hid hpl0
    have HCN := Lib.hid hcn
    have HWR := Lib.hid hwr
    clear hP hfr HCR hpt hpl0 hcn hnc hK hN hwr
    rcases hcases with ⟨q1, q2, rfl⟩ | ⟨q1, q2, rfl⟩ | ⟨q1, q2, rfl⟩
    all_goals
      go_enter Tryz.func70, Tryz.ntmps70
      go_wp2_with fail
      refine (HRA.out).mono ?_
      rintro e w1 ⟨v, rfl, hrow, hb1⟩
      have hco := fun (wy : World) (hy : Below w1.heap.size w1 wy) => HCN.out v wy _ (hrow.below hy)
      have hpl := fun (wy : World) (hy : Below w1.heap.size w1 wy) => HPL0.out v wy _ (hrow.below hy)
      obtain ⟨A1, n1, c1, A2, n2, c2, rfl⟩ := first_v hrow
      have HCO := Lib.hid hco
      have HPL := Lib.hid hpl
      clear hco hrow hpl
      have hf := fun (wy : World) (hy : Below (w1.alloc (.cells (rowV L I A1 n1 c1 A2 n2 c2) 194)).heap.size (w1.alloc (.cells (rowV L I A1 n1 c1 A2 n2 c2) 194)) wy) => rowc_of ((Blk.new w1 194 (rowV L I A1 n1 c1 A2 n2 c2)).below hy)
      have hw1 : Below w1.heap.size w1 (w1.alloc (.cells (rowV L I A1 n1 c1 A2 n2 c2) 194)) := balloc (Below.refl _ _)
      obtain ⟨x0, x1, x2, x3⟩ := L
      unfold rowV at HCO HPL hf hw1 ⊢
      dsimp only at HCO HPL hf hl0 hw1 q5 ⊢
      have HF := Lib.hid hf
      clear hf
      go_wp2_with fail
      refine (HLE.out _ (bseq hb1 hw1)).mono ?_
      rintro e w2 ⟨rfl, hb2⟩
      obtain ⟨g0, g1, g2, g3, g4, g5, g6⟩ := HF.out _ hb2
      go_upto_region 6 with fail
      have hb3 := bseq hw1 hb2
      have hwr := HWR.out
      refine wp_region_steady (fun w' => Below w2.heap.size w2 w') (by kernel_rfl) (by kernel_rfl) (Below.drew (Below.refl _ _)) ?_
      repeat (first
        | (refine wpSt_read (v := ?_) (by rfl) (fun w6 hSw => ?_) ?_; rotate_left; (· (obtain ⟨g0, g1, g2, g3, g4, g5, g6⟩ := HF.out _ (bseq hb2 hSw); go_simp; first | done | with_reducible rfl)); (try simp only [Act.put, List.setIfInBounds_toArray, List.set_cons_zero, List.set_cons_succ]))
        | (refine wpSt_not (by rfl) ?_; (try simp only [Act.put, List.setIfInBounds_toArray, List.set_cons_zero, List.set_cons_succ]))
        | (refine wpSt_call (f := ?_) (args := ?_) (v := .int .i64 (N : Int)) (by rfl) (fun w6 hSw => ?_) (fun w6 hSw => ?_) ?_; rotate_left 2; (· (obtain ⟨g0, g1, g2, g3, g4, g5, g6⟩ := HF.out _ (bseq hb2 hSw); go_simp; first | done | (constructor <;> with_reducible rfl) | with_reducible rfl)); (· ((with_reducible refine (HCO.out _ (bseq hb3 hSw)).mono ?_); rintro e w5 ⟨rfl, hb5⟩; exact ⟨rfl, bseq hSw hb5⟩)); (try simp only [Act.put, List.setIfInBounds_toArray, List.set_cons_zero, List.set_cons_succ]))
        | (refine wpSt_call (f := ?_) (args := ?_) (v := .int .i64 P) (by rfl) (fun w6 hSw => ?_) (fun w6 hSw => ?_) ?_; rotate_left 2; (· (obtain ⟨g0, g1, g2, g3, g4, g5, g6⟩ := HF.out _ (bseq hb2 hSw); go_simp; first | done | (constructor <;> with_reducible rfl) | with_reducible rfl)); (· ((with_reducible refine (HPL.out _ (bseq hb3 hSw)).mono ?_); rintro e w5 ⟨rfl, hb5⟩; exact ⟨rfl, bseq hSw hb5⟩)); (try simp only [Act.put, List.setIfInBounds_toArray, List.set_cons_zero, List.set_cons_succ])))
      refine wpSt_nil ?_
      intro w4 hb4
      go_wp2_with fail
      go_ret
      exact ⟨rfl, bseq (bseq hb1 hb3) hb4⟩
end Go.Proofs.YteekabaoocaghaaGreat
