/-
  The walk of the closure in Text.fresh that shuts a piece.
-/
import Derived.Test.YtflhiohjikgedaaGreatDoorLFresh
import Derived.Test.YtflhiohjikgedaaGreatDoorLLin
set_option linter.unusedSimpArgs false
set_option linter.unusedVariables false
set_option maxRecDepth 100000
set_option maxHeartbeats 32000000
namespace Go.Proofs.YtflhiohjikgedaaGreatDoor
open Go.RowKit
theorem newP_bts {w0 w : World} {B g bt bf bp bn n0 : Nat} {enc lim : Int} {add0 add v : Value} {a : Option Addr} {xs : List Value} {dn pd : List Int} {m : Nat} {ps : List Pc} {ba cap : Nat}
  (h : FreshS w0 B g bt bf bp bn enc lim n0 add0 a xs dn pd m ps v add w) (hr0 : w0.ownsRow B 5 1 add0 n0 xs) (hadd : add = .slice (some ⟨ba, 0, none⟩) (n0 + (putL enc dn).length + (putL enc pd).length) cap) :
  Bts w Any (some ⟨ba, n0 + (putL enc dn).length, none⟩) (putL enc pd).length (putL enc pd) := by
 refine ⟨by simp, fun _ => ⟨_, rfl, trivial, fun j u hj => ?_⟩⟩
 rw [add_cell]
 have := h.row.cells (g := ba) (by rw [hadd]; rfl) (n0 + (putL enc dn).length + j) u (by
  have hx := hr0.1
  rw [List.getElem?_append_right (by omega), List.map_append, List.getElem?_append_right (by rw [List.length_map]; omega), List.length_map]
  rw [<- hj]
  congr 1
  omega)
 rw [add_cell, Nat.zero_add] at this
 exact this
def ShutC (bt bf bp g : Nat) (enc : Int) (F : Nat) (v av : Value) (w : World) : Prop :=
 w.cell? ⟨bt, 0, none⟩ = some (.pointer (some ⟨g, 0, none⟩)) /\ w.cell? ⟨g, 0, none⟩ = some (.int .i64 enc) /\ w.cell? ⟨g, 3, none⟩ = some av /\ w.cell? ⟨bf, 0, none⟩ = some (.int .i64 F) /\ w.cell? ⟨bp, 0, none⟩ = some v
def ShutF (bt bf bp bn g : Nat) (enc : Int) (F : Nat) (v av : Value) (w : World) : Prop := ShutC bt bf bp g enc F v av w /\ w.frozen? ⟨bp, 0, none⟩ = false /\ w.frozen? ⟨bf, 0, none⟩ = false /\ w.frozen? ⟨bn, 0, none⟩ = false
theorem FreshS.fr_facts {w0 w w1 : World} {B g bt bf bp bn n0 : Nat} {enc lim : Int} {add0 add v : Value} {a : Option Addr} {xs : List Value} {dn pd : List Int} {m : Nat} {ps : List Pc}
  (h : FreshS w0 B g bt bf bp bn enc lim n0 add0 a xs dn pd m ps v add w) (hfr : Fr (OwnB v) w w1) : ShutF bt bf bp bn g enc (n0 + (putL enc dn).length) v add w1 := by
 have ov : ∀ {T : TypeId} {cs : Array Value} {b : Nat}, Blk w b T cs -> 94 ≠ T -> ¬ OwnB v b := fun hb hT => own_blk_ne h.prow hb hT
 have t1 := h.tx.fr hfr (ov h.tx (by decide))
 have t2 := h.tb.fr hfr (ov h.tb (by decide))
 have t3 := h.fb.fr hfr (ov h.fb (by decide))
 have t4 := h.pb.fr hfr (ov h.pb (by decide))
 have t5 := h.nb.fr hfr (ov h.nb (by decide))
 exact ⟨⟨t2.cell 0, t1.cell 0, t1.cell 3, t3.cell 0, t4.cell 0⟩, t4.frozen 0, t3.frozen 0, t5.frozen 0⟩
theorem FreshS.fr_blks {w0 w w1 : World} {B g bt bf bp bn n0 : Nat} {enc lim : Int} {add0 add v : Value} {a : Option Addr} {xs : List Value} {dn pd : List Int} {m : Nat} {ps : List Pc}
  (h : FreshS w0 B g bt bf bp bn enc lim n0 add0 a xs dn pd m ps v add w) (hfr : Fr (OwnB v) w w1) (u : Value) (x : Value) :
  (w1.setCell ⟨bp, 0, none⟩ u).cell? ⟨bf, 0, none⟩ = some (.int .i64 ((n0 + (putL enc dn).length : Nat) : Int)) /\ ((w1.setCell ⟨bp, 0, none⟩ u).setCell ⟨bf, 0, none⟩ x).cell? ⟨bn, 0, none⟩ = some (.int .i64 (m : Int)) := by
 have ov : ∀ {T : TypeId} {cs : Array Value} {b : Nat}, Blk w b T cs -> 94 ≠ T -> ¬ OwnB v b := fun hb hT => own_blk_ne h.prow hb hT
 have t3 := h.fb.fr hfr (ov h.fb (by decide))
 have t4 := h.pb.fr hfr (ov h.pb (by decide))
 have t5 := h.nb.fr hfr (ov h.nb (by decide))
 have n7 : bf ≠ bp := Blk.ne_ t3 t4 (by decide)
 have n8 : bn ≠ bp := Blk.ne_ t5 t4 (by decide)
 exact ⟨(t3.far (p := ⟨bp, 0, none⟩) n7 u).cell 0, ((t5.far (p := ⟨bp, 0, none⟩) n8 u).far (p := ⟨bf, 0, none⟩) (Ne.symm h.ge.2.2.2.2) x).cell 0⟩
theorem shut_any (w0 : World) (B g bt bf bp bn : Nat) (enc lim : Int) (n0 : Nat) (add0 : Value) (a : Option Addr) (xs : List Value) (dn pd : List Int) (ps : List Pc) (v add : Value) (w : World) (he : enc = 1 \/ enc = 2 \/ enc = 3 \/ enc = 4)
  (h : FreshS w0 B g bt bf bp bn enc lim n0 add0 a xs dn pd pd.length ps v add w) (hr0 : w0.ownsRow B 5 1 add0 n0 xs) (hd : dec enc (putL enc pd) = withSz enc pd) (hf : Fit enc pd) (hn : (putL enc pd).length <= 1048576) (hN : n0 + (putL enc dn).length + (putL enc pd).length <= 1073741824) (hpl : ps.length <= 1073741824) :
  Calls Tryz.prog 88 #[.pointer (some ⟨bt, 0, none⟩), .pointer (some ⟨bf, 0, none⟩), .pointer (some ⟨bp, 0, none⟩), .pointer (some ⟨bn, 0, none⟩)] w fun e w' => ShutPost w0 B g bt bf bp bn enc lim n0 add0 a xs dn pd add w e w' := by
 obtain ⟨A', cap, hadd, hcap⟩ := own_slice h.row
 have c1 := h.tb.cell 0
 have c2 := h.tx.cell 3
 have c3 := h.fb.cell 0
 have c4 := h.pb.cell 0
 have c5 := h.nb.cell 0
 simp at c1 c2 c3 c4 c5
 by_cases hz : (putL enc pd).length = 0
 ·have hpd : pd = [] := by
   cases pd with
   | nil => rfl
   | cons x xs =>
    have h1 := putA_len enc x (hf x List.mem_cons_self)
    have h2 := hf x List.mem_cons_self
    rw [putL_cons, List.length_append] at hz
    omega
  subst hpd
  rw [hadd] at c2
  obtain ⟨F, hF⟩ : ∃ F, n0 + (putL enc dn).length = F := ⟨_, rfl⟩
  have q : ((F : Int) < ((n0 + (putL enc dn).length + (putL enc ([] : List Int)).length : Nat) : Int)) = False := by simp [putL_nil]; omega
  obtain ⟨M, hM⟩ : ∃ M, n0 + (putL enc dn).length + (putL enc ([] : List Int)).length = M := ⟨_, rfl⟩
  rw [hM] at c2 q
  rw [<- Int.natCast_add, hF] at c3
  have H := Lib.hid h
  clear h hF hM hadd hr0 c4 c5 hd hf
  go_enter Tryz.func88, Tryz.ntmps88
  go_wp2_with fail
  refine bodyPost_ret (results_none rfl _ _ _) rfl ⟨rfl, ps, v, ?_⟩
  rw [List.append_nil]
  exact H.out
 ·obtain ⟨ba, hA⟩ : ∃ ba, A' = some ⟨ba, 0, none⟩ := by
   rcases h.row.2 with ⟨e0, e1⟩ | ⟨q, c, cur, e0, _⟩
   ·omega
   ·rw [hadd] at e0
    injection e0 with e0
    exact ⟨q, e0⟩
  subst hA
  obtain ⟨F, hF⟩ : ∃ F, n0 + (putL enc dn).length = F := ⟨_, rfl⟩
  obtain ⟨m, hm⟩ : ∃ m, (putL enc pd).length = m := ⟨_, rfl⟩
  have hbts := newP_bts h hr0 hadd
  have hcl := fun (w1 : World) hfr (u x : Value) => h.fr_blks (w1 := w1) hfr u x
  rw [hF] at hcl
  have HCL := Lib.hid hcl
  clear hcl
  have hkp := fun (w1 : World) hfr => h.fr_facts (w1 := w1) hfr
  have hfin := fun (w1 : World) (v' : Value) hfr hown => h.shut (w1 := w1) (v' := v') hr0 hadd hd hf (by omega) hn hfr hown
  obtain ⟨S, hS⟩ : ∃ S, sumsOf (dec enc (putL enc pd)) = S := ⟨_, rfl⟩
  have hcells : (newP enc ba (n0 + (putL enc dn).length) pd).cells = partC (some ⟨ba, F, none⟩) m m (-1) S := by
   unfold newP Pc.cells
   dsimp only
   rw [hF, hm, hS]
  rw [hF, hm] at hadd hN hcap hbts
  rw [hF] at hkp
  rw [hcells, hF, hm] at hfin
  rw [hadd] at c2
  rw [<- Int.natCast_add, hF] at c3
  have q : ((F : Int) < ((F + m : Nat) : Int)) = True := by simp; omega
  obtain ⟨M, hM⟩ : ∃ M, F + m = M := ⟨_, rfl⟩
  rw [hM] at c2 q hN hcap hadd hfin
  have q2 : F <= M := by omega
  have q3 : M - F = m := by omega
  have q4 : (M = F) = False := by simp; omega
  rw [hadd] at hkp
  have HK := Lib.hid hkp
  have hbyt := putL_byt enc pd hf
  have hrow := h.prow
  obtain ⟨xs0, hxs0⟩ : ∃ x, (ps.flatMap fun p => p.cells.toList) = x := ⟨_, rfl⟩
  rw [hxs0] at hrow hfin
  obtain ⟨l, hl⟩ : ∃ l, putL enc pd = l := ⟨_, rfl⟩
  rw [hl] at hbts hbyt hS
  have hb0 : w0.heap.size <= w.heap.size := h.step.fr.size
  have f3 := h.fb.frozen 0
  have f4 := h.pb.frozen 0
  have f5 := h.nb.frozen 0
  have c0 := h.tx.cell 0
  simp at c0
  have HF := Lib.hid hfin
  have HD := Lib.hid hd
  have HBT := Lib.hid hbts
  have HBY := Lib.hid hbyt
  have HR := Lib.hid hrow
  have HS := Lib.hid hS
  have HE := Lib.hid he
  clear h hkp hF hm hM hadd hr0 hd hf hfin hcells hn hxs0 hl hbts hbyt hrow hS he hz
  obtain ⟨ip, zp, hip, hp0, hp1, hp2, hp3⟩ := part_row
  go_enter Tryz.func88, Tryz.ntmps88
  go_wp2_with fail
  refine wp_region_lin (ShutC bt bf bp g enc F v (.slice (some ⟨ba, 0, none⟩) M cap)) (fun w' => Below w.heap.size w w') (fun k => k == 13 || k == 14 || k == 15 || k == 16) (fun k => k == 16) (fun _ => false) (by kernel_rfl) (by kernel_rfl) ((Below.refl _ _).drew) (fun w' h => (HK.out _ (Fr.of_below h)).1) ?_
  repeat ((first
   | (refine wpL_read (v := ?_) (by rfl) (by rfl) (fun w6 hSw => ?_) ?_; rotate_left; (· (obtain ⟨y0, y1, y2, y3, y4⟩ := hSw; go_simp; try with_reducible rfl)))
   | (refine wpL_free (v := ?_) (by rfl) (fun w6 => ?_) ?_; rotate_left; (· (go_simp; try with_reducible rfl)))
   | refine wpL_not (by rfl) ?_); (try simp only [Act.put, pA, pB, pC]))
  refine wpL_call (f := ?_) (args := ?_) (fun v1 w1 => v1 = .agg #[.slice (some ⟨ba, F, none⟩) m m, .int .i64 (-1), .int .i64 S.atoms, .int .i64 S.bytes, .int .i64 S.breaks, .bool S.lf, .bool S.cr] /\ Below w.heap.size w w1) (by rfl) (by rfl) (fun w6 hSw => ?_) (fun w6 hSw => ?_) (.inr (fun v6 w6 hT6 => ?_)) (fun v6 hv6 => ?_)
  rotate_left 2
  ·(skip; go_simp; first | done | (constructor <;> with_reducible rfl) | with_reducible rfl)
  ·(refine (newPart_any enc Any (some ⟨ba, F, none⟩) m m (-1) l w6 HE.out (Reads.below HBT.out hSw) HBY.out (by omega) (Nat.le_refl _)).mono ?_; rintro e w1 ⟨rfl, hb1⟩; exact ⟨_, rfl, by rw [HS.out]; rfl, bseq hSw hb1⟩)
  ·(exact (HK.out _ (Fr.of_below hT6.2)).1)
  obtain ⟨wq, rfl, -⟩ := hv6
  (try simp only [Act.put, pA, pB, pC])
  refine wpL_heavy (fun u w' => ∃ wq, Below w.heap.size w wq /\ u = .slice (some ⟨wq.heap.size, 0, none⟩) 1 1 /\ w' = wq.alloc (.cells #[.slice (some ⟨ba, F, none⟩) m m, .int .i64 (-1), .int .i64 S.atoms, .int .i64 S.bytes, .int .i64 S.breaks, .bool S.lf, .bool S.cr] 94)) (by rfl) (by rfl) (fun w6 hSw => ?_) (.inr (fun v6 w6 hT6 => ?_)) (fun v6 hv6 => ?_)
  ·(go_simp; exact ⟨w6, hSw.2, rfl, rfl⟩)
  ·(obtain ⟨wq, hq, -, rfl⟩ := hT6; exact (HK.out _ (Fr.of_below (balloc hq))).1)
  skip
  (try simp only [Act.put, pA, pB, pC])
  refine wpL_heavy (fun u w' => Fr (OwnB v) w w' /\ w'.ownsRow w0.heap.size 94 7 u (ps.length + 1) (xs0 ++ [.slice (some ⟨ba, F, none⟩) m m, .int .i64 (-1), .int .i64 S.atoms, .int .i64 S.bytes, .int .i64 S.breaks, .bool S.lf, .bool S.cr])) (by rfl) (by rfl) (fun w6 hSw => ?_) (.inr (fun v6 w6 hT6 => ?_)) (fun v6 hv6 => ?_)
  ·(obtain ⟨wq, hq, rfl, rfl⟩ := hSw; exact hrun_append_own 89 rfl w0.heap.size 94 ip zp 7 64 Tryz.underlying89 hip hp0 hp1 hp2 hp3 (by decide) v ps.length _ rfl ((ownsRow_below HR.out hq).alloc _) ⟨wq.heap.size, 0, none⟩ 1 1 [.slice (some ⟨ba, F, none⟩) m m, .int .i64 (-1), .int .i64 S.atoms, .int .i64 S.bytes, .int .i64 S.breaks, .bool S.lf, .bool S.cr] rfl rfl (cells_new _ _ _) (part_one _ _ _ _ _ _ _ _ _) (by unfold maxLen; omega) (by omega) (by have := hq.size; simp; omega) (fun v' w' ho' hg' _ hat' => ⟨(Fr.of_below (balloc hq)).grown hg' (fun k hk _ => hk), ho'⟩))
  ·(exact (HK.out _ hT6.1).1)
  obtain ⟨wz, -, hz7⟩ := hv6; obtain ⟨A7, c7, rfl, -⟩ := own_slice hz7
  (try simp only [Act.put, pA, pB, pC])
  refine wpL_heavy (fun _ w' => ∃ wq, (Fr (OwnB v) w wq /\ wq.ownsRow w0.heap.size 94 7 (.slice A7 (ps.length + 1) c7) (ps.length + 1) (xs0 ++ [.slice (some ⟨ba, F, none⟩) m m, .int .i64 (-1), .int .i64 S.atoms, .int .i64 S.bytes, .int .i64 S.breaks, .bool S.lf, .bool S.cr])) /\ w' = wq.setCell ⟨bp, 0, none⟩ (.slice A7 (ps.length + 1) c7)) (by rfl) (by rfl) (fun w6 hSw => ?_) (.inl (by rfl)) (fun v6 hv6 => ?_)
  ·(obtain ⟨⟨y0, y1, y2, y3, y4⟩, y5, y6, y7⟩ := HK.out _ hSw.1; go_simp; exact ⟨w6, hSw, rfl⟩)
  skip
  (try simp only [Act.put, pA, pB, pC])
  refine wpL_nil ?_
  rintro w2 ⟨wq, ⟨hfr, hown⟩, rfl⟩
  have hB3 := (HK.out _ hfr).2
  have y6 : (wq.setCell ⟨bp, 0, none⟩ (.slice A7 (ps.length + 1) c7)).frozen? ⟨bf, 0, none⟩ = false := (World.frozen?_setCell _ _ _ _).trans hB3.2.1
  have y7 : ((wq.setCell ⟨bp, 0, none⟩ (.slice A7 (ps.length + 1) c7)).setCell ⟨bf, 0, none⟩ (.int .i64 M)).frozen? ⟨bn, 0, none⟩ = false := (World.frozen?_setCell _ _ _ _).trans ((World.frozen?_setCell _ _ _ _).trans hB3.2.2)
  obtain ⟨z6, z7⟩ := HCL.out _ hfr (.slice A7 (ps.length + 1) c7) (.int .i64 M)
  have HP := Lib.hid (HF.out _ _ hfr hown)
  clear hB3 hfr hown
  go_wp2_with fail
  refine bodyPost_ret (results_none rfl _ _ _) rfl ⟨rfl, _, _, HP.out⟩
end Go.Proofs.YtflhiohjikgedaaGreatDoor
