/-
  Package motion: here, by Rows; desk.sign.
-/
import Derived.Test.YtgiihhikdoikgaaGreatLType
set_option linter.unusedSimpArgs false
set_option linter.unusedVariables false
set_option maxRecDepth 100000
set_option maxHeartbeats 32000000
namespace Go.Proofs.YtgiihhikdoikgaaGreat
open Go.RowKit
theorem mv_facts {w : World} {m g : Nat} {s c k arg goal : Int} {cn : Bool} {r0 r1 r2 r3 r4 r5 r6 : Value} (h : Blk w m 245 (mvV g s c k cn arg goal r0 r1 r2 r3 r4 r5 r6)) :
  w.cell? ⟨m, 3, none⟩ = some (.int .i64 k) /\ w.cell? ⟨m, 13, none⟩ = some r4 := ⟨h.cell 3, h.cell 13⟩
theorem mhere_any (D : Nat -> Prop) (m g : Nat) (enc : Int) (ds : List (Int × Int)) (s c arg goal : Int) (cn : Bool) (r0 r1 r2 r3 r5 r6 : Value) (i : Nat) (w : World) (hm : Blk w m 245 (mvV g s c 1 cn arg goal r0 r1 r2 r3 (.int .i64 (i : Int)) r5 r6)) (h : TextAt w D g enc ds) (hi : i < countF ds) :
  Calls Tryz.prog 161 #[.pointer (some ⟨m, 0, none⟩)] w (SignPost ds i w) := by
 have hlen := h.len
 have hct : countF ds <= totE ds + 1 := by unfold countF; split <;> omega
 have hte : totE ds <= 1073741824 := Nat.le_trans (cntE_le _ _) hlen
 have hat := fun (wy : World) (hy : Below w.heap.size w wy) => toSign_any D m g enc ds s 1 i wy ⟨_, _, _, _, _, _, _, _, _, _, _, hm.below hy⟩ (h.below hy) hi
 have hmc := fun (wy : World) (hy : Below w.heap.size w wy) => mv_facts (hm.below hy)
 have HAT := Lib.hid hat
 have HMC := Lib.hid hmc
 have w1' : IntKind.i64.wrap ((i : Int) + 1) = (i : Int) + 1 := IntWalk.i64_in _ (by omega)
 have w2' : IntKind.i64.wrap ((i : Int) + 1 - 1) = (i : Int) := by rw [IntWalk.i64_in _ (by omega)]; omega
 have w3' : (i : Int) + 1 - 1 = (i : Int) := by omega
 have w4' : IntKind.i64.wrap (i : Int) = (i : Int) := IntWalk.i64_in _ (by omega)
 clear hat hmc hm h hlen hct hte
 have hw1 : Below w.heap.size w (w.alloc (.cells #[.int .i64 0, .int .i64 0, .int .i64 0] 152)) := balloc (Below.refl _ _)
 have hB := Blk.new w 152 #[.int .i64 0, .int .i64 0, .int .i64 0]
 go_enter Tryz.func161, Tryz.ntmps161
 go_upto_region 1 with fail
 obtain ⟨w1, hw10⟩ : ∃ x, w.alloc (.cells #[.int .i64 0, .int .i64 0, .int .i64 0] 152) = x := ⟨_, rfl⟩
 rw [hw10] at hw1 hB ⊢
 have HB := Lib.hid hB
 clear hB hw10
 refine wp_region_lin (fun w' => Below w1.heap.size w1 w') (fun w' => Below w1.heap.size w1 w') (fun k => k == 12 || k == 15) (fun k => k == 15) (fun k => k == 16) (by kernel_rfl) (by kernel_rfl) (Below.drew (Below.refl _ _)) (fun _ h => h) ?_
 repeat ((first
  | (refine wpL_read (v := ?_) (by rfl) (by rfl) (fun w6 hSw => ?_) ?_; rotate_left; (· (obtain ⟨y0, y1⟩ := HMC.out _ (bseq hw1 hSw); go_simp; try with_reducible rfl)))
  | (refine wpL_free (v := ?_) (by rfl) (fun w6 => ?_) ?_; rotate_left; (· (go_simp; try with_reducible rfl)))
  | refine wpL_not (by rfl) ?_); (try simp only [Act.put, pA, pB, pC]))
 refine wpL_call (f := ?_) (args := ?_) (fun v w' => (∃ (T : Int) (jj : Nat), SignAt ds i T /\ v = .tuple #[.agg #[.int .i64 T, .int .i64 2, .int .i64 (jj : Int)], .int .i64 0]) /\ Below w1.heap.size w1 w') (by rfl) (by rfl) (fun w6 hSw => ?_) (fun w6 hSw => ?_) (.inr (fun v6 w6 hT6 => ?_)) (fun v6 hv6 => ?_)
 rotate_left 2
 ·(skip; go_simp; first | done | (constructor <;> with_reducible rfl) | with_reducible rfl)
 ·(refine (HAT.out _ (bseq hw1 hSw)).mono ?_; rintro e w' ⟨T, hT, ⟨jj, rfl⟩, hb⟩; exact ⟨_, rfl, ⟨T, jj, hT, rfl⟩, bseq hSw hb⟩)
 ·(exact hT6.2)
 obtain ⟨wz, ⟨T, jj, hT, rfl⟩, -⟩ := hv6
 (try simp only [Act.put, pA, pB, pC])
 iterate 2 ((first
  | (refine wpL_read (v := ?_) (by rfl) (by rfl) (fun w6 hSw => ?_) ?_; rotate_left; (· (obtain ⟨y0, y1⟩ := HMC.out _ (bseq hw1 hSw); go_simp; try with_reducible rfl)))
  | (refine wpL_free (v := ?_) (by rfl) (fun w6 => ?_) ?_; rotate_left; (· (go_simp; try with_reducible rfl)))
  | refine wpL_not (by rfl) ?_); (try simp only [Act.put, pA, pB, pC]))
 refine wpL_heavy (fun _ w' => ∃ wx, Below w1.heap.size w1 wx /\ w' = ((wx.setCell ⟨w.heap.size, 0, none⟩ (.int .i64 T)).setCell ⟨w.heap.size, 1, none⟩ (.int .i64 2)).setCell ⟨w.heap.size, 2, none⟩ (.int .i64 (jj : Int))) (by rfl) (by rfl) (fun w6 hSw => ?_) (.inl (by rfl)) (fun v6 hv6 => ?_)
 ·(obtain ⟨l0, l1, l2, l3, l4, l5⟩ := land_facts (HB.out.below hSw.2); go_simp; exact ⟨_, hSw.2, rfl⟩)
 skip
 (try simp only [Act.put, pA, pB, pC])
 repeat ((first
  | (refine wpL_read (v := ?_) (by rfl) (by rfl) (fun w6 hSw => ?_) ?_; rotate_left; (· (obtain ⟨y0, y1⟩ := HMC.out _ (bseq hw1 hSw); go_simp; try with_reducible rfl)))
  | (refine wpL_free (v := ?_) (by rfl) (fun w6 => ?_) ?_; rotate_left; (· (go_simp; try with_reducible rfl)))
  | refine wpL_not (by rfl) ?_); (try simp only [Act.put, pA, pB, pC]))
 refine wpL_nil ?_
 rintro w9 ⟨wx, hbx, rfl⟩
 go_wp2_with fail
 obtain ⟨e0, e1, e2⟩ := land_ret (x := T) (y := 2) (z := (jj : Int)) (HB.out.below hbx)
 exact bodyPost_ret (v := .tuple #[.agg #[.int .i64 T, .int .i64 2, .int .i64 (jj : Int)], .int .i64 0]) (by simp [results, Tryz.results161, go_sem, e0, e1, e2]) rfl ⟨_, hT, ⟨jj, rfl⟩, below_set3 (bseq hw1 hbx) (Nat.le_refl _)⟩
theorem fn_here (w : World) : (binOp BinOp.eql 242 (.func (.func 161) #[] #[]) .nilFunc).run Tryz.prog w = .ok (.bool false) w := by kernel_rfl
theorem rowMove_here (w : World) : Calls Tryz.prog 136 #[.int .i64 15] w fun e w' => e = .returned (.func (.func 161) #[] #[]) /\ w = w' := by
 go_enter Tryz.func136, Tryz.ntmps136
 go_wp2_with fail
 go_ret
 exact ⟨rfl, rfl⟩
def HereAt (ds : List (Int × Int)) (at_ : Int) (i : Nat) : Prop := ∃ j : Nat, ClampOk ds at_ j /\ j <= nC (cont ds (rowIx ds at_ false)) /\ i = rowIx ds ((lineF ds (rowIx ds at_ false)).from_ + (mkb (cont ds (rowIx ds at_ false)) j : Int)) false
def HerePost2 (ds : List (Int × Int)) (at_ : Int) (w : World) (e : Ending) (w' : World) : Prop := ∃ i, HereAt ds at_ i /\ SignPost ds i w e w'
theorem run_here (D : Nat -> Prop) (g : Nat) (enc : Int) (ds : List (Int × Int)) (at_ : Int) (w : World) (h : TextAt w D g enc ds) :
  Calls Tryz.prog 135 #[.func (.func 136) #[] #[], .pointer (some ⟨g, 0, none⟩), .int .i64 at_, .int .i64 0, .agg #[.int .i64 15, .int .i64 0, .int .i64 0], .bool false] w (HerePost2 ds at_ w) := by
 have hp := h.pos
 have hlen := h.len
 have hcp := fun (wy : World) (hy : Below w.heap.size w wy) => clamp_gen D g enc ds at_ wy (h.below hy)
 have hra := fun (y : Int) (wy : World) (hy : Below w.heap.size w wy) => rowAt_any D g enc ds y false wy (h.below hy)
 have HCP := Lib.hid hcp
 have HRA := Lib.hid hra
 have HT := Lib.hid h
 have HP := Lib.hid hp
 clear hra hcp hp h
 have hM := Blk.new w 156 #[.int .i64 15, .int .i64 0, .int .i64 0]
 have hM1 := hM.alloc (.cells #[.int .i64 0, .int .i64 0, .int .i64 0] 152)
 have hLd := Blk.new (w.alloc (.cells #[.int .i64 15, .int .i64 0, .int .i64 0] 156)) 152 #[.int .i64 0, .int .i64 0, .int .i64 0]
 have hW1 : Below w.heap.size w ((w.alloc (.cells #[.int .i64 15, .int .i64 0, .int .i64 0] 156)).alloc (.cells #[.int .i64 0, .int .i64 0, .int .i64 0] 152)) := balloc (balloc (Below.refl _ _))
 rw [World.size_alloc] at hLd
 have c0 := hM1.cell 0
 have c1 := hM1.cell 1
 simp at c0 c1
 have he1 := Tryz.call136
 have he2 := Tryz.call161
 have hq1 := fn_here
 have HWM := Lib.hid rowMove_here
 go_enter Tryz.func135, Tryz.ntmps135
 go_wp2_with fail
 refine (HWM.out _).mono ?_
 rintro e w1 ⟨rfl, rfl⟩
 go_wp2_with fail
 refine (HCP.out _ hW1).mono ?_
 rintro e w2 ⟨jc, rfl, hcok, hjc, hb2⟩
 have hM2 := hM1.below hb2
 have hLd2 := hLd.below hb2
 have hW2 := bseq hW1 hb2
 clear c0 c1
 have d0 := hM2.cell 0
 have d1 := hM2.cell 1
 have d2 := hM2.cell 2
 simp at d0 d1 d2
 have hat : ∀ i, i = rowIx ds ((lineF ds (rowIx ds at_ false)).from_ + (mkb (cont ds (rowIx ds at_ false)) jc : Int)) false -> HereAt ds at_ i := fun i hi => ⟨jc, hcok, hjc, hi⟩
 obtain ⟨y, hy⟩ : ∃ y, (lineF ds (rowIx ds at_ false)).from_ + (mkb (cont ds (rowIx ds at_ false)) jc : Int) = y := ⟨_, rfl⟩
 rw [hy] at hat ⊢
 have hix := rowIx_le ds y false
 have hic : rowIx ds y false < countF ds := by have := @countF_pos ds; unfold rowIx; simp; omega
 have hbd := lineF_bd HP.out hix
 have hcl := cont_len HP.out hix
 have hra := HRA.out y
 obtain ⟨I, hI⟩ : ∃ I, rowIx ds y false = I := ⟨_, rfl⟩
 rw [hI] at hbd hcl hra hic
 have HAT := Lib.hid (hat I hI.symm)
 have HIC := Lib.hid hic
 obtain ⟨L, hL⟩ : ∃ L, lineF ds I = L := ⟨_, rfl⟩
 obtain ⟨C, hC⟩ : ∃ C, cont ds I = C := ⟨_, rfl⟩
 rw [hL] at hbd hcl hra
 rw [hC] at hcl hra
 have hl0 : 0 <= L.from_ /\ L.from_ <= 1073741824 := by omega
 have hc0 : C.length <= 1073741824 := by omega
 have hnn := nC_le C
 obtain ⟨x0, x1, x2, x3⟩ := L
 have hra2 := fun (wy : World) (hy : Below w.heap.size w wy) => (hra wy hy).mono (fun e w' hh => rowPost_flat hh)
 dsimp only at hl0
 have HRA2 := Lib.hid hra2
 clear hra hra2 hI hL hC hix hcl hbd hlen hy hat hcok hjc hic
 go_upto_region 5 with fail
 have s0 : w2.drew.cell? ⟨w.heap.size, 2, none⟩ = some (.int .i64 0) := d2
 go_region_held3 (fun w' => w'.cell? ⟨w.heap.size, 2, none⟩ = some (.int .i64 0)) (first | (with_reducible assumption) | (exact cell_alloc1 _ s5)) (first | (go_at_call 86; (with_reducible refine (HRA2.out _ (Below.drew hW2)).mono ?_); rintro e w5 ⟨A1, n1, c1, A2, n2, c2, rfl, hrow, hb5⟩; have s5 := cell_keep hb5 s0))
 all_goals
  have hb5' := bdrew hb5
  have hM5 := hM2.below hb5'
  have hLd5 := hLd2.below hb5'
  have hW5 := bseq hW2 hb5'
  have hmv : Blk (w5.alloc (.cells #[.pointer (some ⟨g, 0, none⟩), .int .i64 y, .int .i64 0, .int .i64 1, .bool false, .int .i64 0, .int .i64 0, .bool false, .bool false, .int .i64 x0, .int .i64 x1, .int .i64 x2, .int .i64 x3, .int .i64 (I : Int), .slice A1 n1 c1, .slice A2 n2 c2] 245)) w5.heap.size 245 (mvV g y 0 1 false 0 0 (.int .i64 x0) (.int .i64 x1) (.int .i64 x2) (.int .i64 x3) (.int .i64 (I : Int)) (.slice A1 n1 c1) (.slice A2 n2 c2)) := Blk.new _ _ _
  have hwa : Below w5.heap.size w5 (w5.alloc (.cells #[.pointer (some ⟨g, 0, none⟩), .int .i64 y, .int .i64 0, .int .i64 1, .bool false, .int .i64 0, .int .i64 0, .bool false, .bool false, .int .i64 x0, .int .i64 x1, .int .i64 x2, .int .i64 x3, .int .i64 (I : Int), .slice A1 n1 c1, .slice A2 n2 c2] 245)) := balloc (Below.refl _ _)
  have hco := column_any _ ⟨x0, x1, x2, x3⟩ (I : Int) C _ y _ (hrow.below hwa) hl0 (by rw [allB_len]; omega) (allB_bd hc0) allB_sorted
  have HCO := Lib.hid hco
  have HLD := Lib.hid hLd5
  have HM5 := Lib.hid hM5
  have HMV := Lib.hid hmv
  clear hco d0 d1 hM2 hLd2 hrow
  obtain ⟨⟨g0, g1, g2, g3, g4, g5, g6⟩, ⟨k0, k1⟩, k2, k3⟩ := mv_row HMV.out
  clear hM5 hLd5 hmv
  go_wp2_with fail
  refine (HCO.out).mono ?_
  rintro e w6 ⟨⟨jj, rfl, _⟩, hb6⟩
  have hW6 := bseq hwa hb6
  have hmv6 := HMV.out.below hb6
  obtain ⟨_, ⟨k0, k1⟩, k2, k3⟩ := mv_row hmv6
  have hma := (hmv6.set_ 2 (.int .i64 (jj : Int))).set_ 8 (.bool false)
  have hM6 := HM5.out.below hW6
  have d0 := hM6.cell 0
  have d1 := hM6.cell 1
  simp at d0 d1
  have hwE := (hW6.setCell (p := ⟨w5.heap.size, 2, none⟩) (Nat.le_refl _) (.int .i64 (jj : Int))).setCell (p := ⟨w5.heap.size, 8, none⟩) (Nat.le_refl _) (.bool false)
  have hdo := mhere_any D w5.heap.size g enc ds y (jj : Int) 0 0 false (.int .i64 x0) (.int .i64 x1) (.int .i64 x2) (.int .i64 x3) (.slice A1 n1 c1) (.slice A2 n2 c2) I _ hma (HT.out.below (bseq hW5 hwE)) HIC.out
  have HDO := Lib.hid hdo
  clear hdo hma hmv6
  go_wp2_with fail
  refine (HDO.out).mono ?_
  rintro e w8 ⟨T, hT, ⟨col, rfl⟩, hb8⟩
  have hLd8 := HLD.out.below (bseq hwE hb8)
  obtain ⟨l0, l1, l2, l3, l4, l5⟩ := land_facts hLd8
  go_wp2_with fail
  obtain ⟨e0, e1, e2⟩ := land_ret (x := T) (y := 2) (z := (col : Int)) hLd8
  exact bodyPost_ret (v := .tuple #[.agg #[.int .i64 T, .int .i64 2, .int .i64 (col : Int)], .int .i64 0]) (by simp [results, Tryz.results135, go_sem, e0, e1, e2]) rfl ⟨I, HAT.out, T, hT, ⟨col, rfl⟩, below_set3 (bseq hW5 (bseq hwE hb8)) (by omega)⟩
theorem rows_here (D : Nat -> Prop) (g : Nat) (enc : Int) (ds : List (Int × Int)) (at_ : Int) (w : World) (h : TextAt w D g enc ds) :
  Calls Tryz.prog 103 #[.pointer (some ⟨g, 0, none⟩), .int .i64 at_, .int .i64 0, .agg #[.int .i64 15, .int .i64 0, .int .i64 0]] w (HerePost2 ds at_ w) := by
 have hM := Blk.new w 156 #[.int .i64 15, .int .i64 0, .int .i64 0]
 have hM1 := hM.alloc (.cells #[.int .i64 0, .int .i64 0, .int .i64 0] 152)
 have hLd := Blk.new (w.alloc (.cells #[.int .i64 15, .int .i64 0, .int .i64 0] 156)) 152 #[.int .i64 0, .int .i64 0, .int .i64 0]
 have hW1 : Below w.heap.size w ((w.alloc (.cells #[.int .i64 15, .int .i64 0, .int .i64 0] 156)).alloc (.cells #[.int .i64 0, .int .i64 0, .int .i64 0] 152)) := balloc (balloc (Below.refl _ _))
 rw [World.size_alloc] at hLd
 have hrun := run_here D g enc ds at_ _ (h.below hW1)
 have HRU := Lib.hid hrun
 have c0 := hM1.cell 0
 have c1 := hM1.cell 1
 have c2 := hM1.cell 2
 simp at c0 c1 c2
 clear hrun h
 go_enter Tryz.func103, Tryz.ntmps103
 go_wp2_with fail
 refine (HRU.out).mono ?_
 rintro e w8 ⟨I, hI, T, hT, ⟨col, rfl⟩, hb8⟩
 have hLd8 := hLd.below hb8
 obtain ⟨l0, l1, l2, l3, l4, l5⟩ := land_facts hLd8
 go_wp2_with fail
 obtain ⟨e0, e1, e2⟩ := land_ret (x := T) (y := 2) (z := (col : Int)) hLd8
 exact bodyPost_ret (v := .tuple #[.agg #[.int .i64 T, .int .i64 2, .int .i64 (col : Int)], .int .i64 0]) (by simp [results, Tryz.results103, go_sem, e0, e1, e2]) rfl ⟨I, hI, T, hT, ⟨col, rfl⟩, below_set3 (bseq hW1 hb8) (by omega)⟩
theorem HereAt.le {ds : List (Int × Int)} {at_ : Int} {i : Nat} (h : HereAt ds at_ i) : i <= totE ds := by
 obtain ⟨j, _, _, rfl⟩ := h
 exact rowIx_le _ _ _
theorem sign_desk {B gd gb g n : Nat} {enc lim : Int} {st : BkS} {dc : Array Value} {w : World} (h : DeskIs w B gd gb g enc lim n st dc) (at_ : Int) :
  Calls Tryz.prog 57 #[.pointer (some ⟨gd, 0, none⟩), .int .i64 at_] w fun e w' => ∃ (i : Nat) (T : Int), HereAt (sizedA enc st.ats) at_ i /\ SignAt (sizedA enc st.ats) i T /\ e = .returned (.int .i64 T) /\ Below w.heap.size w w' := by
 have HT := Lib.hid (fun (w' : World) (hb : Below w.heap.size w w') => text_desk (h.below hb))
 have HR := Lib.hid (fun (w' : World) (hb : Below w.heap.size w w') => rows_here Any g enc (sizedA enc st.ats) at_ w' (h.below hb).at_)
 clear h
 have hmc := must_ok
 have HMU := Lib.hid hmc
 go_enter Tryz.func57, Tryz.ntmps57
 go_wp2_with fail
 refine (HT.out _ (Below.refl _ _)).mono ?_
 rintro e w1 ⟨rfl, rfl⟩
 go_wp2_with fail
 refine (HR.out _ (Below.refl _ _)).mono ?_
 rintro e w2 ⟨I, hI, T, hT, ⟨col, rfl⟩, hb2⟩
 have hLd := Blk.new w2 152 #[.int .i64 T, .int .i64 2, .int .i64 (col : Int)]
 have c0 := hLd.cell 0
 simp at c0
 go_wp2_with fail
 refine (HMU.out _).mono ?_
 rintro e w3 ⟨rfl, rfl⟩
 go_wp2_with fail
 go_ret
 exact ⟨I, T, hI, hT, rfl, balloc hb2⟩
end Go.Proofs.YtgiihhikdoikgaaGreat
