/-
  The movers of package motion, fourth part: run, Words (the rest of a word, back; no count).
-/
import Derived.Test.YtoafogibfokblaaGreatLMove3
set_option linter.unusedSimpArgs false
set_option linter.unusedVariables false
namespace Go.Proofs.YtoafogibfokblaaGreat
open Go.RowKit

def LandPost (X T : Int) (w : World) (e : Ending) (w' : World) : Prop := (∃ col : Nat, e = .returned (.tuple #[.agg #[.int .i64 T, .int .i64 X, .int .i64 (col : Int)], .int .i64 0])) ∧ Below w.heap.size w w'
/-- what a mover's function does -/
def DoesAt (f : Nat) (w : World) (g : Nat) (s X T : Int) : Prop :=
  ∀ (W0 w' : World) (m : Nat), Below w.heap.size w W0 → Below W0.heap.size W0 w' → W0.heap.size ≤ m → MvAt w' m g s 1 → Calls Tryz.prog f #[.pointer (some ⟨m, 0, none⟩)] w' fun e' w'' => LandPost X T W0 e' w''
theorem cell_alloc1 {w : World} {p : Addr} {u : Value} (o : Obj) (h : w.cell? p = some u) : (w.alloc o).cell? p = some u := cell_keep (balloc (Below.refl _ _)) h
theorem mv_new {w : World} {g : Nat} {s : Int} {L : Ln} {I : Int} {A1 A2 : Option Addr} {n1 c1 n2 c2 : Nat} :
    Blk (w.alloc (.cells (mvV g s 0 1 false 0 0 (.int .i64 L.from_) (.int .i64 L.to_) (.int .i64 L.next) (.int .i64 L.brk) (.int .i64 I) (.slice A1 n1 c1) (.slice A2 n2 c2)) 112)) w.heap.size 112 (mvV g s 0 1 false 0 0 (.int .i64 L.from_) (.int .i64 L.to_) (.int .i64 L.next) (.int .i64 L.brk) (.int .i64 I) (.slice A1 n1 c1) (.slice A2 n2 c2)) := Blk.new _ _ _
theorem mv_row {w : World} {m g : Nat} {s c k arg goal : Int} {cn : Bool} {r0 r1 r2 r3 r4 r5 r6 : Value} (h : Blk w m 112 (mvV g s c k cn arg goal r0 r1 r2 r3 r4 r5 r6)) :
    (w.cell? ⟨m, 9, none⟩ = some r0 ∧ w.cell? ⟨m, 10, none⟩ = some r1 ∧ w.cell? ⟨m, 11, none⟩ = some r2 ∧ w.cell? ⟨m, 12, none⟩ = some r3 ∧ w.cell? ⟨m, 13, none⟩ = some r4 ∧ w.cell? ⟨m, 14, none⟩ = some r5 ∧ w.cell? ⟨m, 15, none⟩ = some r6) ∧
      (w.cell? ⟨m, 2, none⟩ = some (.int .i64 c) ∧ w.cell? ⟨m, 8, none⟩ = some (.bool false)) ∧ w.frozen? ⟨m, 2, none⟩ = false ∧ w.frozen? ⟨m, 8, none⟩ = false :=
  ⟨⟨h.cell 9, h.cell 10, h.cell 11, h.cell 12, h.cell 13, h.cell 14, h.cell 15⟩, ⟨h.cell 2, h.cell 8⟩, h.frozen 2, h.frozen 8⟩
theorem mv_set {w : World} {m g : Nat} {s c k arg goal : Int} {cn : Bool} {r0 r1 r2 r3 r4 r5 r6 : Value} (h : Blk w m 112 (mvV g s c k cn arg goal r0 r1 r2 r3 r4 r5 r6)) (c' : Int) :
    Blk (w.setCell ⟨m, 2, none⟩ (.int .i64 c')) m 112 (mvV g s c' k cn arg goal r0 r1 r2 r3 r4 r5 r6) ∧
    MvAt ((w.setCell ⟨m, 2, none⟩ (.int .i64 c')).setCell ⟨m, 8, none⟩ (.bool false)) m g s k :=
  ⟨h.set_ 2 _, ⟨c', cn, arg, goal, r0, r1, r2, r3, r4, r5, r6, (h.set_ 2 _).set_ 8 _⟩⟩
theorem rowPost_flat {x0 x1 x2 x3 I : Int} {C : List Int} {w w' : World} {e : Ending} (h : RowPost ⟨x0, x1, x2, x3⟩ I C w e w') :
    ∃ A1 n1 c1 A2 n2 c2, e = .returned (.agg #[.int .i64 x0, .int .i64 x1, .int .i64 x2, .int .i64 x3, .int .i64 I, .slice A1 n1 c1, .slice A2 n2 c2]) ∧
      RowC w' (fun b => w.heap.size ≤ b) ⟨x0, x1, x2, x3⟩ I C #[.int .i64 x0, .int .i64 x1, .int .i64 x2, .int .i64 x3, .int .i64 I, .slice A1 n1 c1, .slice A2 n2 c2] ∧ Below w.heap.size w w' := by
  obtain ⟨v, h1, h2, h3⟩ := h
  obtain ⟨A1, n1, c1, A2, n2, c2, rfl⟩ := first_v h2
  exact ⟨A1, n1, c1, A2, n2, c2, h1, h2, h3⟩
theorem fn_rest (w : World) : (binOp BinOp.eql 105 (.func (.func 61) #[] #[]) .nilFunc).run Tryz.prog w = .ok (.bool false) w := by kernel_rfl
theorem fn_back (w : World) : (binOp BinOp.eql 105 (.func (.func 58) #[] #[]) .nilFunc).run Tryz.prog w = .ok (.bool false) w := by kernel_rfl
set_option maxRecDepth 100000 in
set_option maxHeartbeats 2000000 in
theorem run_any (D : Nat → Prop) (g : Nat) (enc : Int) (ds : List (Int × Int)) (at_ K X T : Int) (f j : Nat) (w : World) (h : TextAt w D g enc ds) (hK : (K = 29 ∧ f = 61) ∨ (K = 22 ∧ f = 58))
    (hr : at_ = (lineF ds (rowIx ds at_ false)).from_ + (mkb (cont ds (rowIx ds at_ false)) j : Int)) (hlt : at_ < (lineF ds (rowIx ds at_ false)).to_) (hj : j < nC (cont ds (rowIx ds at_ false))) (hdo : DoesAt f w g at_ X T) :
    Calls Tryz.prog 35 #[.func (.func 36) #[] #[], .pointer (some ⟨g, 0, none⟩), .int .i64 at_, .int .i64 0, .agg #[.int .i64 K, .int .i64 0, .int .i64 0], .bool false] w fun e w' => LandPost X T w e w' := by
  have hp := h.pos
  have hix := rowIx_le ds at_ false
  have hbd := lineF_bd hp hix
  have hcl := cont_len hp hix
  have hlen := h.len
  have hra := fun (wy : World) (hy : Below w.heap.size w wy) => rowAt_any D g enc ds at_ false wy (h.below hy)
  have hcp := fun (wy : World) (hy : Below w.heap.size w wy) => clamp_any D g enc ds at_ _ j wy (h.below hy) hr hlt (InC.at_mk (Nat.le_of_lt hj))
  rw [← hr] at hcp
  obtain ⟨I, hI⟩ : ∃ I, rowIx ds at_ false = I := ⟨_, rfl⟩
  rw [hI] at hbd hcl hra
  obtain ⟨L, hL⟩ : ∃ L, lineF ds I = L := ⟨_, rfl⟩
  obtain ⟨C, hC⟩ : ∃ C, cont ds I = C := ⟨_, rfl⟩
  rw [hL] at hbd hcl hra
  rw [hC] at hcl hra
  have hl0 : 0 ≤ L.from_ ∧ L.from_ ≤ 1073741824 := by omega
  have hc0 : C.length ≤ 1073741824 := by omega
  have hnn := nC_le C
  obtain ⟨x0, x1, x2, x3⟩ := L
  have hra2 := fun (wy : World) (hy : Below w.heap.size w wy) => (hra wy hy).mono (fun e w' hh => rowPost_flat hh)
  dsimp only at hl0
  have HRA := Lib.hid hra2
  have HCP := Lib.hid hcp
  have HDO := Lib.hid hdo
  clear hra hra2 hcp hdo hI hL hC hix hp hcl hbd hlen hr hlt hj h
  have hM := Blk.new w 44 #[.int .i64 K, .int .i64 0, .int .i64 0]
  have hM1 := hM.alloc (.cells #[.int .i64 0, .int .i64 0, .int .i64 0] 47)
  have hLd := Blk.new (w.alloc (.cells #[.int .i64 K, .int .i64 0, .int .i64 0] 44)) 47 #[.int .i64 0, .int .i64 0, .int .i64 0]
  have hW1 : Below w.heap.size w ((w.alloc (.cells #[.int .i64 K, .int .i64 0, .int .i64 0] 44)).alloc (.cells #[.int .i64 0, .int .i64 0, .int .i64 0] 47)) := balloc (balloc (Below.refl _ _))
  rw [World.size_alloc] at hLd
  have c0 := hM1.cell 0
  have c1 := hM1.cell 1
  simp at c0 c1
  have he1 := Tryz.call36
  have he2 := Tryz.call61
  have he3 := Tryz.call58
  have hq1 := fn_rest
  have hq2 := fn_back
  have hwm := fun (w : World) => wordMove_any w K f hK
  rcases hK with ⟨rfl, rfl⟩ | ⟨rfl, rfl⟩
  all_goals
    have HWM := Lib.hid hwm
    clear hwm
    go_enter Tryz.func35, Tryz.ntmps35
    go_wp2_with fail
    refine (HWM.out _).mono ?_
    rintro e w1 ⟨rfl, rfl⟩
    go_wp2_with fail
    refine (HCP.out _ hW1).mono ?_
    rintro e w2 ⟨rfl, hb2⟩
    have hM2 := hM1.below hb2
    have hLd2 := hLd.below hb2
    have hW2 := bseq hW1 hb2
    clear c0 c1
    have d0 := hM2.cell 0
    have d1 := hM2.cell 1
    have d2 := hM2.cell 2
    simp at d0 d1 d2
    go_upto_region 5 with fail
    have s0 : w2.drew.cell? ⟨w.heap.size, 2, none⟩ = some (.int .i64 0) := d2
    go_region_held3 (fun w' => w'.cell? ⟨w.heap.size, 2, none⟩ = some (.int .i64 0)) (first | (with_reducible assumption) | (exact cell_alloc1 _ s5)) (first | (go_at_call 55; (with_reducible refine (HRA.out _ (Below.drew hW2)).mono ?_); rintro e w5 ⟨A1, n1, c1, A2, n2, c2, rfl, hrow, hb5⟩; have s5 := cell_keep hb5 s0))
    all_goals
      have hb5' := bdrew hb5
      have hM5 := hM2.below hb5'
      have hLd5 := hLd2.below hb5'
      have hW5 := bseq hW2 hb5'
      have hmv : Blk (w5.alloc (.cells #[.pointer (some ⟨g, 0, none⟩), .int .i64 at_, .int .i64 0, .int .i64 1, .bool false, .int .i64 0, .int .i64 0, .bool false, .bool false, .int .i64 x0, .int .i64 x1, .int .i64 x2, .int .i64 x3, .int .i64 (I : Int), .slice A1 n1 c1, .slice A2 n2 c2] 112)) w5.heap.size 112 (mvV g at_ 0 1 false 0 0 (.int .i64 x0) (.int .i64 x1) (.int .i64 x2) (.int .i64 x3) (.int .i64 (I : Int)) (.slice A1 n1 c1) (.slice A2 n2 c2)) := Blk.new _ _ _
      have hwa : Below w5.heap.size w5 (w5.alloc (.cells #[.pointer (some ⟨g, 0, none⟩), .int .i64 at_, .int .i64 0, .int .i64 1, .bool false, .int .i64 0, .int .i64 0, .bool false, .bool false, .int .i64 x0, .int .i64 x1, .int .i64 x2, .int .i64 x3, .int .i64 (I : Int), .slice A1 n1 c1, .slice A2 n2 c2] 112)) := balloc (Below.refl _ _)
      have hco := column_any _ ⟨x0, x1, x2, x3⟩ (I : Int) C _ at_ _ (hrow.below hwa) hl0 (by rw [allB_len]; omega) (allB_bd hc0) allB_sorted
      have HCO := Lib.hid hco
      have HLD := Lib.hid hLd5
      have HM5 := Lib.hid hM5
      have HMV := Lib.hid hmv
      clear hco d0 d1 hM2 hLd2 hrow
      obtain ⟨⟨g0, g1, g2, g3, g4, g5, g6⟩, ⟨k0, k1⟩, k2, k3⟩ := mv_row HMV.out
      clear hM5 hLd5 hmv
      go_wp2_with fail
      refine (HCO.out).mono ?_
      rintro e w6 ⟨⟨jj, rfl, _⟩, hb6⟩
      have hW6 := bseq hwa hb6
      have hmv6 := HMV.out.below hb6
      obtain ⟨_, ⟨k0, k1⟩, k2, k3⟩ := mv_row hmv6
      obtain ⟨hst, hma⟩ := mv_set hmv6 (jj : Int)
      have hM6 := HM5.out.below hW6
      have d0 := hM6.cell 0
      have d1 := hM6.cell 1
      simp at d0 d1
      go_wp2_with fail
      refine (HDO.out w5 _ w5.heap.size hW5 ((hW6.setCell (Nat.le_refl _) _).setCell (Nat.le_refl _) _) (Nat.le_refl _) hma).mono ?_
      rintro e w8 ⟨⟨col, rfl⟩, hb8⟩
      have hLd8 := HLD.out.below hb8
      obtain ⟨l0, l1, l2, l3, l4, l5⟩ := land_facts hLd8
      go_wp2_with fail
      obtain ⟨e0, e1, e2⟩ := land_ret (x := T) (y := X) (z := (col : Int)) hLd8
      exact bodyPost_ret (v := .tuple #[.agg #[.int .i64 T, .int .i64 X, .int .i64 (col : Int)], .int .i64 0]) (by simp [results, Tryz.results35, go_sem, e0, e1, e2]) rfl ⟨⟨col, rfl⟩, below_set3 (bseq hW5 hb8) (by omega)⟩
set_option maxRecDepth 100000 in
set_option maxHeartbeats 2000000 in
theorem words_any (D : Nat → Prop) (g : Nat) (enc : Int) (ds : List (Int × Int)) (at_ K X T : Int) (f j : Nat) (w : World) (h : TextAt w D g enc ds) (hK : (K = 29 ∧ f = 61) ∨ (K = 22 ∧ f = 58))
    (hr : at_ = (lineF ds (rowIx ds at_ false)).from_ + (mkb (cont ds (rowIx ds at_ false)) j : Int)) (hlt : at_ < (lineF ds (rowIx ds at_ false)).to_) (hj : j < nC (cont ds (rowIx ds at_ false))) (hdo : DoesAt f w g at_ X T) :
    Calls Tryz.prog 16 #[.pointer (some ⟨g, 0, none⟩), .int .i64 at_, .agg #[.int .i64 K, .int .i64 0, .int .i64 0], .bool false] w fun e w' => LandPost X T w e w' := by
  have hM := Blk.new w 44 #[.int .i64 K, .int .i64 0, .int .i64 0]
  have hM1 := hM.alloc (.cells #[.int .i64 0, .int .i64 0, .int .i64 0] 47)
  have hLd := Blk.new (w.alloc (.cells #[.int .i64 K, .int .i64 0, .int .i64 0] 44)) 47 #[.int .i64 0, .int .i64 0, .int .i64 0]
  have hW1 : Below w.heap.size w ((w.alloc (.cells #[.int .i64 K, .int .i64 0, .int .i64 0] 44)).alloc (.cells #[.int .i64 0, .int .i64 0, .int .i64 0] 47)) := balloc (balloc (Below.refl _ _))
  rw [World.size_alloc] at hLd
  have hrun := run_any D g enc ds at_ K X T f j _ (h.below hW1) hK hr hlt hj (fun W0 w' m k1 k2 k3 k4 => hdo W0 w' m (hW1.trans (k1.mono hW1.size)) k2 k3 k4)
  have HRU := Lib.hid hrun
  have c0 := hM1.cell 0
  have c1 := hM1.cell 1
  have c2 := hM1.cell 2
  simp at c0 c1 c2
  clear hrun hK hr hlt hj hdo h
  go_enter Tryz.func16, Tryz.ntmps16
  go_wp2_with fail
  refine (HRU.out).mono ?_
  rintro e w8 ⟨⟨col, rfl⟩, hb8⟩
  have hLd8 := hLd.below hb8
  obtain ⟨l0, l1, l2, l3, l4, l5⟩ := land_facts hLd8
  go_wp2_with fail
  obtain ⟨e0, e1, e2⟩ := land_ret (x := T) (y := X) (z := (col : Int)) hLd8
  exact bodyPost_ret (v := .tuple #[.agg #[.int .i64 T, .int .i64 X, .int .i64 (col : Int)], .int .i64 0]) (by simp [results, Tryz.results16, go_sem, e0, e1, e2]) rfl ⟨⟨col, rfl⟩, below_set3 (bseq hW1 hb8) (by omega)⟩
end Go.Proofs.YtoafogibfokblaaGreat
