/-
  The first sign of a line: row.kind (by great words), row.sign, mover.toSign. Package motion: the first sign of a line (here), by Rows; desk.sign.
-/
import Derived.Test.YtkocknfhdojmbaaGreatLMove4
import Derived.Test.YtkocknfhdojmbaaGreatLDeskOps2
import Derived.Test.YtkocknfhdojmbaaGreatLHeavy
set_option linter.unusedSimpArgs false
set_option linter.unusedVariables false
set_option maxRecDepth 100000
set_option maxHeartbeats 32000000
namespace Go.Proofs.YtkocknfhdojmbaaGreat
open Go.RowKit
theorem kind_big (D : Nat -> Prop) (L : Ln) (i : Int) (C : List Int) (v : Array Value) (k p : Nat) (w : World) (h : RowC w D L i C v) (hk : k < (allB C).length) (hp : (allB C).getD k 0 = (p : Int)) (hp2 : p < C.length) :
  Calls Tryz.prog 195 #[.agg v, .int .i64 (k : Int), .bool true] w fun e w' => e = .returned (.int .i64 (min (kindF C k) 1)) /\ Below w.heap.size w w' := by
 have hW : Below w.heap.size w (w.alloc (.cells v 186)) := balloc (Below.refl _ w)
 have hf := first_any D L i C v k p _ (h.below hW) hk hp hp2
 have hkf : kindF C k = wordF (C.getD p 0) := by unfold kindF; rw [hp]; rfl
 rw [hkf]
 obtain ⟨y, hy⟩ : ∃ y, C.getD p 0 = y := ⟨_, rfl⟩
 rw [hy] at hf ⊢
 obtain ⟨A1, n1, c1, A2, n2, c2, rfl⟩ := first_v h
 have hb0 := Blk.new w 186 (rowV L i A1 n1 c1 A2 n2 c2)
 obtain ⟨x0, x1, x2, x3⟩ := L
 obtain ⟨u, hu⟩ : ∃ u, wordF y = u := ⟨_, rfl⟩
 have hwd := fun w' => word_any y w'
 rw [hu] at hwd ⊢
 have HWD := Lib.hid hwd
 have HB0 := Lib.hid hb0
 have HF := Lib.hid hf
 clear hy hp hkf hf hb0 h hu hwd
 unfold rowV at hW ⊢
 dsimp only at hW ⊢
 go_enter Tryz.func195, Tryz.ntmps195
 go_wp2_with fail
 refine (HF.out).mono ?_
 rintro e w1 ⟨rfl, hb1⟩
 go_wp2_with fail
 refine (HWD.out _).mono ?_
 rintro e w2 ⟨rfl, hb2⟩
 go_wp2_with fail
 all_goals
  go_ret
  exact ⟨ret_i (by omega), bseq (bseq hW hb1) hb2⟩
def SignOk (C : List Int) (j : Nat) : Prop := (∀ i, i < j -> min (kd C i) 1 = 0) /\ j <= nC C - 1 /\ (j < nC C - 1 -> min (kd C j) 1 ≠ 0)
def SignR (C : List Int) (w1 : World) (k : Nat) (q6 : Value) (wr : World) : Prop :=
 ∃ i : Nat, q6 = .int .i64 (i : Int) /\ i <= nC C /\ nC C - i <= k /\ Hid (∀ j, j < i -> min (kd C j) 1 = 0) /\ Below w1.heap.size w1 wr
theorem rsign_any (D : Nat -> Prop) (L : Ln) (i : Int) (C : List Int) (v : Array Value) (w : World) (h : RowC w D L i C v) (hC : C.length <= 1073741824) :
  Calls Tryz.prog 186 #[.agg v] w fun e w' => ∃ j : Nat, e = .returned (.int .i64 (j : Int)) /\ SignOk C j /\ Below w.heap.size w w' := by
 have hnn := nC_le C
 obtain ⟨A1, n1, c1, A2, n2, c2, rfl⟩ := first_v h
 have hb0 := Blk.new w 186 (rowV L i A1 n1 c1 A2 n2 c2)
 have hW : Below w.heap.size w (w.alloc (.cells (rowV L i A1 n1 c1 A2 n2 c2) 186)) := balloc (Below.refl _ w)
 have hcl := fun (w' : World) (hb : Below w.heap.size w w') => clusters_mk D L i C _ w' (h.below hb) hC
 have hki := fun (w' : World) (hb : Below w.heap.size w w') (k : Nat) (hk : k < nC C) => kind_big D L i C _ k (mkb C k) w' (h.below hb) (by rw [allB_len]; omega) (allB_at (by omega)) (mk_step hk).1
 have hkd : ∀ k, k < nC C -> kindF C k = kd C k := fun k hk => by unfold kindF kd; rw [allB_at (by omega)]; rfl
 obtain ⟨N, hN⟩ : ∃ N, nC C = N := ⟨_, rfl⟩
 obtain ⟨x0, x1, x2, x3⟩ := L
 have hrow : ∀ w', Below (w.heap.size + 1) (w.alloc (.cells (rowV ⟨x0, x1, x2, x3⟩ i A1 n1 c1 A2 n2 c2) 186)) w' -> Blk w' w.heap.size 186 (rowV ⟨x0, x1, x2, x3⟩ i A1 n1 c1 A2 n2 c2) := fun w' hb => hb0.below (by rw [World.size_alloc]; exact hb)
 have HCL := Lib.hid hcl
 have HKI := Lib.hid hki
 have HKD := Lib.hid hkd
 have HN := Lib.hid hN
 have hB0 := Lib.hid hb0
 rw [hN] at HCL hnn
 clear hcl hki hkd hN h hrow
 unfold rowV at hW hB0 HCL HKI ⊢
 have hbx : ∀ w', Below (w.alloc (.cells #[.int .i64 x0, .int .i64 x1, .int .i64 x2, .int .i64 x3, .int .i64 i, .slice A1 n1 c1, .slice A2 n2 c2] 186)).heap.size (w.alloc (.cells #[.int .i64 x0, .int .i64 x1, .int .i64 x2, .int .i64 x3, .int .i64 i, .slice A1 n1 c1, .slice A2 n2 c2] 186)) w' -> (w'.cell? ⟨w.heap.size, 0, none⟩ = some (.int .i64 x0) /\ w'.cell? ⟨w.heap.size, 1, none⟩ = some (.int .i64 x1) /\ w'.cell? ⟨w.heap.size, 2, none⟩ = some (.int .i64 x2) /\ w'.cell? ⟨w.heap.size, 3, none⟩ = some (.int .i64 x3)) /\ w'.cell? ⟨w.heap.size, 4, none⟩ = some (.int .i64 i) /\ w'.cell? ⟨w.heap.size, 5, none⟩ = some (.slice A1 n1 c1) /\ w'.cell? ⟨w.heap.size, 6, none⟩ = some (.slice A2 n2 c2) :=
  fun w' hb => ⟨⟨(hB0.out.below hb).cell 0, (hB0.out.below hb).cell 1, (hB0.out.below hb).cell 2, (hB0.out.below hb).cell 3⟩, (hB0.out.below hb).cell 4, (hB0.out.below hb).cell 5, (hB0.out.below hb).cell 6⟩
 have HBX := Lib.hid hbx
 obtain ⟨⟨d0, d1, d2, d3⟩, d4, d5, d6⟩ := hbx _ (Below.refl _ _)
 clear hbx hb0
 dsimp only at hW HCL HKI ⊢
 go_enter Tryz.func186, Tryz.ntmps186
 go_upto_region 1 with fail
 obtain ⟨w0, hw0⟩ : ∃ x, w.alloc (.cells #[.int .i64 x0, .int .i64 x1, .int .i64 x2, .int .i64 x3, .int .i64 i, .slice A1 n1 c1, .slice A2 n2 c2] 186) = x := ⟨_, rfl⟩
 rw [hw0] at HBX hW d0 d1 d2 d3 d4 d5 d6 ⊢
 clear hw0 hB0
 go_wp2_with fail
 refine (HCL.out _ hW).mono ?_
 rintro e w1 ⟨rfl, hb1⟩
 have hW1 := bseq hW hb1
 clear d0 d1 d2 d3 d4 d5 d6
 go_wp2_with fail
 go_loopg [6] N (fun k q6 wr => SignR C w1 k q6 wr)
 case atStart => exact ⟨0, rfl, Nat.zero_le _, by rw [HN.out]; omega, Lib.hid (fun j hj => by omega), Below.refl _ _⟩
 case round =>
  obtain ⟨i', rfl, hi, hk, hok, hb⟩ := hrel
  rw [HN.out] at hi hk
  obtain ⟨⟨d0, d1, d2, d3⟩, d4, d5, d6⟩ := HBX.out _ (bseq hb1 hb)
  by_cases hgo : i' < N
  ·have q1 : ((i' : Int) < (N : Int)) = True := by simp; omega
   have hk1 := HKI.out _ (bseq hW1 hb) i' (by rw [HN.out]; exact hgo)
   rw [HKD.out i' (by rw [HN.out]; exact hgo)] at hk1
   obtain ⟨u, hu⟩ : ∃ u, min (kd C i') 1 = u := ⟨_, rfl⟩
   rw [hu] at hk1
   have HU := Lib.hid hu
   have HK1 := Lib.hid hk1
   clear hu hk1
   by_cases hv0 : u = 0
   ·subst hv0
    go_wp2_with fail
    refine (HK1.out).mono ?_
    rintro e w2 ⟨rfl, hb2⟩
    go_wp2_with fail
    go_roundg (N - (i' + 1))
    case measure => omega
    case rel =>
     refine ⟨i' + 1, by simp, by rw [HN.out]; omega, by rw [HN.out]; omega, Lib.hid (fun j hj => ?_), bseq hb hb2⟩
     rcases Nat.lt_or_ge j i' with h1 | h1
     ·exact hok.out j h1
     ·have : j = i' := by omega
      rw [this]
      exact HU.out
   ·have q2 : (u != 0) = true := by rw [bne_iff_ne]; exact hv0
    go_wp2_with fail
    refine (HK1.out).mono ?_
    rintro e w2 ⟨rfl, hb2⟩
    go_wp2_with fail
    go_ret
    exact ⟨i', rfl, ⟨hok.out, by rw [HN.out]; omega, fun _ => by rw [HU.out]; exact hv0⟩, bseq hW1 (bseq hb hb2)⟩
  ·have q1 : ((i' : Int) < (N : Int)) = False := by simp; omega
   have wn : IntKind.i64.wrap ((N : Int) - 1) = (N : Int) - 1 := IntWalk.i64_in _ (by omega)
   go_wp2_with fail
   refine (HCL.out _ (bseq hW1 hb)).mono ?_
   rintro e w2 ⟨rfl, hb2⟩
   go_wp2_with fail
   all_goals
    go_ret
    refine ⟨N - 1, ret_i (by omega), ⟨fun j hj => hok.out j (by omega), by rw [HN.out]; omega, fun h => by rw [HN.out] at h; omega⟩, bseq hW1 (bseq hb hb2)⟩
def SignAt (ds : List (Int × Int)) (i : Nat) (T : Int) : Prop := ∃ j : Nat, SignOk (cont ds i) j /\ T = (lineF ds i).from_ + (mkb (cont ds i) j : Int)
theorem SignAt.bd {ds : List (Int × Int)} {i : Nat} {T : Int} (hp : PosD ds) (hi : i <= totE ds) (h : SignAt ds i T) : 0 <= T /\ T <= (ds.length : Int) := by
 obtain ⟨j, hj, rfl⟩ := h
 have hbd := lineF_bd hp hi
 have hcl := cont_len hp hi
 have := mk_le (C := cont ds i) (k := j) (by have := hj.2.1; omega)
 omega
def SignPost (ds : List (Int × Int)) (i : Nat) (w : World) (e : Ending) (w' : World) : Prop := ∃ T : Int, SignAt ds i T /\ LandPost 2 T w e w'
theorem cell_far1 {w : World} {q p : Addr} {u v : Value} (h : q.block ≠ p.block) (hc : w.cell? q = some u) : (w.setCell p v).cell? q = some u := (World.cell?_of_block (w := w) (Below.heap_setCell w p v q.block h)).trans hc
def TsCut (L : Ln) (i : Int) (C : List Int) (w : World) (s : Value) (wx : World) : Prop :=
 ∃ b A1 n1 c1 A2 n2 c2, s = .pointer (some ⟨b, 0, none⟩) /\ Hid (Blk wx b 186 (rowV L i A1 n1 c1 A2 n2 c2)) /\ Hid (RowC wx Any L i C (rowV L i A1 n1 c1 A2 n2 c2)) /\ Hid (Below w.heap.size w wx)
theorem ts_one {w w4 : World} {L : Ln} {i : Int} {C : List Int} {D : Nat -> Prop} {A1 A2 : Option Addr} {n1 c1 n2 c2 : Nat} (h : RowC w4 D L i C (rowV L i A1 n1 c1 A2 n2 c2)) (hb : Below w.heap.size w w4) :
  TsCut L i C w (.pointer (some ⟨w4.heap.size, 0, none⟩)) (w4.alloc (.cells (rowV L i A1 n1 c1 A2 n2 c2) 186)) :=
 ⟨_, A1, n1, c1, A2, n2, c2, rfl, Lib.hid (Blk.new w4 _ _), Lib.hid ((h.more (fun _ _ _ => trivial)).below (balloc (Below.refl _ _))), Lib.hid (balloc hb)⟩
theorem ts_two {w w4 : World} {L L0 : Ln} {i i0 : Int} {C : List Int} {b B : Nat} {A1 A2 B1 B2 : Option Addr} {n1 c1 n2 c2 m1 d1 m2 d2 : Nat} (hbz : Blk w4 b 186 (rowV L0 i0 B1 m1 d1 B2 m2 d2)) (hB : b < B) (hw : w.heap.size <= b) (h : RowC w4 (fun k => B <= k) L i C (rowV L i A1 n1 c1 A2 n2 c2)) (hb : Below w.heap.size w w4) :
  TsCut L i C w (.pointer (some ⟨b, 0, none⟩)) (setR w4 b L.from_ L.to_ L.next L.brk i (.slice A1 n1 c1) (.slice A2 n2 c2)) := by
 have hfr := setR_fr w4 b L.from_ L.to_ L.next L.brk i (.slice A1 n1 c1) (.slice A2 n2 c2)
 refine ⟨b, A1, n1, c1, A2, n2, c2, rfl, Lib.hid (setR_own hbz), Lib.hid ((h.fr hfr (fun k hk _ e => ?_)).more (fun _ _ _ => trivial)), Lib.hid (bfr hb hfr (fun k hk => by omega))⟩
 omega
theorem toSign_any (D : Nat -> Prop) (m g : Nat) (enc : Int) (ds : List (Int × Int)) (s k : Int) (i : Nat) (w : World) (hm : MvAt w m g s k) (h : TextAt w D g enc ds) (hi : i < countF ds) :
    Calls Tryz.prog 175 #[.pointer (some ⟨m, 0, none⟩), .int .i64 (i : Int)] w (SignPost ds i w) := by
  have hp := h.pos
  have hlen := h.len
  have hct : countF ds <= totE ds + 1 := by unfold countF; split <;> omega
  have hte : totE ds <= 1073741824 := Nat.le_trans (cntE_le _ _) hlen
  have hit : i <= totE ds := by omega
  have hbd := lineF_bd hp hit
  have hcl := cont_len hp hit
  have hcn := fun (wy : World) (hy : Below w.heap.size w wy) => count_line D g enc ds wy (h.below hy)
  have hnr := fun (wy : World) (hy : Below w.heap.size w wy) => newRow_any D g enc ds i wy (h.below hy) hit
  have hat := fun (wy : World) (hy : Below w.heap.size w wy) (off kind : Int) => mat_any D m g enc ds s k off kind wy (hm.below hy) (h.below hy)
  have hml : m < w.heap.size := by
    obtain ⟨_, _, _, _, _, _, _, _, _, _, _, hbm⟩ := hm
    exact hbm.lt
  have hmc : ∀ wy, Below w.heap.size w wy -> wy.cell? ⟨m, 0, none⟩ = some (.pointer (some ⟨g, 0, none⟩)) := fun wy hy => (hm.below hy).facts.1.1
  unfold SignPost SignAt
  obtain ⟨M, hM⟩ : ∃ M, countF ds = M := ⟨_, rfl⟩
  obtain ⟨L, hL⟩ : ∃ L, lineF ds i = L := ⟨_, rfl⟩
  obtain ⟨C, hC⟩ : ∃ C, cont ds i = C := ⟨_, rfl⟩
  rw [hM] at hcn hi hct
  rw [hL] at hnr hbd hcl ⊢
  rw [hC] at hnr hcl ⊢
  obtain ⟨x0, x1, x2, x3⟩ := L
  dsimp only at hbd hcl ⊢
  have hl0 : 0 <= x0 /\ x0 <= 1073741824 := by omega
  have hc0 : C.length <= 1073741824 := by omega
  have hnr2 := fun (wy : World) (hy : Below w.heap.size w wy) => (hnr wy hy).mono (fun e w' hh => rowPost_flat hh)
  have HCN := Lib.hid hcn
  have HNR := Lib.hid hnr2
  have HAT := Lib.hid hat
  have HMC := Lib.hid hmc
  obtain ⟨K, hK⟩ : ∃ K, M - 1 = K := ⟨_, rfl⟩
  have wm : IntKind.i64.wrap ((M : Int) - 1) = (K : Int) := by rw [IntWalk.i64_in _ (by omega)]; omega
  have hiK : i <= K := by omega
  clear hcn hnr hnr2 hat hmc hm h hL hC hM hp hbd hcl hK hi hct
  have hw1 : Below w.heap.size w (w.alloc (.cells #[.int .i64 0, .int .i64 0, .int .i64 0] 175)) := balloc (Below.refl _ _)
  have hB := Blk.new w 175 #[.int .i64 0, .int .i64 0, .int .i64 0]
  go_enter Tryz.func175, Tryz.ntmps175
  go_upto_region 1 with fail
  obtain ⟨w1, hw10⟩ : ∃ x, w.alloc (.cells #[.int .i64 0, .int .i64 0, .int .i64 0] 175) = x := ⟨_, rfl⟩
  have hz1 : w.heap.size + 1 <= w1.heap.size := by rw [<- hw10, World.size_alloc]; exact Nat.le_refl _
  rw [hw10] at hw1 hB ⊢
  have HB := Lib.hid hB
  clear hB hw10
  have s0 : w1.drew.cell? ⟨m, 0, none⟩ = some (.pointer (some ⟨g, 0, none⟩)) := HMC.out _ (Below.drew hw1)
  go_cut [6] (fun s wx => TsCut ⟨x0, x1, x2, x3⟩ (i : Int) C w1 s wx)
  case first =>
    have p1 : ((K : Int) < (i : Int)) = False := by simp; omega
    have p3 : (K < i) = False := by simp; omega
    have p2 : ((i : Int) < 0) = False := by simp
    have sA : (w1.alloc (.cells #[.int .i64 0, .int .i64 0, .int .i64 0, .int .i64 0, .int .i64 0, .slice none 0 0, .slice none 0 0] 186)).drew.cell? ⟨m, 0, none⟩ = some (.pointer (some ⟨g, 0, none⟩)) := HMC.out _ (Below.drew (balloc hw1))
    go_region_held3 (fun w' => w'.cell? ⟨m, 0, none⟩ = some (.pointer (some ⟨g, 0, none⟩))) (first | (with_reducible assumption) | ((with_reducible refine cell_alloc1 _ ?_); with_reducible assumption) | ((repeat (with_reducible refine cell_far1 (by dsimp only; omega) ?_)); (first | (with_reducible assumption) | ((with_reducible refine cell_alloc1 _ ?_); with_reducible assumption)))) (first
      | (go_at_call 10; (with_reducible refine (HCN.out _ (Below.drew hw1)).mono ?_); rintro e w3 ⟨rfl, hb3⟩; have hx3 := bseq (Below.drew (Below.refl w1.heap.size w1)) hb3; have hz3 : w1.heap.size <= w3.heap.size := hx3.size; have s3 := cell_keep hb3 s0)
      | (go_at_call 10; (with_reducible refine (HCN.out _ (Below.drew (balloc hw1))).mono ?_); rintro e w3 ⟨rfl, hb3⟩; have hx3 := bseq (Below.drew (balloc (Below.refl w1.heap.size w1))) hb3; have s3 := cell_keep hb3 sA; have hz3 := (World.size_alloc w1 _) ▸ hb3.size; have hbz := (Blk.new w1 186 (rowV ⟨0, 0, 0, 0⟩ 0 none 0 0 none 0 0)).drew.below hb3)
      | (go_at_call 111; (with_reducible refine (HNR.out _ (bseq hw1 hx3)).mono ?_); rintro e w4 ⟨A1, n1, c1, A2, n2, c2, rfl, hrow, hb4⟩; have hx4 := bseq hx3 hb4; have s4 := cell_keep hb4 s3; have hbz4 := hbz.below hb4; obtain ⟨⟨g0, g1, g2, g3, g4, g5, g6⟩, u0, u1, u2, u3, u4, u5, u6⟩ := row_facts hbz4)
      | (go_at_call 111; (with_reducible refine (HNR.out _ (bseq hw1 hx3)).mono ?_); rintro e w4 ⟨A1, n1, c1, A2, n2, c2, rfl, hrow, hb4⟩; have hx4 := bseq hx3 hb4; have s4 := cell_keep hb4 s3)
      | (go_at_call 111; (with_reducible refine (HNR.out _ (balloc (bseq hw1 hx3))).mono ?_); rintro e w4 ⟨A1, n1, c1, A2, n2, c2, rfl, hrow, hb4⟩; have hx4 := bseq (balloc hx3) hb4; have s4 := cell_keep (bseq (balloc (Below.refl w3.heap.size w3)) hb4) s3; have hbz4 := (Blk.new w3 186 (rowV ⟨0, 0, 0, 0⟩ 0 none 0 0 none 0 0)).below hb4; obtain ⟨⟨g0, g1, g2, g3, g4, g5, g6⟩, u0, u1, u2, u3, u4, u5, u6⟩ := row_facts hbz4))
    · have hfin := ts_one hrow hx4
      unfold rowV at hfin
      dsimp only at hfin
      go_wp2_with fail
      go_meet
      with_reducible exact hfin
    · have hfin := ts_two hbz4 (by simp) hz3 hrow hx4
      unfold setR at hfin
      dsimp only at hfin
      go_wp2_with fail
      go_meet
      with_reducible exact hfin
    · have hfin := ts_two hbz4 (by simp) hz3 hrow hx4
      unfold setR at hfin
      dsimp only at hfin
      go_wp2_with fail
      go_meet
      with_reducible exact hfin
    · have hfin := ts_two hbz4 (by simp) hz3 hrow hx4
      unfold setR at hfin
      dsimp only at hfin
      go_wp2_with fail
      go_meet
      with_reducible exact hfin
    · have hfin := ts_two hbz4 hz3 (Nat.le_refl _) hrow hx4
      unfold setR at hfin
      dsimp only at hfin
      go_wp2_with fail
      go_meet
      with_reducible exact hfin
  case rest =>
    obtain ⟨b, A1, n1, c1, A2, n2, c2, rfl, hbk, hrow, hwc⟩ := hcut
    have hBc := HB.out.below hwc.out
    have hwcw := bseq hw1 hwc.out
    have hzc : w.heap.size <= wc.heap.size := hwcw.size
    have hS : ∀ w', Below wc.heap.size wc w' -> (w'.cell? ⟨b, 0, none⟩ = some (.int .i64 x0) /\ w'.cell? ⟨b, 1, none⟩ = some (.int .i64 x1) /\ w'.cell? ⟨b, 2, none⟩ = some (.int .i64 x2) /\ w'.cell? ⟨b, 3, none⟩ = some (.int .i64 x3) /\ w'.cell? ⟨b, 4, none⟩ = some (.int .i64 (i : Int)) /\
        w'.cell? ⟨b, 5, none⟩ = some (.slice A1 n1 c1) /\ w'.cell? ⟨b, 6, none⟩ = some (.slice A2 n2 c2)) := fun w' hb => (row_facts (hbk.out.below hb)).1
    have hsg := fun (w' : World) (hb : Below wc.heap.size wc w') => rsign_any Any ⟨x0, x1, x2, x3⟩ (i : Int) C _ w' (hrow.out.below hb) hc0
    have hpl := fun (w' : World) (hb : Below wc.heap.size wc w') (k : Nat) (hk : k <= nC C) => place_mk Any ⟨x0, x1, x2, x3⟩ (i : Int) C _ k w' (hrow.out.below hb) hl0 hc0 hk
    unfold rowV at hsg hpl
    dsimp only at hsg hpl
    have HS := Lib.hid hS
    have HSG := Lib.hid hsg
    have HPL := Lib.hid hpl
    have HBC := Lib.hid hBc
    clear hS hsg hpl hBc hbk hrow s0 HB HNR HCN
    go_upto_region 2 with fail
    refine wp_region_lin (fun w' => Below wc.heap.size wc w') (fun w' => Below wc.heap.size wc w') (fun k => k == 3 || k == 4 || k == 5 || k == 8) (fun k => k == 8) (fun k => k == 9) (by kernel_rfl) (by kernel_rfl) (Below.drew (Below.refl _ _)) (fun _ h => h) ?_
    repeat ((first
      | (refine wpL_read (v := ?_) (by rfl) (by rfl) (fun w6 hSw => ?_) ?_; rotate_left; (· (obtain ⟨y0, y1, y2, y3, y4, y5, y6⟩ := HS.out _ hSw; go_simp; try with_reducible rfl)))
      | (refine wpL_free (v := ?_) (by rfl) (fun w6 => ?_) ?_; rotate_left; (· (go_simp; try with_reducible rfl)))
      | refine wpL_not (by rfl) ?_); (try simp only [Act.put, pA, pB, pC]))
    refine wpL_call (f := ?_) (args := ?_) (fun v w' => (∃ j : Nat, v = .int .i64 (j : Int) /\ SignOk C j) /\ Below wc.heap.size wc w') (by rfl) (by rfl) (fun w6 hSw => ?_) (fun w6 hSw => ?_) (.inr (fun v6 w6 hT6 => ?_)) (fun v6 hv6 => ?_)
    rotate_left 2
    · (skip; go_simp; first | done | (constructor <;> with_reducible rfl) | with_reducible rfl)
    · (refine (HSG.out _ hSw).mono ?_; rintro e w' ⟨j, rfl, hj, hb⟩; exact ⟨_, rfl, ⟨j, rfl, hj⟩, bseq hSw hb⟩)
    · (exact hT6.2)
    obtain ⟨wz, ⟨j, rfl, hj⟩, -⟩ := hv6
    (try simp only [Act.put, pA, pB, pC])
    repeat ((first
      | (refine wpL_read (v := ?_) (by rfl) (by rfl) (fun w6 hSw => ?_) ?_; rotate_left; (· (obtain ⟨y0, y1, y2, y3, y4, y5, y6⟩ := HS.out _ hSw; go_simp; try with_reducible rfl)))
      | (refine wpL_free (v := ?_) (by rfl) (fun w6 => ?_) ?_; rotate_left; (· (go_simp; try with_reducible rfl)))
      | refine wpL_not (by rfl) ?_); (try simp only [Act.put, pA, pB, pC]))
    refine wpL_call (f := ?_) (args := ?_) (fun v w' => v = .int .i64 (x0 + (mkb C j : Int)) /\ Below wc.heap.size wc w') (by rfl) (by rfl) (fun w6 hSw => ?_) (fun w6 hSw => ?_) (.inr (fun v6 w6 hT6 => ?_)) (fun v6 hv6 => ?_)
    rotate_left 2
    · (skip; go_simp; first | done | (constructor <;> with_reducible rfl) | with_reducible rfl)
    · (refine (HPL.out _ hSw.2 j (by have := hj.2.1; omega)).mono ?_; rintro e w' ⟨rfl, hb⟩; exact ⟨_, rfl, rfl, bseq hSw.2 hb⟩)
    · (exact hT6.2)
    obtain ⟨wz, rfl, -⟩ := hv6
    (try simp only [Act.put, pA, pB, pC])
    repeat ((first
      | (refine wpL_read (v := ?_) (by rfl) (by rfl) (fun w6 hSw => ?_) ?_; rotate_left; (· (obtain ⟨y0, y1, y2, y3, y4, y5, y6⟩ := HS.out _ hSw; go_simp; try with_reducible rfl)))
      | (refine wpL_free (v := ?_) (by rfl) (fun w6 => ?_) ?_; rotate_left; (· (go_simp; try with_reducible rfl)))
      | refine wpL_not (by rfl) ?_); (try simp only [Act.put, pA, pB, pC]))
    refine wpL_call (f := ?_) (args := ?_) (fun v w' => (∃ jj : Nat, v = .tuple #[.agg #[.int .i64 (x0 + (mkb C j : Int)), .int .i64 2, .int .i64 (jj : Int)], .int .i64 0]) /\ Below wc.heap.size wc w') (by rfl) (by rfl) (fun w6 hSw => ?_) (fun w6 hSw => ?_) (.inr (fun v6 w6 hT6 => ?_)) (fun v6 hv6 => ?_)
    rotate_left 2
    · (skip; go_simp; first | done | (constructor <;> with_reducible rfl) | with_reducible rfl)
    · (refine (HAT.out _ (bseq hwcw hSw.2) _ _).mono ?_; rintro e w' ⟨⟨jj, rfl⟩, hb⟩; exact ⟨_, rfl, ⟨jj, rfl⟩, bseq hSw.2 hb⟩)
    · (exact hT6.2)
    obtain ⟨wz, ⟨jj, rfl⟩, -⟩ := hv6
    (try simp only [Act.put, pA, pB, pC])
    iterate 2 ((first
      | (refine wpL_read (v := ?_) (by rfl) (by rfl) (fun w6 hSw => ?_) ?_; rotate_left; (· (obtain ⟨y0, y1, y2, y3, y4, y5, y6⟩ := HS.out _ hSw; go_simp; try with_reducible rfl)))
      | (refine wpL_free (v := ?_) (by rfl) (fun w6 => ?_) ?_; rotate_left; (· (go_simp; try with_reducible rfl)))
      | refine wpL_not (by rfl) ?_); (try simp only [Act.put, pA, pB, pC]))
    refine wpL_heavy (fun _ w' => ∃ wx, Below wc.heap.size wc wx /\ w' = ((wx.setCell ⟨w.heap.size, 0, none⟩ (.int .i64 (x0 + (mkb C j : Int)))).setCell ⟨w.heap.size, 1, none⟩ (.int .i64 2)).setCell ⟨w.heap.size, 2, none⟩ (.int .i64 (jj : Int))) (by rfl) (by rfl) (fun w6 hSw => ?_) (.inl (by rfl)) (fun v6 hv6 => ?_)
    · (obtain ⟨l0, l1, l2, l3, l4, l5⟩ := land_facts (HBC.out.below hSw.2); go_simp; exact ⟨_, hSw.2, rfl⟩)
    skip
    (try simp only [Act.put, pA, pB, pC])
    repeat ((first
      | (refine wpL_read (v := ?_) (by rfl) (by rfl) (fun w6 hSw => ?_) ?_; rotate_left; (· (obtain ⟨y0, y1, y2, y3, y4, y5, y6⟩ := HS.out _ hSw; go_simp; try with_reducible rfl)))
      | (refine wpL_free (v := ?_) (by rfl) (fun w6 => ?_) ?_; rotate_left; (· (go_simp; try with_reducible rfl)))
      | refine wpL_not (by rfl) ?_); (try simp only [Act.put, pA, pB, pC]))
    refine wpL_nil ?_
    rintro w9 ⟨wx, hbx, rfl⟩
    go_wp2_with fail
    obtain ⟨e0, e1, e2⟩ := land_ret (x := x0 + (mkb C j : Int)) (y := 2) (z := (jj : Int)) (HBC.out.below hbx)
    exact bodyPost_ret (v := .tuple #[.agg #[.int .i64 (x0 + (mkb C j : Int)), .int .i64 2, .int .i64 (jj : Int)], .int .i64 0]) (by simp [results, Tryz.results175, go_sem, e0, e1, e2]) rfl ⟨_, ⟨j, hj, rfl⟩, ⟨jj, rfl⟩, below_set3 (bseq hwcw hbx) (Nat.le_refl _)⟩
end Go.Proofs.YtkocknfhdojmbaaGreat
