/-
  The walks of package motion, seventh part: newWalk. The walks of package motion, eighth part: walk.empty, walk.at.
-/
import Derived.Test.YtoafogibfokblaaGreatLRow6
set_option linter.unusedSimpArgs false
set_option linter.unusedVariables false
namespace Go.Proofs.YtoafogibfokblaaGreat
open Go.RowKit

/-- a walk over clusters, as it lies in memory -/
def wkV (g : Nat) (L : Ln) (i : Int) (A1 : Option Addr) (n1 c1 : Nat) (A2 : Option Addr) (n2 c2 : Nat) (j last : Int) : Array Value :=
  #[.pointer (some ⟨g, 0, none⟩), .int .i64 L.from_, .int .i64 L.to_, .int .i64 L.next, .int .i64 L.brk, .int .i64 i, .slice A1 n1 c1, .slice A2 n2 c2, .int .i64 j, .int .i64 last, .bool false]
def WkAt (w : World) (D : Nat → Prop) (b g : Nat) (L : Ln) (i : Int) (C : List Int) (j last : Int) : Prop :=
  ∃ A1 n1 c1 A2 n2 c2, Blk w b 141 (wkV g L i A1 n1 c1 A2 n2 c2 j last) ∧ RowC w D L i C (rowV L i A1 n1 c1 A2 n2 c2) ∧ ¬ D b
theorem row7_keep {w w1 : World} {b : Nat} {u0 u1 u2 u3 u4 u5 u6 : Value} (hb : Below w.heap.size w w1) (h : w.cell? ⟨b, 0, none⟩ = some u0 ∧ w.cell? ⟨b, 1, none⟩ = some u1 ∧ w.cell? ⟨b, 2, none⟩ = some u2 ∧ w.cell? ⟨b, 3, none⟩ = some u3 ∧ w.cell? ⟨b, 4, none⟩ = some u4 ∧ w.cell? ⟨b, 5, none⟩ = some u5 ∧ w.cell? ⟨b, 6, none⟩ = some u6) :
    w1.cell? ⟨b, 0, none⟩ = some u0 ∧ w1.cell? ⟨b, 1, none⟩ = some u1 ∧ w1.cell? ⟨b, 2, none⟩ = some u2 ∧ w1.cell? ⟨b, 3, none⟩ = some u3 ∧ w1.cell? ⟨b, 4, none⟩ = some u4 ∧ w1.cell? ⟨b, 5, none⟩ = some u5 ∧ w1.cell? ⟨b, 6, none⟩ = some u6 :=
  ⟨cell_keep hb h.1, cell_keep hb h.2.1, cell_keep hb h.2.2.1, cell_keep hb h.2.2.2.1, cell_keep hb h.2.2.2.2.1, cell_keep hb h.2.2.2.2.2.1, cell_keep hb h.2.2.2.2.2.2⟩
def NwPost (g : Nat) (L : Ln) (i : Int) (C : List Int) (r : Nat) (last : Int) (w : World) (e : Ending) (w' : World) : Prop :=
  ∃ b j : Nat, e = .returned (.pointer (some ⟨b, 0, none⟩)) ∧ InC C r j ∧ WkAt w' (fun k => w.heap.size ≤ k ∧ k < b) b g L i C j last ∧ w.heap.size ≤ b ∧ Below w.heap.size w w'
set_option maxRecDepth 100000 in
set_option maxHeartbeats 1000000 in
theorem newWalk_any (D : Nat → Prop) (g : Nat) (enc : Int) (ds : List (Int × Int)) (at_ : Int) (r : Nat) (w : World) (h : TextAt w D g enc ds) (hr : at_ = (lineF ds (rowIx ds at_ false)).from_ + (r : Int)) :
    Calls Tryz.prog 93 #[.pointer (some ⟨g, 0, none⟩), .int .i64 at_, .bool false, .bool false] w fun e w' =>
      NwPost g (lineF ds (rowIx ds at_ false)) (rowIx ds at_ false) (cont ds (rowIx ds at_ false)) r ((countF ds : Int) - 1) w e w' := by
  have hp := h.pos
  have hix := rowIx_le ds at_ false
  have hbd := lineF_bd hp hix
  have hcl := cont_len hp hix
  have hlen := h.len
  have hT1 : totE ds ≤ 1073741824 := Nat.le_trans (cntE_le _ _) hlen
  have hcp := @countF_pos ds
  have hra := rowAt_any D g enc ds at_ false w h
  have hcn := fun (wy : World) (hy : Below w.heap.size w wy) => count_line D g enc ds wy (h.below hy)
  obtain ⟨I, hI⟩ : ∃ I, rowIx ds at_ false = I := ⟨_, rfl⟩
  obtain ⟨K, hK⟩ : ∃ K, countF ds = K := ⟨_, rfl⟩
  rw [hI] at hbd hcl hra hr ⊢
  rw [hK] at hcp hcn ⊢
  obtain ⟨L, hL⟩ : ∃ L, lineF ds I = L := ⟨_, rfl⟩
  obtain ⟨C, hC⟩ : ∃ C, cont ds I = C := ⟨_, rfl⟩
  rw [hL] at hbd hcl hra hr ⊢
  rw [hC] at hcl hra ⊢
  have hl0 : 0 ≤ L.from_ ∧ L.from_ ≤ 1073741824 := by omega
  have hc0 : C.length ≤ 1073741824 := by omega
  have hwr : IntKind.i64.wrap ((K : Int) - 1) = (K : Int) - 1 := IntWalk.i64_in _ (by omega)
  have HRA := Lib.hid hra
  have HCN := Lib.hid hcn
  have HR := Lib.hid hr
  clear hra hcn hI hK hL hC hix hp hcl hr
  go_enter Tryz.func93, Tryz.ntmps93
  go_wp2_with fail
  refine (HRA.out).mono ?_
  rintro e w1 ⟨v, rfl, hrow, hb1⟩
  have hco := fun (wy : World) (hy : Below w1.heap.size w1 wy) => column_mk _ L I C v r wy (hrow.below hy) hl0 hc0
  rw [← HR.out] at hco
  obtain ⟨A1, n1, c1, A2, n2, c2, rfl⟩ := first_v hrow
  have HCO := Lib.hid hco
  have HROW := Lib.hid hrow
  clear hco hrow
  obtain ⟨x0, x1, x2, x3⟩ := L
  obtain ⟨g0, _⟩ := row_facts (Blk.new w1 109 (rowV ⟨x0, x1, x2, x3⟩ I A1 n1 c1 A2 n2 c2))
  unfold rowV at HCO g0 ⊢
  dsimp only at HCO g0 hbd hl0 ⊢
  go_upto_region 2 with fail
  go_cut [8] (fun s8 wx => NwPost g ⟨x0, x1, x2, x3⟩ I C r ((K : Int) - 1) w (.returned s8) wx)
  case first =>
    have s0 := row7_keep (Below.drew (Below.refl _ _)) g0
    have hw1 : Below w1.heap.size w1 (w1.alloc (.cells #[.int .i64 x0, .int .i64 x1, .int .i64 x2, .int .i64 x3, .int .i64 I, .slice A1 n1 c1, .slice A2 n2 c2] 109)) := balloc (Below.refl _ _)
    go_region_held3 (fun w' => w'.cell? ⟨w1.heap.size, 0, none⟩ = some (.int .i64 x0) ∧ w'.cell? ⟨w1.heap.size, 1, none⟩ = some (.int .i64 x1) ∧ w'.cell? ⟨w1.heap.size, 2, none⟩ = some (.int .i64 x2) ∧ w'.cell? ⟨w1.heap.size, 3, none⟩ = some (.int .i64 x3) ∧ w'.cell? ⟨w1.heap.size, 4, none⟩ = some (.int .i64 I) ∧ w'.cell? ⟨w1.heap.size, 5, none⟩ = some (.slice A1 n1 c1) ∧ w'.cell? ⟨w1.heap.size, 6, none⟩ = some (.slice A2 n2 c2)) (first | (with_reducible assumption) | ((with_reducible refine row7_keep (balloc (Below.refl _ _)) ?_); with_reducible assumption)) (first | (go_at_call 56; (with_reducible refine (HCO.out _ (Below.drew hw1)).mono ?_); rintro e w3 ⟨⟨j, rfl, hj⟩, hb3⟩; have hx := bseq hw1 (bdrew hb3); have s3 := row7_keep (bdrew hb3) g0) | (go_at_call 75; (with_reducible refine (HCN.out _ (Below.drew (bseq hb1 hw1))).mono ?_); rintro e w3 ⟨rfl, hb3⟩; have hx := bseq hw1 (bdrew hb3); have s3 := row7_keep (bdrew hb3) g0) | (go_at_call 56; (with_reducible refine (HCO.out _ hx).mono ?_); rintro e w4 ⟨⟨j, rfl, hj⟩, hb4⟩; have hxx := bseq hx hb4; have s4 := row7_keep hb4 s3) | (go_at_call 75; (with_reducible refine (HCN.out _ (bseq hb1 hx)).mono ?_); rintro e w4 ⟨rfl, hb4⟩; have hxx := bseq hx hb4; have s4 := row7_keep hb4 s3))
    all_goals
      go_wp2_with fail
      go_meet
      have hz := hb1.size
      have hz2 := hxx.size
      refine ⟨w4.heap.size, j, rfl, hj, ⟨A1, n1, c1, A2, n2, c2, Blk.new w4 _ _, ((HROW.out.below hxx).more (fun k hk hk2 => ⟨hk, hk2⟩)).below (balloc (Below.refl _ _)), fun hh => Nat.lt_irrefl _ hh.2⟩, by omega, balloc (bseq hb1 hxx)⟩
  case rest =>
    have HP := Lib.hid hcut
    clear hcut
    go_wp2_with fail
    go_ret
    exact HP.out
end Go.Proofs.YtoafogibfokblaaGreat
namespace Go.Proofs.YtoafogibfokblaaGreat
open Go.RowKit

theorem wk_facts {w : World} {b g : Nat} {L : Ln} {i : Int} {A1 A2 : Option Addr} {n1 c1 n2 c2 : Nat} {j last : Int} (h : Blk w b 141 (wkV g L i A1 n1 c1 A2 n2 c2 j last)) :
    (w.cell? ⟨b, 0, none⟩ = some (.pointer (some ⟨g, 0, none⟩)) ∧ w.cell? ⟨b, 1, none⟩ = some (.int .i64 L.from_) ∧ w.cell? ⟨b, 2, none⟩ = some (.int .i64 L.to_) ∧ w.cell? ⟨b, 3, none⟩ = some (.int .i64 L.next) ∧ w.cell? ⟨b, 4, none⟩ = some (.int .i64 L.brk) ∧ w.cell? ⟨b, 5, none⟩ = some (.int .i64 i) ∧
      w.cell? ⟨b, 6, none⟩ = some (.slice A1 n1 c1) ∧ w.cell? ⟨b, 7, none⟩ = some (.slice A2 n2 c2) ∧ w.cell? ⟨b, 8, none⟩ = some (.int .i64 j) ∧ w.cell? ⟨b, 9, none⟩ = some (.int .i64 last) ∧ w.cell? ⟨b, 10, none⟩ = some (.bool false)) ∧ w.frozen? ⟨b, 8, none⟩ = false :=
  ⟨⟨h.cell 0, h.cell 1, h.cell 2, h.cell 3, h.cell 4, h.cell 5, h.cell 6, h.cell 7, h.cell 8, h.cell 9, h.cell 10⟩, h.frozen 8⟩
theorem WkAt.below {w w' : World} {D : Nat → Prop} {b g : Nat} {L : Ln} {i : Int} {C : List Int} {j last : Int} (h : WkAt w D b g L i C j last) (hb : Below w.heap.size w w') : WkAt w' D b g L i C j last := by
  obtain ⟨A1, n1, c1, A2, n2, c2, h1, h2, h3⟩ := h
  exact ⟨A1, n1, c1, A2, n2, c2, h1.below hb, h2.below hb, h3⟩
set_option maxRecDepth 100000 in
theorem empty_any (D : Nat → Prop) (b g : Nat) (L : Ln) (i : Int) (C : List Int) (j last : Int) (w : World) (h : WkAt w D b g L i C j last) (hC : C.length ≤ 1073741824) :
    Calls Tryz.prog 95 #[.pointer (some ⟨b, 0, none⟩)] w fun e w' => e = .returned (.bool ((nC C : Int) == 0)) ∧ Below w.heap.size w w' := by
  obtain ⟨A1, n1, c1, A2, n2, c2, h1, h2, _⟩ := h
  have hcl := clusters_mk D L i C _ w h2 hC
  obtain ⟨x0, x1, x2, x3⟩ := L
  obtain ⟨⟨g0, g1, g2, g3, g4, g5, g6, g7, g8, g9, g10⟩, _⟩ := wk_facts h1
  obtain ⟨N, hN⟩ : ∃ N, nC C = N := ⟨_, rfl⟩
  rw [hN] at hcl ⊢
  unfold rowV at hcl
  dsimp only at hcl g1 g2 g3 g4
  have HC := Lib.hid hcl
  clear hcl hN
  go_enter Tryz.func95, Tryz.ntmps95
  go_wp2_with fail
  refine (HC.out).mono ?_
  rintro e w1 ⟨rfl, hb1⟩
  go_wp2_with fail
  go_ret
  exact ⟨rfl, hb1⟩
set_option maxRecDepth 100000 in
set_option maxHeartbeats 1000000 in
theorem at_any (D : Nat → Prop) (b g : Nat) (L : Ln) (i : Int) (C : List Int) (j : Nat) (last : Int) (w : World) (h : WkAt w D b g L i C j last) (hC : C.length ≤ 1073741824) (hL : 0 ≤ L.from_ ∧ L.from_ ≤ 1073741824) (hj : j ≤ nC C) :
    Calls Tryz.prog 80 #[.pointer (some ⟨b, 0, none⟩)] w fun e w' => e = .returned (.int .i64 (L.from_ + (mkb C j : Int))) ∧ Below w.heap.size w w' := by
  obtain ⟨A1, n1, c1, A2, n2, c2, h1, h2, _⟩ := h
  have hcl := fun (wy : World) (hy : Below w.heap.size w wy) => place_mk D L i C _ j wy (h2.below hy) hL hC hj
  obtain ⟨x0, x1, x2, x3⟩ := L
  obtain ⟨⟨g0, g1, g2, g3, g4, g5, g6, g7, g8, g9, g10⟩, _⟩ := wk_facts h1
  obtain ⟨N, hN⟩ : ∃ N, mkb C j = N := ⟨_, rfl⟩
  rw [hN] at hcl ⊢
  unfold rowV at hcl
  dsimp only at hcl g1 g2 g3 g4 ⊢
  have HC := Lib.hid hcl
  clear hcl hN
  go_enter Tryz.func80, Tryz.ntmps80
  go_upto_region 1 with fail
  go_cut [2] (fun s2 wx => s2 = .int .i64 (x0 + (N : Int)) ∧ Below w.heap.size w wx)
  case first =>
    refine (wpIn_wide (n := 3)).1 ?_
    refine wpIn_region_mid (fun _ => trivial) rfl (fun _ _ _ _ h => callsIn_wide.2 h) 8 _ (by kernel_rfl) (by kernel_rfl) rfl ?_
    simp only [List.take_succ_cons, List.take_zero]
    repeat still_step
    refine wpStill_nil ?_
    gi_wp2_with (first | (refine ⟨trivial, ?_⟩; gi_at_call 73; refine (callsIn_wide.2 (HC.out _ (Below.drew (Below.refl _ _)))).mono ?_; rintro e w5 ⟨rfl, hb5⟩))
    all_goals
      refine MidQ.go ?_
      simp only [List.drop_succ_cons, List.drop_zero]
      repeat still_step
      refine wpStill_nil ?_
      gi_wp2
      gi_meet
      exact ⟨rfl, bdrew hb5⟩
  case rest =>
    obtain ⟨rfl, hb⟩ := hcut
    go_wp2_with fail
    go_ret
    exact ⟨rfl, hb⟩
end Go.Proofs.YtoafogibfokblaaGreat
