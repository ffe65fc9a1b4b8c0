/-
  The walks of package motion, ninth part: walk.ends. The walks of package motion, tenth part: walk.next and walk.prev within a line, walk.begins, ending.
-/
import Derived.Test.YtoafogibfokblaaGreatLWk2
import Derived.Test.YtoafogibfokblaaGreatLSteady
set_option linter.unusedSimpArgs false
set_option linter.unusedVariables false
namespace Go.Proofs.YtoafogibfokblaaGreat
open Go.RowKit

theorem wordF_cases (a : Int) : wordF a = 0 ∨ wordF a = 1 ∨ wordF a = 2 := by
  unfold wordF
  repeat' split
  all_goals simp
theorem kd_cases (C : List Int) (k : Nat) : kd C k = 0 ∨ kd C k = 1 ∨ kd C k = 2 := by
  unfold kd
  exact wordF_cases _
/-- does a run of one kind end at this cluster? -/
noncomputable def endsF (C : List Int) (j : Nat) : Bool := !(kd C j == 0) && (((j : Int) + 1 == (nC C : Int)) || !(kd C (j + 1) == kd C j))
set_option maxRecDepth 100000 in
set_option maxHeartbeats 1000000 in
theorem ends_any (D : Nat → Prop) (b g : Nat) (L : Ln) (i : Int) (C : List Int) (j : Nat) (last : Int) (w : World) (h : WkAt w D b g L i C j last) (hC : C.length ≤ 1073741824) (hj : j < nC C) :
    Calls Tryz.prog 86 #[.pointer (some ⟨b, 0, none⟩)] w fun e w' => e = .returned (.bool (endsF C j)) ∧ Below w.heap.size w w' := by
  have hem := fun (wy : World) (hy : Below w.heap.size w wy) => empty_any D b g L i C j last wy (h.below hy) hC
  obtain ⟨A1, n1, c1, A2, n2, c2, h1, h2, _⟩ := h
  have hcl := fun (wy : World) (hy : Below w.heap.size w wy) => clusters_mk D L i C _ wy (h2.below hy) hC
  have hk1 := fun (wy : World) (hy : Below w.heap.size w wy) => kind_mk D L i C _ j wy (h2.below hy) hj
  have hk2 := fun (wy : World) (hy : Below w.heap.size w wy) (hh : j + 1 < nC C) => kind_mk D L i C _ (j + 1) wy (h2.below hy) hh
  have hnle := nC_le C
  obtain ⟨x0, x1, x2, x3⟩ := L
  have hF := fun (wy : World) (hy : Below w.heap.size w wy) => (wk_facts (h1.below hy)).1
  dsimp only at hF
  obtain ⟨V, hV⟩ : ∃ V, endsF C j = V := ⟨_, rfl⟩
  unfold endsF at hV
  rw [show endsF C j = V by unfold endsF; exact hV]
  have hcase := kd_cases C j
  obtain ⟨N, hN⟩ : ∃ N, nC C = N := ⟨_, rfl⟩
  obtain ⟨a, ha⟩ : ∃ a, kd C j = a := ⟨_, rfl⟩
  obtain ⟨a2, ha2⟩ : ∃ a, kd C (j + 1) = a := ⟨_, rfl⟩
  rw [hN] at hcl hj hem hk2 hV hnle
  rw [ha] at hk1 hV hcase
  rw [ha2] at hk2 hV
  unfold rowV at hcl hk1 hk2
  dsimp only at hcl hk1 hk2
  have he0 : ((N : Int) == 0) = false := by rw [beq_eq_false_iff_ne]; omega
  rw [he0] at hem
  have hsum : IntKind.i64.wrap ((j : Int) + 1) = (j : Int) + 1 := IntWalk.i64_in _ (by omega)
  have hjN : ((N : Int) ≤ (j : Int)) = False := by simp; omega
  have hcast : ((j + 1 : Nat) : Int) = (j : Int) + 1 := by omega
  rw [hcast] at hk2
  have HEM := Lib.hid hem
  have HCL := Lib.hid hcl
  have HK1 := Lib.hid hk1
  have HK2 := Lib.hid hk2
  have HV := Lib.hid hV
  have HF := Lib.hid hF
  have HA := Lib.hid hcase
  clear hem hcl hk1 hk2 hV hN ha ha2 he0 hcast h2 h1 hF hcase
  go_enter Tryz.func86, Tryz.ntmps86
  go_wp2_with fail
  refine (HEM.out _ (Below.refl _ _)).mono ?_
  rintro e w1 ⟨rfl, hb1⟩
  go_upto_region 3 with fail
  refine wp_region_steady (fun w' => Below w.heap.size w w') (by kernel_rfl) (by kernel_rfl) (Below.drew hb1) ?_
  repeat (first
    | (refine wpSt_read (v := ?_) (by rfl) (fun w6 hSw => ?_) ?_; rotate_left; (· (obtain ⟨g0, g1, g2, g3, g4, g5, g6, g7, g8, g9, g10⟩ := HF.out _ hSw; go_simp; first | done | with_reducible rfl)); (try simp only [Act.put, List.setIfInBounds_toArray, List.set_cons_zero, List.set_cons_succ]))
    | (refine wpSt_not (by rfl) ?_; (try simp only [Act.put, List.setIfInBounds_toArray, List.set_cons_zero, List.set_cons_succ]))
    | (refine wpSt_call (f := ?_) (args := ?_) (v := .int .i64 (N : Int)) (by rfl) (fun w6 hSw => ?_) (fun w6 hSw => ?_) ?_; rotate_left 2; (· (obtain ⟨g0, g1, g2, g3, g4, g5, g6, g7, g8, g9, g10⟩ := HF.out _ hSw; go_simp; first | done | (constructor <;> with_reducible rfl) | with_reducible rfl)); (· ((with_reducible refine (HCL.out _ hSw).mono ?_); rintro e w5 ⟨rfl, hb5⟩; exact ⟨rfl, bseq hSw hb5⟩)); (try simp only [Act.put, List.setIfInBounds_toArray, List.set_cons_zero, List.set_cons_succ])))
  refine wpSt_nil ?_
  intro w2 hb2
  go_upto_region 5 with fail
  refine wp_region_steady (fun w' => Below w.heap.size w w') (by kernel_rfl) (by kernel_rfl) (Below.drew hb2) ?_
  repeat (first
    | (refine wpSt_read (v := ?_) (by rfl) (fun w6 hSw => ?_) ?_; rotate_left; (· (obtain ⟨g0, g1, g2, g3, g4, g5, g6, g7, g8, g9, g10⟩ := HF.out _ hSw; go_simp; first | done | with_reducible rfl)); (try simp only [Act.put, List.setIfInBounds_toArray, List.set_cons_zero, List.set_cons_succ]))
    | (refine wpSt_not (by rfl) ?_; (try simp only [Act.put, List.setIfInBounds_toArray, List.set_cons_zero, List.set_cons_succ]))
    | (refine wpSt_call (f := ?_) (args := ?_) (v := .int .i64 a) (by rfl) (fun w6 hSw => ?_) (fun w6 hSw => ?_) ?_; rotate_left 2; (· (obtain ⟨g0, g1, g2, g3, g4, g5, g6, g7, g8, g9, g10⟩ := HF.out _ hSw; go_simp; first | done | (constructor <;> with_reducible rfl) | with_reducible rfl)); (· ((with_reducible refine (HK1.out _ hSw).mono ?_); rintro e w5 ⟨rfl, hb5⟩; exact ⟨rfl, bseq hSw hb5⟩)); (try simp only [Act.put, List.setIfInBounds_toArray, List.set_cons_zero, List.set_cons_succ])))
  refine wpSt_nil ?_
  intro w3 hb3
  go_upto_region 6 with fail
  have hfin : ∀ (u : Bool) (wx : World), u = V → Below w.heap.size w wx → (Ending.returned (.bool u) = .returned (.bool V) ∧ Below w.heap.size w wx) := fun u wx hu hx => ⟨ret_b hu, hx⟩
  rcases HA.out with rfl | hh
  · skip
    refine wp_region_steady (fun w' => Below w.heap.size w w') (by kernel_rfl) (by kernel_rfl) (Below.drew hb3) ?_
    repeat (first
      | (refine wpSt_read (v := ?_) (by rfl) (fun w6 hSw => ?_) ?_; rotate_left; (· (obtain ⟨g0, g1, g2, g3, g4, g5, g6, g7, g8, g9, g10⟩ := HF.out _ hSw; go_simp; first | done | with_reducible rfl)); (try simp only [Act.put, List.setIfInBounds_toArray, List.set_cons_zero, List.set_cons_succ]))
      | (refine wpSt_not (by rfl) ?_; (try simp only [Act.put, List.setIfInBounds_toArray, List.set_cons_zero, List.set_cons_succ])))
    refine wpSt_nil ?_
    intro w4 hb4
    go_wp2_with fail
    go_ret
    exact hfin _ _ (by rw [← HV.out]; rfl) hb4
  · by_cases hjn : j + 1 = N
    · subst hjn
      rcases hh with rfl | rfl
      all_goals
        refine wp_region_steady (fun w' => Below w.heap.size w w') (by kernel_rfl) (by kernel_rfl) (Below.drew hb3) ?_
        repeat (first
          | (refine wpSt_read (v := ?_) (by rfl) (fun w6 hSw => ?_) ?_; rotate_left; (· (obtain ⟨g0, g1, g2, g3, g4, g5, g6, g7, g8, g9, g10⟩ := HF.out _ hSw; go_simp; first | done | with_reducible rfl)); (try simp only [Act.put, List.setIfInBounds_toArray, List.set_cons_zero, List.set_cons_succ]))
          | (refine wpSt_not (by rfl) ?_; (try simp only [Act.put, List.setIfInBounds_toArray, List.set_cons_zero, List.set_cons_succ]))
          | (refine wpSt_call (f := ?_) (args := ?_) (v := .int .i64 ((j + 1 : Nat) : Int)) (by rfl) (fun w6 hSw => ?_) (fun w6 hSw => ?_) ?_; rotate_left 2; (· (obtain ⟨g0, g1, g2, g3, g4, g5, g6, g7, g8, g9, g10⟩ := HF.out _ hSw; go_simp; first | done | (constructor <;> with_reducible rfl) | with_reducible rfl)); (· ((with_reducible refine (HCL.out _ hSw).mono ?_); rintro e w5 ⟨rfl, hb5⟩; exact ⟨rfl, bseq hSw hb5⟩)); (try simp only [Act.put, List.setIfInBounds_toArray, List.set_cons_zero, List.set_cons_succ])))
        refine wpSt_nil ?_
        intro w4 hb4
        go_wp2_with fail
        go_ret
        exact hfin _ _ (by rw [← HV.out]; simp) hb4
    · have e3 : ((j : Int) + 1 == (N : Int)) = false := by rw [beq_eq_false_iff_ne]; omega
      have e4 : ((j : Int) + 1 = (N : Int)) = False := by simp; omega
      rcases hh with rfl | rfl
      all_goals
        refine wp_region_steady (fun w' => Below w.heap.size w w') (by kernel_rfl) (by kernel_rfl) (Below.drew hb3) ?_
        repeat (first
          | (refine wpSt_read (v := ?_) (by rfl) (fun w6 hSw => ?_) ?_; rotate_left; (· (obtain ⟨g0, g1, g2, g3, g4, g5, g6, g7, g8, g9, g10⟩ := HF.out _ hSw; go_simp; first | done | with_reducible rfl)); (try simp only [Act.put, List.setIfInBounds_toArray, List.set_cons_zero, List.set_cons_succ]))
          | (refine wpSt_not (by rfl) ?_; (try simp only [Act.put, List.setIfInBounds_toArray, List.set_cons_zero, List.set_cons_succ]))
          | (refine wpSt_call (f := ?_) (args := ?_) (v := .int .i64 (N : Int)) (by rfl) (fun w6 hSw => ?_) (fun w6 hSw => ?_) ?_; rotate_left 2; (· (obtain ⟨g0, g1, g2, g3, g4, g5, g6, g7, g8, g9, g10⟩ := HF.out _ hSw; go_simp; first | done | (constructor <;> with_reducible rfl) | with_reducible rfl)); (· ((with_reducible refine (HCL.out _ hSw).mono ?_); rintro e w5 ⟨rfl, hb5⟩; exact ⟨rfl, bseq hSw hb5⟩)); (try simp only [Act.put, List.setIfInBounds_toArray, List.set_cons_zero, List.set_cons_succ]))
          | (refine wpSt_call (f := ?_) (args := ?_) (v := .int .i64 a2) (by rfl) (fun w6 hSw => ?_) (fun w6 hSw => ?_) ?_; rotate_left 2; (· (obtain ⟨g0, g1, g2, g3, g4, g5, g6, g7, g8, g9, g10⟩ := HF.out _ hSw; go_simp; first | done | (constructor <;> with_reducible rfl) | with_reducible rfl)); (· ((with_reducible refine (HK2.out _ hSw (by omega)).mono ?_); rintro e w5 ⟨rfl, hb5⟩; exact ⟨rfl, bseq hSw hb5⟩)); (try simp only [Act.put, List.setIfInBounds_toArray, List.set_cons_zero, List.set_cons_succ])))
        refine wpSt_nil ?_
        intro w4 hb4
        go_wp2_with fail
        go_ret
        exact hfin _ _ (by rw [← HV.out]; simp [e3, bne]) hb4
end Go.Proofs.YtoafogibfokblaaGreat
namespace Go.Proofs.YtoafogibfokblaaGreat
open Go.RowKit

theorem RowC.fr {w w' : World} {D S : Nat → Prop} {L : Ln} {i : Int} {C : List Int} {v : Array Value} (h : RowC w D L i C v) (hb : Fr S w w') (hn : ∀ b, D b → b < w.heap.size → ¬ S b) : RowC w' D L i C v := by
  obtain ⟨A1, n1, c1, A2, n2, c2, e, h1, h2, h3, h4⟩ := h
  exact ⟨A1, n1, c1, A2, n2, c2, e, Reads.fr h1 hb hn, h2, Reads.fr h3 hb hn, h4⟩
/-- a walk's column is written -/
theorem WkAt.move {w wx : World} {D : Nat → Prop} {b g : Nat} {L : Ln} {i : Int} {A1 : Option Addr} {n1 c1 : Nat} {A2 : Option Addr} {n2 c2 : Nat} {C : List Int} {j last j' j'' : Int}
    (h1 : Blk w b 141 (wkV g L i A1 n1 c1 A2 n2 c2 j last)) (h2 : RowC w D L i C (rowV L i A1 n1 c1 A2 n2 c2)) (h3 : ¬ D b) (hx : Below w.heap.size w wx) (hj : j' = j'') :
    WkAt (wx.setCell ⟨b, 8, none⟩ (.int .i64 j')) D b g L i C j'' last ∧ Fr (· = b) w (wx.setCell ⟨b, 8, none⟩ (.int .i64 j')) := by
  subst hj
  refine ⟨⟨A1, n1, c1, A2, n2, c2, (((h1.below hx).set_ 8 _).eq_ ?_), (h2.below hx).fr ((Fr.refl (· = b) wx).set1 8 _) (fun k hk _ e => h3 (e ▸ hk)), h3⟩, (Fr.of_below hx).set1 8 _⟩
  rfl
set_option maxRecDepth 100000 in
set_option maxHeartbeats 1000000 in
theorem wnext_any (D : Nat → Prop) (b g : Nat) (L : Ln) (i : Int) (C : List Int) (j : Nat) (last : Int) (w : World) (h : WkAt w D b g L i C j last) (hC : C.length ≤ 1073741824) (hj : j + 1 < nC C) :
    Calls Tryz.prog 94 #[.pointer (some ⟨b, 0, none⟩)] w fun e w' => e = .returned (.bool true) ∧ WkAt w' D b g L i C ((j + 1 : Nat) : Int) last ∧ Fr (· = b) w w' := by
  obtain ⟨A1, n1, c1, A2, n2, c2, h1, h2, h3⟩ := h
  have hcl := fun (wy : World) (hy : Below w.heap.size w wy) => clusters_mk D L i C _ wy (h2.below hy) hC
  have hnle := nC_le C
  have hmv := fun (wx : World) (hx : Below w.heap.size w wx) => WkAt.move (j' := (j : Int) + 1) (j'' := ((j + 1 : Nat) : Int)) h1 h2 h3 hx (by omega)
  obtain ⟨x0, x1, x2, x3⟩ := L
  have hF := fun (wy : World) (hy : Below w.heap.size w wy) => wk_facts (h1.below hy)
  dsimp only at hF
  obtain ⟨N, hN⟩ : ∃ N, nC C = N := ⟨_, rfl⟩
  rw [hN] at hcl hj hnle
  unfold rowV at hcl
  dsimp only at hcl
  have hsum : IntKind.i64.wrap ((j : Int) + 1) = (j : Int) + 1 := IntWalk.i64_in _ (by omega)
  have hjN : ((j : Int) + 1 < (N : Int)) = True := by simp; omega
  have HCL := Lib.hid hcl
  have HF := Lib.hid hF
  have HM := Lib.hid hmv
  clear hcl hN h1 h2 h3 hF hmv
  go_enter Tryz.func94, Tryz.ntmps94
  go_upto_region 1 with fail
  refine wp_region_steady (fun w' => Below w.heap.size w w') (by kernel_rfl) (by kernel_rfl) (Below.drew (Below.refl _ _)) ?_
  repeat (first
    | (refine wpSt_read (v := ?_) (by rfl) (fun w6 hSw => ?_) ?_; rotate_left; (· (obtain ⟨⟨g0, g1, g2, g3, g4, g5, g6, g7, g8, g9, g10⟩, _⟩ := HF.out _ hSw; go_simp; first | done | with_reducible rfl)); (try simp only [Act.put, List.setIfInBounds_toArray, List.set_cons_zero, List.set_cons_succ]))
    | (refine wpSt_not (by rfl) ?_; (try simp only [Act.put, List.setIfInBounds_toArray, List.set_cons_zero, List.set_cons_succ]))
    | (refine wpSt_call (f := ?_) (args := ?_) (v := .int .i64 (N : Int)) (by rfl) (fun w6 hSw => ?_) (fun w6 hSw => ?_) ?_; rotate_left 2; (· (obtain ⟨⟨g0, g1, g2, g3, g4, g5, g6, g7, g8, g9, g10⟩, _⟩ := HF.out _ hSw; go_simp; first | done | (constructor <;> with_reducible rfl) | with_reducible rfl)); (· ((with_reducible refine (HCL.out _ hSw).mono ?_); rintro e w5 ⟨rfl, hb5⟩; exact ⟨rfl, bseq hSw hb5⟩)); (try simp only [Act.put, List.setIfInBounds_toArray, List.set_cons_zero, List.set_cons_succ])))
  refine wpSt_nil ?_
  intro w2 hb2
  obtain ⟨⟨g0, g1, g2, g3, g4, g5, g6, g7, g8, g9, g10⟩, gf⟩ := HF.out _ hb2
  go_wp2_with fail
  go_ret
  exact ⟨rfl, HM.out _ hb2⟩
set_option maxRecDepth 100000 in
set_option maxHeartbeats 1000000 in
theorem wprev_any (D : Nat → Prop) (b g : Nat) (L : Ln) (i : Int) (C : List Int) (j : Nat) (last : Int) (w : World) (h : WkAt w D b g L i C ((j + 1 : Nat) : Int) last) (hj : j + 1 ≤ 1073741824) :
    Calls Tryz.prog 98 #[.pointer (some ⟨b, 0, none⟩)] w fun e w' => e = .returned (.bool true) ∧ WkAt w' D b g L i C (j : Int) last ∧ Fr (· = b) w w' := by
  obtain ⟨A1, n1, c1, A2, n2, c2, h1, h2, h3⟩ := h
  have hmv := WkAt.move (j' := (j : Int)) (j'' := (j : Int)) h1 h2 h3 (Below.refl _ w) rfl
  obtain ⟨⟨g0, g1, g2, g3, g4, g5, g6, g7, g8, g9, g10⟩, gf⟩ := wk_facts h1
  obtain ⟨y, hy⟩ : ∃ y : Int, ((j + 1 : Nat) : Int) = y := ⟨_, rfl⟩
  rw [hy] at g8
  have hsum : IntKind.i64.wrap (y - 1) = (j : Int) := by rw [show y - 1 = (j : Int) by omega]; exact IntWalk.i64_in _ (by omega)
  have hyp : (0 < y) = True := by simp; omega
  have HM := Lib.hid hmv
  clear hmv h1 h2 h3 hy
  go_enter Tryz.func98, Tryz.ntmps98
  go_wp2_with fail
  go_ret
  exact ⟨rfl, HM.out⟩
/-- does a run of one kind begin at this cluster? -/
noncomputable def beginsF (C : List Int) (j : Nat) : Bool := !(kd C j == 0) && (((j : Int) == 0) || !(kd C (j - 1) == kd C j))
set_option maxRecDepth 100000 in
set_option maxHeartbeats 1000000 in
theorem begins_any (D : Nat → Prop) (b g : Nat) (L : Ln) (i : Int) (C : List Int) (j : Nat) (last : Int) (w : World) (h : WkAt w D b g L i C j last) (hC : C.length ≤ 1073741824) (hj : j < nC C) :
    Calls Tryz.prog 79 #[.pointer (some ⟨b, 0, none⟩)] w fun e w' => e = .returned (.bool (beginsF C j)) ∧ Below w.heap.size w w' := by
  have hem := fun (wy : World) (hy : Below w.heap.size w wy) => empty_any D b g L i C j last wy (h.below hy) hC
  obtain ⟨A1, n1, c1, A2, n2, c2, h1, h2, _⟩ := h
  have hk1 := fun (wy : World) (hy : Below w.heap.size w wy) => kind_mk D L i C _ j wy (h2.below hy) hj
  have hk2 := fun (wy : World) (hy : Below w.heap.size w wy) => kind_mk D L i C _ (j - 1) wy (h2.below hy) (by omega)
  have hnle := nC_le C
  obtain ⟨x0, x1, x2, x3⟩ := L
  have hF := fun (wy : World) (hy : Below w.heap.size w wy) => (wk_facts (h1.below hy)).1
  dsimp only at hF
  obtain ⟨V, hV⟩ : ∃ V, beginsF C j = V := ⟨_, rfl⟩
  unfold beginsF at hV
  rw [show beginsF C j = V by unfold beginsF; exact hV]
  have hcase := kd_cases C j
  obtain ⟨N, hN⟩ : ∃ N, nC C = N := ⟨_, rfl⟩
  obtain ⟨a, ha⟩ : ∃ a, kd C j = a := ⟨_, rfl⟩
  obtain ⟨a2, ha2⟩ : ∃ a, kd C (j - 1) = a := ⟨_, rfl⟩
  rw [hN] at hj hem hnle
  rw [ha] at hk1 hV hcase
  rw [ha2] at hk2 hV
  unfold rowV at hk1 hk2
  dsimp only at hk1 hk2
  have he0 : ((N : Int) == 0) = false := by rw [beq_eq_false_iff_ne]; omega
  rw [he0] at hem
  have HEM := Lib.hid hem
  have HK1 := Lib.hid hk1
  have HK2 := Lib.hid hk2
  have HV := Lib.hid hV
  have HF := Lib.hid hF
  have HA := Lib.hid hcase
  clear hem hk1 hk2 hV hN ha ha2 he0 h2 h1 hF hcase
  go_enter Tryz.func79, Tryz.ntmps79
  go_wp2_with fail
  refine (HEM.out _ (Below.refl _ _)).mono ?_
  rintro e w1 ⟨rfl, hb1⟩
  go_upto_region 3 with fail
  refine wp_region_steady (fun w' => Below w.heap.size w w') (by kernel_rfl) (by kernel_rfl) (Below.drew hb1) ?_
  repeat (first
    | (refine wpSt_read (v := ?_) (by rfl) (fun w6 hSw => ?_) ?_; rotate_left; (· (obtain ⟨g0, g1, g2, g3, g4, g5, g6, g7, g8, g9, g10⟩ := HF.out _ hSw; go_simp; first | done | with_reducible rfl)); (try simp only [Act.put, List.setIfInBounds_toArray, List.set_cons_zero, List.set_cons_succ]))
    | (refine wpSt_not (by rfl) ?_; (try simp only [Act.put, List.setIfInBounds_toArray, List.set_cons_zero, List.set_cons_succ]))
    | (refine wpSt_call (f := ?_) (args := ?_) (v := .int .i64 a) (by rfl) (fun w6 hSw => ?_) (fun w6 hSw => ?_) ?_; rotate_left 2; (· (obtain ⟨g0, g1, g2, g3, g4, g5, g6, g7, g8, g9, g10⟩ := HF.out _ hSw; go_simp; first | done | (constructor <;> with_reducible rfl) | with_reducible rfl)); (· ((with_reducible refine (HK1.out _ hSw).mono ?_); rintro e w5 ⟨rfl, hb5⟩; exact ⟨rfl, bseq hSw hb5⟩)); (try simp only [Act.put, List.setIfInBounds_toArray, List.set_cons_zero, List.set_cons_succ])))
  refine wpSt_nil ?_
  intro w3 hb3
  go_upto_region 4 with fail
  have hfin : ∀ (u : Bool) (wx : World), u = V → Below w.heap.size w wx → (Ending.returned (.bool u) = .returned (.bool V) ∧ Below w.heap.size w wx) := fun u wx hu hx => ⟨ret_b hu, hx⟩
  rcases HA.out with rfl | hh
  · skip
    refine wp_region_steady (fun w' => Below w.heap.size w w') (by kernel_rfl) (by kernel_rfl) (Below.drew hb3) ?_
    repeat (first
      | (refine wpSt_read (v := ?_) (by rfl) (fun w6 hSw => ?_) ?_; rotate_left; (· (obtain ⟨g0, g1, g2, g3, g4, g5, g6, g7, g8, g9, g10⟩ := HF.out _ hSw; go_simp; first | done | with_reducible rfl)); (try simp only [Act.put, List.setIfInBounds_toArray, List.set_cons_zero, List.set_cons_succ]))
      | (refine wpSt_not (by rfl) ?_; (try simp only [Act.put, List.setIfInBounds_toArray, List.set_cons_zero, List.set_cons_succ])))
    refine wpSt_nil ?_
    intro w4 hb4
    go_wp2_with fail
    go_ret
    exact hfin _ _ (by rw [← HV.out]; rfl) hb4
  · rcases Nat.eq_zero_or_pos j with hj0 | hj0
    · subst hj0
      rcases hh with rfl | rfl
      all_goals
        refine wp_region_steady (fun w' => Below w.heap.size w w') (by kernel_rfl) (by kernel_rfl) (Below.drew hb3) ?_
        repeat (first
          | (refine wpSt_read (v := ?_) (by rfl) (fun w6 hSw => ?_) ?_; rotate_left; (· (obtain ⟨g0, g1, g2, g3, g4, g5, g6, g7, g8, g9, g10⟩ := HF.out _ hSw; go_simp; first | done | with_reducible rfl)); (try simp only [Act.put, List.setIfInBounds_toArray, List.set_cons_zero, List.set_cons_succ]))
          | (refine wpSt_not (by rfl) ?_; (try simp only [Act.put, List.setIfInBounds_toArray, List.set_cons_zero, List.set_cons_succ])))
        refine wpSt_nil ?_
        intro w4 hb4
        go_wp2_with fail
        go_ret
        exact hfin _ _ (by rw [← HV.out]; rfl) hb4
    · have e3 : ((j : Int) == 0) = false := by rw [beq_eq_false_iff_ne]; omega
      have e4 : ((j : Int) = 0) = False := by simp; omega
      have hsum : IntKind.i64.wrap ((j : Int) - 1) = ((j - 1 : Nat) : Int) := by rw [show (j : Int) - 1 = ((j - 1 : Nat) : Int) by omega]; exact IntWalk.i64_in _ (by omega)
      rcases hh with rfl | rfl
      all_goals
        refine wp_region_steady (fun w' => Below w.heap.size w w') (by kernel_rfl) (by kernel_rfl) (Below.drew hb3) ?_
        repeat (first
          | (refine wpSt_read (v := ?_) (by rfl) (fun w6 hSw => ?_) ?_; rotate_left; (· (obtain ⟨g0, g1, g2, g3, g4, g5, g6, g7, g8, g9, g10⟩ := HF.out _ hSw; go_simp; first | done | with_reducible rfl)); (try simp only [Act.put, List.setIfInBounds_toArray, List.set_cons_zero, List.set_cons_succ]))
          | (refine wpSt_not (by rfl) ?_; (try simp only [Act.put, List.setIfInBounds_toArray, List.set_cons_zero, List.set_cons_succ]))
          | (refine wpSt_call (f := ?_) (args := ?_) (v := .int .i64 a2) (by rfl) (fun w6 hSw => ?_) (fun w6 hSw => ?_) ?_; rotate_left 2; (· (obtain ⟨g0, g1, g2, g3, g4, g5, g6, g7, g8, g9, g10⟩ := HF.out _ hSw; go_simp; first | done | (constructor <;> with_reducible rfl) | with_reducible rfl)); (· ((with_reducible refine (HK2.out _ hSw).mono ?_); rintro e w5 ⟨rfl, hb5⟩; exact ⟨rfl, bseq hSw hb5⟩)); (try simp only [Act.put, List.setIfInBounds_toArray, List.set_cons_zero, List.set_cons_succ])))
        refine wpSt_nil ?_
        intro w4 hb4
        go_wp2_with fail
        go_ret
        exact hfin _ _ (by rw [← HV.out]; simp [e3, bne]) hb4
set_option maxRecDepth 100000 in
set_option maxHeartbeats 1000000 in
theorem ending_any (D : Nat → Prop) (b g : Nat) (L : Ln) (i : Int) (C : List Int) (j : Nat) (last : Int) (w : World) (h : WkAt w D b g L i C j last) (hC : C.length ≤ 1073741824) (hj : j < nC C) :
    Calls Tryz.prog 85 #[.pointer (some ⟨b, 0, none⟩)] w fun e w' => e = .returned (.bool (endsF C j)) ∧ Below w.heap.size w w' := by
  have hem := empty_any D b g L i C j last w h hC
  have hen := fun (wy : World) (hy : Below w.heap.size w wy) => ends_any D b g L i C j last wy (h.below hy) hC hj
  have he0 : ((nC C : Int) == 0) = false := by rw [beq_eq_false_iff_ne]; omega
  rw [he0] at hem
  obtain ⟨V, hV⟩ : ∃ V, endsF C j = V := ⟨_, rfl⟩
  rw [hV] at hen ⊢
  have HEM := Lib.hid hem
  have HEN := Lib.hid hen
  clear hem hen hV he0
  go_enter Tryz.func85, Tryz.ntmps85
  go_wp2_with fail
  refine (HEM.out).mono ?_
  rintro e w1 ⟨rfl, hb1⟩
  go_wp2_with fail
  refine (HEN.out _ hb1).mono ?_
  rintro e w2 ⟨rfl, hb2⟩
  go_wp2_with fail
  go_ret
  exact ⟨rfl, bseq hb1 hb2⟩
end Go.Proofs.YtoafogibfokblaaGreat
