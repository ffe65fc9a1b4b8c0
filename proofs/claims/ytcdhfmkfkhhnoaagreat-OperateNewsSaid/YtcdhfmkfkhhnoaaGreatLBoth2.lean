/-
  Both desks as they begin: marks, watched offsets, the books' numbers, the registers' names.
-/
import Derived.Test.YtcdhfmkfkhhnoaaGreatLBoth
import Derived.Test.YtcdhfmkfkhhnoaaGreatLSortNil
set_option linter.unusedSimpArgs false
set_option linter.unusedVariables false
namespace Go.Proofs.YtcdhfmkfkhhnoaaGreat
open Go.RowKit

theorem EmptyMap.len {w : World} {r : Nat} {t k e ty : TypeId} (h : EmptyMap w r) (ht : Tryz.prog.underlying t = some (.map k e)) : (Builtin.len_ #[t] ty #[.map (some r)]).run Tryz.prog w = .ok (.int .i64 0) w := by
  simp [Builtin.len_, run_underlying ht, MapKept.run_getObj_map (show w.heap[r]? = some (.map #[] 0) from h), goInt]
def MarksPost (w : World) (e : Ending) (w' : World) : Prop := ∃ A c, e = .returned (.slice A 0 c) ∧ Below w.heap.size w w'
set_option maxRecDepth 100000 in
set_option maxHeartbeats 1000000 in
theorem marks_new (w : World) (gb m : Nat) (cs : Array Value) (hb : Blk w gb 93 cs) (h4 : cs[4]? = some (.map (some m))) (hm : EmptyMap w m) :
    Calls Tryz.prog 23 #[.pointer (some ⟨gb, 0, none⟩)] w fun e w' => MarksPost w e w' := by
  have c4 := hb.cell 4
  rw [h4] at c4
  have kl := EmptyMap.len (ty := 3) hm Tryz.underlying90
  have hmk : ∀ w, (Instr.makeSlice 78 (.int .i64 0) (.int .i64 0)).run Tryz.prog w = .ok (.slice (some ⟨w.heap.size, 0, none⟩) 0 0) (w.alloc (.cells #[] 80)) := fun _ => by kernel_rfl
  have hx := EmptyMap.range (t := 90) (hm.alloc (.cells #[] 80)) Tryz.underlying90
  have hy := EmptyMap.next (hm.alloc (.cells #[] 80)) 0
  have c4' : (w.alloc (.cells #[] 80)).cell? ⟨gb, 4, none⟩ = some (.map (some m)) := cell_keep (balloc (Below.refl _ _)) c4
  simp only [World.size_alloc] at hx hy
  clear hb h4
  go_enter Tryz.func23, Tryz.ntmps23
  go_wp2_with fail
  refine wp_loop_rounds 1 ?_
  rw [rounds_succ]
  go_wp2_with fail
  refine (sortf_nil _ _ _ _).mono ?_
  rintro e w1 ⟨rfl, rfl⟩
  go_wp2_with fail
  go_ret
  exact ⟨_, _, rfl, balloc (balloc (Below.refl _ _))⟩
set_option maxRecDepth 100000 in
set_option maxHeartbeats 1000000 in
theorem names_new (w : World) (gk mk : Nat) (h : BankAt w gk mk) : Calls Tryz.prog 10 #[.pointer (some ⟨gk, 0, none⟩)] w fun e w' => e = .returned (.slice none 0 0) ∧ Below w.heap.size w w' := by
  have c0 := h.1.cell 0
  simp at c0
  have hx := EmptyMap.range (t := 85) h.2 Tryz.underlying85
  have hy := EmptyMap.next h.2 0
  go_enter Tryz.func10, Tryz.ntmps10
  go_wp2_with fail
  refine wp_loop_rounds 1 ?_
  rw [rounds_succ]
  go_wp2_with fail
  refine (sort_nil _ _ _).mono ?_
  rintro e w1 ⟨rfl, rfl⟩
  go_wp2_with fail
  go_ret
  exact ⟨rfl, balloc (Below.refl _ _)⟩
/-- what is to be seen of a new book, beside its text -/
def bookC (gt m : Nat) (depth : Int) : Array Value := #[.pointer (some ⟨gt, 0, none⟩), .int .i64 depth, .slice none 0 0, .slice none 0 0, .map (some m), .slice none 0 0, .pointer none, .int .i64 0, .int .i64 0, .int .i64 0]
theorem bookC_facts {w : World} {gb gt m : Nat} {depth : Int} (h : Blk w gb 93 (bookC gt m depth)) :
    w.cell? ⟨gb, 2, none⟩ = some (.slice none 0 0) ∧ w.cell? ⟨gb, 3, none⟩ = some (.slice none 0 0) ∧ w.cell? ⟨gb, 5, none⟩ = some (.slice none 0 0) ∧ w.cell? ⟨gb, 6, none⟩ = some (.pointer none) ∧ w.cell? ⟨gb, 7, none⟩ = some (.int .i64 0) ∧ w.cell? ⟨gb, 8, none⟩ = some (.int .i64 0) :=
  ⟨h.cell 2, h.cell 3, h.cell 5, h.cell 6, h.cell 7, h.cell 8⟩
theorem rbookC_facts {w : World} {gb gt : Nat} {enc lim depth : Int} {ld : Value} (h : Blk w gb 69 (rbookC enc lim depth gt ld)) :
    w.cell? ⟨gb, 5, none⟩ = some (.slice none 0 0) ∧ w.cell? ⟨gb, 6, none⟩ = some (.slice none 0 0) ∧ w.cell? ⟨gb, 7, none⟩ = some (.int .i64 0) ∧ w.cell? ⟨gb, 8, none⟩ = some (.slice none 0 0) ∧ w.cell? ⟨gb, 9, none⟩ = some (.slice none 0 0) ∧ w.cell? ⟨gb, 10, none⟩ = some (.bool false) ∧ w.cell? ⟨gb, 17, none⟩ = some (.int .i64 0) :=
  ⟨h.cell 5, h.cell 6, h.cell 7, h.cell 8, h.cell 9, h.cell 10, h.cell 17⟩
set_option maxRecDepth 100000 in
theorem watched_new (w : World) (gb gt m : Nat) (depth : Int) (h : Blk w gb 93 (bookC gt m depth)) : Calls Tryz.prog 24 #[.pointer (some ⟨gb, 0, none⟩)] w fun e w' => e = .returned (.slice none 0 0) ∧ w = w' := by
  obtain ⟨-, -, c5, -⟩ := bookC_facts h
  go_enter Tryz.func24, Tryz.ntmps24
  go_wp2_with fail
  refine (clone_nil _).mono ?_
  rintro e w1 ⟨rfl, rfl⟩
  go_wp2_with fail
  go_ret
  exact ⟨rfl, rfl⟩
set_option maxRecDepth 100000 in
theorem depth_new (w : World) (gb gt m : Nat) (depth : Int) (h : Blk w gb 93 (bookC gt m depth)) : Calls Tryz.prog 25 #[.pointer (some ⟨gb, 0, none⟩)] w fun e w' => e = .returned (.tuple #[.int .i64 0, .int .i64 0]) ∧ Below w.heap.size w w' := by
  obtain ⟨c2, c3, -⟩ := bookC_facts h
  go_enter Tryz.func25, Tryz.ntmps25
  go_wp2_with fail
  go_quiet (fail)
  go_wp2_with fail
  go_ret2
  exact ⟨rfl, below_drewN (Below.refl _ _) _⟩
set_option maxRecDepth 100000 in
theorem counts_new (w : World) (gb gt : Nat) (enc lim depth : Int) (ld : Value) (h : Blk w gb 69 (rbookC enc lim depth gt ld)) : Calls Tryz.prog 26 #[.pointer (some ⟨gb, 0, none⟩)] w fun e w' => e = .returned (.tuple #[.int .i64 0, .int .i64 0]) ∧ Below w.heap.size w w' := by
  obtain ⟨c5, c6, c7, -⟩ := rbookC_facts h
  go_enter Tryz.func26, Tryz.ntmps26
  go_wp2_with fail
  go_quiet (fail)
  go_wp2_with fail
  go_ret2
  exact ⟨rfl, below_drewN (Below.refl _ _) _⟩
set_option maxRecDepth 100000 in
theorem isopen_new (w : World) (gb gt m : Nat) (depth : Int) (h : Blk w gb 93 (bookC gt m depth)) : Calls Tryz.prog 27 #[.pointer (some ⟨gb, 0, none⟩)] w fun e w' => e = .returned (.bool false) ∧ w = w' := by
  obtain ⟨-, -, -, c6, -⟩ := bookC_facts h
  go_enter Tryz.func27, Tryz.ntmps27
  go_wp2_with fail
  go_ret
  exact ⟨rfl, rfl⟩
set_option maxRecDepth 100000 in
theorem dirty_new (w : World) (gb gt m : Nat) (depth : Int) (h : Blk w gb 93 (bookC gt m depth)) : Calls Tryz.prog 28 #[.pointer (some ⟨gb, 0, none⟩)] w fun e w' => e = .returned (.bool false) ∧ Below w.heap.size w w' := by
  have hf := fun (w' : World) (hb : Below w.heap.size w w') => bookC_facts (h.below hb)
  have HF := Lib.hid hf
  clear hf
  go_enter Tryz.func28, Tryz.ntmps28
  go_wp2_with fail
  refine wp_region_lin (fun w' => Below w.heap.size w w') (fun w' => Below w.heap.size w w') (fun _ => false) (fun _ => false) (by kernel_rfl) (by kernel_rfl) (Below.drew (Below.refl _ _)) (fun _ h => h) ?_
  repeat (first
    | (refine wpL_read (v := ?_) (by rfl) (fun w6 hSw => ?_) ?_; rotate_left; (· (obtain ⟨-, -, -, c6, c7, c8⟩ := HF.out _ hSw; go_simp; first | done | with_reducible rfl)); (try simp only [Act.put, List.setIfInBounds_toArray, List.set_cons_zero, List.set_cons_succ]))
    | (refine wpL_not (by rfl) ?_; (try simp only [Act.put, List.setIfInBounds_toArray, List.set_cons_zero, List.set_cons_succ])))
  refine wpL_nil ?_
  intro w1 hw1
  go_wp2_with fail
  go_ret
  exact ⟨rfl, hw1⟩
set_option maxRecDepth 100000 in
theorem rstate_new (w : World) (gb gt : Nat) (enc lim depth : Int) (ld : Value) (h : Blk w gb 69 (rbookC enc lim depth gt ld)) : Calls Tryz.prog 43 #[.pointer (some ⟨gb, 0, none⟩)] w fun e w' => e = .returned (.int .i64 0) ∧ w = w' := by
  obtain ⟨c5, -⟩ := rbookC_facts h
  go_enter Tryz.func43, Tryz.ntmps43
  go_wp2_with fail
  go_ret
  exact ⟨rfl, rfl⟩
set_option maxRecDepth 100000 in
theorem rdirty_new (w : World) (gb gt : Nat) (enc lim depth : Int) (ld : Value) (h : Blk w gb 69 (rbookC enc lim depth gt ld)) : Calls Tryz.prog 29 #[.pointer (some ⟨gb, 0, none⟩)] w fun e w' => e = .returned (.bool false) ∧ Below w.heap.size w w' := by
  have hf := fun (w' : World) (hb : Below w.heap.size w w') => rbookC_facts (h.below hb)
  have hs := fun (w' : World) (hb : Below w.heap.size w w') => rstate_new w' gb gt enc lim depth ld (h.below hb)
  have HF := Lib.hid hf
  have HS := Lib.hid hs
  clear hf hs
  obtain ⟨-, -, -, -, -, c10, -⟩ := HF.out w (Below.refl _ _)
  go_enter Tryz.func29, Tryz.ntmps29
  go_wp2_with fail
  refine wp_region_lin (fun w' => Below w.heap.size w w') (fun w' => Below w.heap.size w w') (fun k => k == 1) (fun _ => false) (by kernel_rfl) (by kernel_rfl) (Below.drew (Below.refl _ _)) (fun _ h => h) ?_
  repeat (first
    | (refine wpL_read (v := ?_) (by rfl) (fun w6 hSw => ?_) ?_; rotate_left; (· (obtain ⟨-, -, -, -, -, -, c17⟩ := HF.out _ hSw; go_simp; first | done | with_reducible rfl)); (try simp only [Act.put, List.setIfInBounds_toArray, List.set_cons_zero, List.set_cons_succ]))
    | (refine wpL_not (by rfl) ?_; (try simp only [Act.put, List.setIfInBounds_toArray, List.set_cons_zero, List.set_cons_succ])))
  refine wpL_call1 (f := ?_) (args := ?_) (v := .int .i64 0) (by rfl) (by rfl) (fun w6 hSw => ?_) (fun _ h => h) (fun w6 hSw => ?_) ?_
  rotate_left 2
  · (skip; go_simp; first | done | (constructor <;> with_reducible rfl) | with_reducible rfl)
  · (refine (HS.out _ hSw).mono ?_; rintro e w5 ⟨rfl, rfl⟩; exact ⟨rfl, hSw⟩)
  (try simp only [Act.put, List.setIfInBounds_toArray, List.set_cons_zero, List.set_cons_succ])
  repeat (first
    | (refine wpL_read (v := ?_) (by rfl) (fun w6 hSw => ?_) ?_; rotate_left; (· (obtain ⟨-, -, -, -, -, -, c17⟩ := HF.out _ hSw; go_simp; first | done | with_reducible rfl)); (try simp only [Act.put, List.setIfInBounds_toArray, List.set_cons_zero, List.set_cons_succ]))
    | (refine wpL_not (by rfl) ?_; (try simp only [Act.put, List.setIfInBounds_toArray, List.set_cons_zero, List.set_cons_succ])))
  refine wpL_nil ?_
  intro w1 hw1
  go_wp2_with fail
  go_ret
  exact ⟨rfl, hw1⟩

/-! ### marks, book -/
set_option maxRecDepth 100000 in
set_option maxHeartbeats 4000000 in
theorem bmarks_new (B : Nat) (enc lim native depth : Int) (l : List Int) (w : World) (gB gd gb gt m gk mk gd' gb' gt' gk' : Nat) (ld : Value) (h : BothNew B enc lim native depth l w gB gd gb gt m gk mk gd' gb' gt' gk' ld) :
    Calls Tryz.prog 8 #[.pointer (some ⟨gB, 0, none⟩)] w fun e w' => e = .returned (.bool true) ∧ Below w.heap.size w w' := by
  have fB := fun (w' : World) (hb : Below w.heap.size w w') => cells2 (h.both.below hb)
  have fD := fun (w' : World) (hb : Below w.heap.size w w') => cells10 (Blk.below h.D.desk hb)
  have fR := fun (w' : World) (hb : Below w.heap.size w w') => cells10 (Blk.below h.R.desk hb)
  have fk := fun (w' : World) (hb : Below w.heap.size w w') => rbookC_facts (h.R.book.below hb)
  have mk := marks_new w gb m _ h.D.book.1 rfl h.D.book.2
  have wt := fun (w' : World) (hb : Below w.heap.size w w') => watched_new w' gb gt m depth (h.D.book.1.below hb)
  have FB := Lib.hid fB
  have FD := Lib.hid fD
  have FR := Lib.hid fR
  have FK := Lib.hid fk
  have MK := Lib.hid mk
  have WT := Lib.hid wt
  clear fB fD fR fk mk wt h
  obtain ⟨b0, -⟩ := FB.out w (Below.refl _ _)
  obtain ⟨d0, -⟩ := FD.out w (Below.refl _ _)
  go_enter Tryz.func8, Tryz.ntmps8
  go_wp2_with fail
  refine (MK.out).mono ?_
  rintro e w1 ⟨A, c, rfl, hb1⟩
  clear b0 d0
  obtain ⟨-, b1⟩ := FB.out _ hb1
  obtain ⟨r0, -⟩ := FR.out _ hb1
  obtain ⟨-, -, -, k8, -⟩ := FK.out _ hb1
  go_wp2_with fail
  clear b1 r0 k8
  refine wp_region_lin (fun w' => Below w1.heap.size w1 w') (fun w' => Below w1.heap.size w1 w') (fun k => k == 13 || k == 24) (fun _ => false) (by kernel_rfl) (by kernel_rfl) (Below.drew (Below.refl _ _)) (fun _ h => h) ?_
  repeat (first
    | (refine wpL_read (v := ?_) (by rfl) (fun w6 hSw => ?_) ?_; rotate_left; (· (obtain ⟨b0, b1⟩ := FB.out _ (bseq hb1 hSw); obtain ⟨d0, -⟩ := FD.out _ (bseq hb1 hSw); obtain ⟨r0, -⟩ := FR.out _ (bseq hb1 hSw); obtain ⟨-, -, -, -, k9, -⟩ := FK.out _ (bseq hb1 hSw); go_simp; first | done | with_reducible rfl)); (try simp only [Act.put, List.setIfInBounds_toArray, List.set_cons_zero, List.set_cons_succ]))
    | (refine wpL_not (by rfl) ?_; (try simp only [Act.put, List.setIfInBounds_toArray, List.set_cons_zero, List.set_cons_succ])))
  refine wpL_call1 (f := ?_) (args := ?_) (v := .slice none 0 0) (by rfl) (by rfl) (fun w6 hSw => ?_) (fun _ h => h) (fun w6 hSw => ?_) ?_
  rotate_left 2
  · (skip; go_simp; first | done | (constructor <;> with_reducible rfl) | with_reducible rfl)
  · (refine (WT.out _ (bseq hb1 hSw)).mono ?_; rintro e w5 ⟨rfl, rfl⟩; exact ⟨rfl, hSw⟩)
  (try simp only [Act.put, List.setIfInBounds_toArray, List.set_cons_zero, List.set_cons_succ])
  repeat (first
    | (refine wpL_read (v := ?_) (by rfl) (fun w6 hSw => ?_) ?_; rotate_left; (· (obtain ⟨b0, b1⟩ := FB.out _ (bseq hb1 hSw); obtain ⟨d0, -⟩ := FD.out _ (bseq hb1 hSw); obtain ⟨r0, -⟩ := FR.out _ (bseq hb1 hSw); obtain ⟨-, -, -, -, k9, -⟩ := FK.out _ (bseq hb1 hSw); go_simp; first | done | with_reducible rfl)); (try simp only [Act.put, List.setIfInBounds_toArray, List.set_cons_zero, List.set_cons_succ]))
    | (refine wpL_not (by rfl) ?_; (try simp only [Act.put, List.setIfInBounds_toArray, List.set_cons_zero, List.set_cons_succ])))
  refine wpL_call1 (f := ?_) (args := ?_) (v := .bool true) (by rfl) (by rfl) (fun w6 hSw => ?_) (fun _ h => h) (fun w6 hSw => ?_) ?_
  rotate_left 2
  · (skip; go_simp; first | done | (constructor <;> with_reducible rfl) | with_reducible rfl)
  · (refine (same_nil _).mono ?_; rintro e w5 ⟨rfl, hb5⟩; exact ⟨rfl, bseq hSw hb5⟩)
  (try simp only [Act.put, List.setIfInBounds_toArray, List.set_cons_zero, List.set_cons_succ])
  repeat (first
    | (refine wpL_read (v := ?_) (by rfl) (fun w6 hSw => ?_) ?_; rotate_left; (· (obtain ⟨b0, b1⟩ := FB.out _ (bseq hb1 hSw); go_simp; first | done | with_reducible rfl)); (try simp only [Act.put, List.setIfInBounds_toArray, List.set_cons_zero, List.set_cons_succ]))
    | (refine wpL_not (by rfl) ?_; (try simp only [Act.put, List.setIfInBounds_toArray, List.set_cons_zero, List.set_cons_succ])))
  refine wpL_nil ?_
  intro w2 hw2
  have hb2 := bseq hb1 hw2
  clear hw2
  go_wp2_with fail
  refine wp_loop_rounds 1 ?_
  rw [rounds_succ]
  go_wp2_with fail
  go_ret
  exact ⟨rfl, hb2⟩
set_option maxRecDepth 100000 in
set_option maxHeartbeats 4000000 in
theorem bbook_new (B : Nat) (enc lim native depth : Int) (l : List Int) (w : World) (gB gd gb gt m gk mk gd' gb' gt' gk' : Nat) (ld : Value) (h : BothNew B enc lim native depth l w gB gd gb gt m gk mk gd' gb' gt' gk' ld) :
    Calls Tryz.prog 9 #[.pointer (some ⟨gB, 0, none⟩)] w fun e w' => e = .returned (.bool true) ∧ Below w.heap.size w w' := by
  have fB := fun (w' : World) (hb : Below w.heap.size w w') => cells2 (h.both.below hb)
  have fD := fun (w' : World) (hb : Below w.heap.size w w') => cells10 (Blk.below h.D.desk hb)
  have fR := fun (w' : World) (hb : Below w.heap.size w w') => cells10 (Blk.below h.R.desk hb)
  have fk := fun (w' : World) (hb : Below w.heap.size w w') => rbookC_facts (h.R.book.below hb)
  have dp := fun (w' : World) (hb : Below w.heap.size w w') => depth_new w' gb gt m depth (h.D.book.1.below hb)
  have cn := fun (w' : World) (hb : Below w.heap.size w w') => counts_new w' gb' gt' enc lim depth ld (h.R.book.below hb)
  have io := fun (w' : World) (hb : Below w.heap.size w w') => isopen_new w' gb gt m depth (h.D.book.1.below hb)
  have di := fun (w' : World) (hb : Below w.heap.size w w') => dirty_new w' gb gt m depth (h.D.book.1.below hb)
  have rd := fun (w' : World) (hb : Below w.heap.size w w') => rdirty_new w' gb' gt' enc lim depth ld (h.R.book.below hb)
  have FB := Lib.hid fB
  have FD := Lib.hid fD
  have FR := Lib.hid fR
  have FK := Lib.hid fk
  have DP := Lib.hid dp
  have CN := Lib.hid cn
  have IO := Lib.hid io
  have DI := Lib.hid di
  have RD := Lib.hid rd
  clear fB fD fR fk dp cn io di rd h
  obtain ⟨b0, -⟩ := FB.out w (Below.refl _ _)
  obtain ⟨d0, -⟩ := FD.out w (Below.refl _ _)
  go_enter Tryz.func9, Tryz.ntmps9
  go_wp2_with fail
  refine (DP.out _ (Below.refl _ _)).mono ?_
  rintro e w1 ⟨rfl, hb1⟩
  clear b0 d0
  obtain ⟨-, b1⟩ := FB.out _ hb1
  obtain ⟨r0, -⟩ := FR.out _ hb1
  go_wp2_with fail
  refine (CN.out _ hb1).mono ?_
  rintro e w2 ⟨rfl, hb2⟩
  have hb := bseq hb1 hb2
  clear b1 r0
  go_wp2_with fail
  refine wp_region_lin (fun w' => Below w2.heap.size w2 w') (fun w' => Below w2.heap.size w2 w') (fun k => k == 16 || k == 37 || k == 45) (fun _ => false) (by kernel_rfl) (by kernel_rfl) (Below.drew (Below.refl _ _)) (fun _ h => h) ?_
  repeat (first
    | (refine wpL_read (v := ?_) (by rfl) (fun w6 hSw => ?_) ?_; rotate_left; (· (obtain ⟨b0, b1⟩ := FB.out _ (bseq hb hSw); obtain ⟨d0, -⟩ := FD.out _ (bseq hb hSw); obtain ⟨r0, -⟩ := FR.out _ (bseq hb hSw); obtain ⟨-, -, -, -, -, k10, -⟩ := FK.out _ (bseq hb hSw); go_simp; first | done | with_reducible rfl)); (try simp only [Act.put, List.setIfInBounds_toArray, List.set_cons_zero, List.set_cons_succ]))
    | (refine wpL_not (by rfl) ?_; (try simp only [Act.put, List.setIfInBounds_toArray, List.set_cons_zero, List.set_cons_succ])))
  refine wpL_call1 (f := ?_) (args := ?_) (v := .bool false) (by rfl) (by rfl) (fun w6 hSw => ?_) (fun _ h => h) (fun w6 hSw => ?_) ?_
  rotate_left 2
  · (skip; go_simp; first | done | (constructor <;> with_reducible rfl) | with_reducible rfl)
  · (refine (IO.out _ (bseq hb hSw)).mono ?_; rintro e w5 ⟨rfl, rfl⟩; exact ⟨rfl, hSw⟩)
  (try simp only [Act.put, List.setIfInBounds_toArray, List.set_cons_zero, List.set_cons_succ])
  repeat (first
    | (refine wpL_read (v := ?_) (by rfl) (fun w6 hSw => ?_) ?_; rotate_left; (· (obtain ⟨b0, b1⟩ := FB.out _ (bseq hb hSw); obtain ⟨d0, -⟩ := FD.out _ (bseq hb hSw); obtain ⟨r0, -⟩ := FR.out _ (bseq hb hSw); obtain ⟨-, -, -, -, -, k10, -⟩ := FK.out _ (bseq hb hSw); go_simp; first | done | with_reducible rfl)); (try simp only [Act.put, List.setIfInBounds_toArray, List.set_cons_zero, List.set_cons_succ]))
    | (refine wpL_not (by rfl) ?_; (try simp only [Act.put, List.setIfInBounds_toArray, List.set_cons_zero, List.set_cons_succ])))
  refine wpL_call1 (f := ?_) (args := ?_) (v := .bool false) (by rfl) (by rfl) (fun w6 hSw => ?_) (fun _ h => h) (fun w6 hSw => ?_) ?_
  rotate_left 2
  · (skip; go_simp; first | done | (constructor <;> with_reducible rfl) | with_reducible rfl)
  · (refine (DI.out _ (bseq hb hSw)).mono ?_; rintro e w5 ⟨rfl, hb5⟩; exact ⟨rfl, bseq hSw hb5⟩)
  (try simp only [Act.put, List.setIfInBounds_toArray, List.set_cons_zero, List.set_cons_succ])
  repeat (first
    | (refine wpL_read (v := ?_) (by rfl) (fun w6 hSw => ?_) ?_; rotate_left; (· (obtain ⟨b0, b1⟩ := FB.out _ (bseq hb hSw); obtain ⟨d0, -⟩ := FD.out _ (bseq hb hSw); obtain ⟨r0, -⟩ := FR.out _ (bseq hb hSw); obtain ⟨-, -, -, -, -, k10, -⟩ := FK.out _ (bseq hb hSw); go_simp; first | done | with_reducible rfl)); (try simp only [Act.put, List.setIfInBounds_toArray, List.set_cons_zero, List.set_cons_succ]))
    | (refine wpL_not (by rfl) ?_; (try simp only [Act.put, List.setIfInBounds_toArray, List.set_cons_zero, List.set_cons_succ])))
  refine wpL_call1 (f := ?_) (args := ?_) (v := .bool false) (by rfl) (by rfl) (fun w6 hSw => ?_) (fun _ h => h) (fun w6 hSw => ?_) ?_
  rotate_left 2
  · (skip; go_simp; first | done | (constructor <;> with_reducible rfl) | with_reducible rfl)
  · (refine (RD.out _ (bseq hb hSw)).mono ?_; rintro e w5 ⟨rfl, hb5⟩; exact ⟨rfl, bseq hSw hb5⟩)
  (try simp only [Act.put, List.setIfInBounds_toArray, List.set_cons_zero, List.set_cons_succ])
  repeat (first
    | (refine wpL_read (v := ?_) (by rfl) (fun w6 hSw => ?_) ?_; rotate_left; (· (skip; go_simp; first | done | with_reducible rfl)); (try simp only [Act.put, List.setIfInBounds_toArray, List.set_cons_zero, List.set_cons_succ]))
    | (refine wpL_not (by rfl) ?_; (try simp only [Act.put, List.setIfInBounds_toArray, List.set_cons_zero, List.set_cons_succ])))
  refine wpL_nil ?_
  intro w3 hw3
  have hb3 := bseq hb hw3
  clear hw3
  go_wp2_with fail
  go_ret
  exact ⟨rfl, hb3⟩
end Go.Proofs.YtcdhfmkfkhhnoaaGreat
