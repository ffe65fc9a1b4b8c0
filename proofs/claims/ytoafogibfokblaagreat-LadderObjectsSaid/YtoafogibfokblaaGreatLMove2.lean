/-
  The movers of package motion, first part: a mover in memory, mover.walk, forward, backward, Column, mover.at. The movers of package motion, second part: rest, back.
-/
import Derived.Test.YtoafogibfokblaaGreatLWk4
set_option linter.unusedSimpArgs false
set_option linter.unusedVariables false
namespace Go.Proofs.YtoafogibfokblaaGreat
open Go.RowKit

/-- a mover, as it lies in memory -/
def mvV (g : Nat) (s c k : Int) (cn : Bool) (arg goal : Int) (r0 r1 r2 r3 r4 r5 r6 : Value) : Array Value :=
  #[.pointer (some ⟨g, 0, none⟩), .int .i64 s, .int .i64 c, .int .i64 k, .bool cn, .int .i64 arg, .int .i64 goal, .bool false, .bool false, r0, r1, r2, r3, r4, r5, r6]
def MvAt (w : World) (m g : Nat) (s k : Int) : Prop := ∃ c cn arg goal r0 r1 r2 r3 r4 r5 r6, Blk w m 112 (mvV g s c k cn arg goal r0 r1 r2 r3 r4 r5 r6)
theorem MvAt.facts {w : World} {m g : Nat} {s k : Int} (h : MvAt w m g s k) :
    (w.cell? ⟨m, 0, none⟩ = some (.pointer (some ⟨g, 0, none⟩)) ∧ w.cell? ⟨m, 1, none⟩ = some (.int .i64 s) ∧ w.cell? ⟨m, 3, none⟩ = some (.int .i64 k) ∧ w.cell? ⟨m, 7, none⟩ = some (.bool false) ∧ w.cell? ⟨m, 8, none⟩ = some (.bool false)) ∧ w.frozen? ⟨m, 3, none⟩ = false := by
  obtain ⟨c, cn, arg, goal, r0, r1, r2, r3, r4, r5, r6, hb⟩ := h
  exact ⟨⟨hb.cell 0, hb.cell 1, hb.cell 3, hb.cell 7, hb.cell 8⟩, hb.frozen 3⟩
theorem MvAt.below {w w' : World} {m g : Nat} {s k : Int} (h : MvAt w m g s k) (hb : Below w.heap.size w w') : MvAt w' m g s k := by
  obtain ⟨c, cn, arg, goal, r0, r1, r2, r3, r4, r5, r6, h⟩ := h
  exact ⟨c, cn, arg, goal, r0, r1, r2, r3, r4, r5, r6, h.below hb⟩
theorem MvAt.fr {w w' : World} {m g b : Nat} {s k : Int} (h : MvAt w m g s k) (hb : Fr (· = b) w w') (hm : m ≠ b) : MvAt w' m g s k := by
  obtain ⟨c, cn, arg, goal, r0, r1, r2, r3, r4, r5, r6, h⟩ := h
  exact ⟨c, cn, arg, goal, r0, r1, r2, r3, r4, r5, r6, h.fr hb hm⟩
theorem MvAt.setK {w : World} {m g : Nat} {s k : Int} (h : MvAt w m g s k) (k' : Int) : MvAt (w.setCell ⟨m, 3, none⟩ (.int .i64 k')) m g s k' := by
  obtain ⟨c, cn, arg, goal, r0, r1, r2, r3, r4, r5, r6, h⟩ := h
  exact ⟨c, cn, arg, goal, r0, r1, r2, r3, r4, r5, r6, h.set_ 3 _⟩
theorem NwPost.of_drew {g : Nat} {L : Ln} {i : Int} {C : List Int} {r : Nat} {last : Int} {w w' : World} {e : Ending} (h : NwPost g L i C r last w.drew e w') : NwPost g L i C r last w e w' := by
  obtain ⟨b, j, e, h1, h2, h3, h4⟩ := h
  exact ⟨b, j, e, h1, h2, h3, bdrew h4⟩
set_option maxRecDepth 100000 in
set_option maxHeartbeats 1000000 in
theorem mwalk_any (D : Nat → Prop) (m g : Nat) (enc : Int) (ds : List (Int × Int)) (s k : Int) (r : Nat) (w : World) (hm : MvAt w m g s k) (h : TextAt w D g enc ds) (hr : s = (lineF ds (rowIx ds s false)).from_ + (r : Int)) :
    Calls Tryz.prog 77 #[.pointer (some ⟨m, 0, none⟩)] w fun e w' => NwPost g (lineF ds (rowIx ds s false)) (rowIx ds s false) (cont ds (rowIx ds s false)) r ((countF ds : Int) - 1) w e w' := by
  obtain ⟨⟨g0, g1, g2, g3, g4⟩, _⟩ := hm.facts
  have hnw := newWalk_any D g enc ds s r w.drew (h.below (Below.drew (Below.refl _ _))) hr
  obtain ⟨Q, hQ⟩ : ∃ Q : Ending → World → Prop, (fun e w' => NwPost g (lineF ds (rowIx ds s false)) (rowIx ds s false) (cont ds (rowIx ds s false)) r ((countF ds : Int) - 1) w e w') = Q := ⟨_, rfl⟩
  have hnw2 := hnw.mono (fun e w' hh => (show Q e w' from hQ ▸ (NwPost.of_drew hh)))
  have hQ2 : ∀ e w', Q e w' → ∃ v, e = .returned v := by
    intro e w' hh
    rw [← hQ] at hh
    obtain ⟨b, j, e, _⟩ := hh
    exact ⟨_, e⟩
  rw [hQ]
  have HNW := Lib.hid hnw2
  have HQ := Lib.hid hQ2
  clear hnw hnw2 hQ hQ2 hr hm h
  go_enter Tryz.func77, Tryz.ntmps77
  go_upto_region 1 with fail
  go_cut [2] (fun s2 wx => Q (.returned s2) wx)
  case first =>
    go_still_tail 16, (by kernel_rfl)
    go_wp2_with (first | (go_at_call 93; refine (HNW.out).mono ?_; rintro e w5 h5; obtain ⟨v, rfl⟩ := HQ.out _ _ h5))
    go_meet
    exact h5
  case rest =>
    have HP := Lib.hid hcut
    clear hcut
    go_wp2_with fail
    exact HP.out
def FwR (D : Nat → Prop) (b g : Nat) (L : Ln) (i : Int) (C : List Int) (j0 r : Nat) (last : Int) (w0 : World) (kk : Nat) (q7 : Value) (wr : World) : Prop :=
  ∃ j : Nat, WkAt wr D b g L i C j last ∧ Fr (· = b) w0 wr ∧ j0 ≤ j ∧ ((q7 = .int .i64 1 ∧ j < r ∧ r - j ≤ kk) ∨ (q7 = .int .i64 0 ∧ j = r))
def enF : Value := .func (.func 85) #[] #[]
def beF : Value := .func (.func 79) #[] #[]
set_option maxRecDepth 100000 in
set_option maxHeartbeats 1000000 in
theorem forward0_any (m g b : Nat) (s : Int) (w : World) (hm : MvAt w m g s 0) :
    Calls Tryz.prog 78 #[.pointer (some ⟨m, 0, none⟩), .pointer (some ⟨b, 0, none⟩), enF] w fun e w' => e = .returned (.bool true) ∧ w = w' := by
  obtain ⟨⟨g0, g1, g2, g3, g4⟩, _⟩ := hm.facts
  clear hm
  unfold enF
  go_enter Tryz.func78, Tryz.ntmps78
  go_wp2_with fail
  go_loopg [7] 0 (fun k q wr => q = .int .i64 0 ∧ wr = w)
  case atStart => exact ⟨rfl, rfl⟩
  case round =>
    obtain ⟨rfl, rfl⟩ := hrel
    go_wp2_with fail
    go_ret
    exact ⟨rfl, rfl⟩
set_option maxRecDepth 100000 in
set_option maxHeartbeats 1000000 in
theorem forward_any (D : Nat → Prop) (m g' b g : Nat) (s : Int) (L : Ln) (i : Int) (C : List Int) (j r : Nat) (last : Int) (w : World) (hm : MvAt w m g' s 1) (h : WkAt w D b g L i C j last) (hC : C.length ≤ 1073741824) (hj : j < r) (hr : r < nC C)
    (hno : ∀ q, j < q → q < r → endsF C q = false) (hyes : endsF C r = true) :
    Calls Tryz.prog 78 #[.pointer (some ⟨m, 0, none⟩), .pointer (some ⟨b, 0, none⟩), enF] w fun e w' => e = .returned (.bool true) ∧ WkAt w' D b g L i C (r : Int) last ∧ Fr (· = b) w w' := by
  obtain ⟨⟨g0, g1, g2, g3, g4⟩, _⟩ := hm.facts
  have hnle := nC_le C
  have HNO := Lib.hid hno
  have HY := Lib.hid hyes
  have HH := Lib.hid h
  clear hm hno hyes h
  unfold enF
  go_enter Tryz.func78, Tryz.ntmps78
  go_wp2_with fail
  go_loopg [7] r (fun k q wr => FwR D b g L i C j r last w k q wr)
  case atStart => exact ⟨j, HH.out, Fr.refl _ _, Nat.le_refl _, .inl ⟨rfl, hj, by omega⟩⟩
  case round =>
    obtain ⟨q, hw, hf, hjq, (⟨rfl, hqr, hk⟩ | ⟨rfl, rfl⟩)⟩ := hrel
    · have hnx := wnext_any D b g L i C q last wr hw hC (by omega)
      have HNX := Lib.hid hnx
      clear hnx hw
      have he := Tryz.call85
      go_wp2_with (first | (go_at_call 94; refine (HNX.out).mono ?_; rintro e w1 ⟨rfl, hk1, hf1⟩; have hen := ending_any D b g L i C (q + 1) last w1 hk1 hC (by omega); have HK1 := Lib.hid hk1; clear hk1; obtain ⟨V, hV⟩ : ∃ V, endsF C (q + 1) = V := ⟨_, rfl⟩; rw [hV] at hen; have HEN := Lib.hid hen; have HV := Lib.hid hV; clear hen hV) | (go_at_call 85; refine (HEN.out).mono ?_; rintro e w2 ⟨rfl, hb2⟩))
      · rename_i hv
        have hqe : q + 1 = r := by
          rcases Nat.lt_or_ge (q + 1) r with h1 | h1
          · have h2 := HNO.out (q + 1) (by omega) h1
            rw [HV.out, hv] at h2
            cases h2
          · omega
        go_roundg 0
        case measure => omega
        case rel => exact ⟨q + 1, HK1.out.below hb2, (hf.trans hf1).bel hb2, by omega, .inr ⟨rfl, hqe⟩⟩
      · rename_i hv
        have hqe : q + 1 < r := by
          rcases Nat.lt_or_ge (q + 1) r with h1 | h1
          · exact h1
          · have h2 := HY.out
            rw [← show q + 1 = r by omega, HV.out, hv] at h2
            cases h2
        go_roundg (r - (q + 1))
        case measure => omega
        case rel => exact ⟨q + 1, HK1.out.below hb2, (hf.trans hf1).bel hb2, by omega, .inl ⟨rfl, hqe, by omega⟩⟩
    · go_wp2_with fail
      go_ret
      exact ⟨rfl, hw, hf⟩
def BwR (D : Nat → Prop) (b g : Nat) (L : Ln) (i : Int) (C : List Int) (j0 r : Nat) (last : Int) (w0 : World) (kk : Nat) (q7 : Value) (wr : World) : Prop :=
  ∃ j : Nat, WkAt wr D b g L i C j last ∧ Fr (· = b) w0 wr ∧ j ≤ j0 ∧ ((q7 = .int .i64 1 ∧ r < j ∧ j - r ≤ kk) ∨ (q7 = .int .i64 0 ∧ j = r))
set_option maxRecDepth 100000 in
set_option maxHeartbeats 1000000 in
theorem backward_any (D : Nat → Prop) (m g' b g : Nat) (s : Int) (L : Ln) (i : Int) (C : List Int) (j r : Nat) (last : Int) (w : World) (hm : MvAt w m g' s 1) (h : WkAt w D b g L i C j last) (hC : C.length ≤ 1073741824) (hj : r < j) (hr : j < nC C)
    (hno : ∀ q, r < q → q < j → beginsF C q = false) (hyes : beginsF C r = true) :
    Calls Tryz.prog 84 #[.pointer (some ⟨m, 0, none⟩), .pointer (some ⟨b, 0, none⟩), beF] w fun e w' => e = .returned (.bool true) ∧ WkAt w' D b g L i C (r : Int) last ∧ Fr (· = b) w w' := by
  obtain ⟨⟨g0, g1, g2, g3, g4⟩, _⟩ := hm.facts
  have hnle := nC_le C
  have HNO := Lib.hid hno
  have HY := Lib.hid hyes
  have HH := Lib.hid h
  clear hm hno hyes h
  unfold beF
  go_enter Tryz.func84, Tryz.ntmps84
  go_wp2_with fail
  go_loopg [7] j (fun k q wr => BwR D b g L i C j r last w k q wr)
  case atStart => exact ⟨j, HH.out, Fr.refl _ _, Nat.le_refl _, .inl ⟨rfl, hj, by omega⟩⟩
  case round =>
    obtain ⟨q, hw, hf, hjq, (⟨rfl, hqr, hk⟩ | ⟨rfl, rfl⟩)⟩ := hrel
    · obtain ⟨p, rfl⟩ : ∃ p, q = p + 1 := ⟨q - 1, by omega⟩
      have hnx := wprev_any D b g L i C p last wr hw (by omega)
      have HNX := Lib.hid hnx
      clear hnx hw
      have he := Tryz.call79
      go_wp2_with (first | (go_at_call 98; refine (HNX.out).mono ?_; rintro e w1 ⟨rfl, hk1, hf1⟩; have hen := begins_any D b g L i C p last w1 hk1 hC (by omega); have HK1 := Lib.hid hk1; clear hk1; obtain ⟨V, hV⟩ : ∃ V, beginsF C p = V := ⟨_, rfl⟩; rw [hV] at hen; have HEN := Lib.hid hen; have HV := Lib.hid hV; clear hen hV) | (go_at_call 79; refine (HEN.out).mono ?_; rintro e w2 ⟨rfl, hb2⟩))
      · rename_i hv
        have hqe : p = r := by
          rcases Nat.lt_or_ge r p with h1 | h1
          · have h2 := HNO.out p h1 (by omega)
            rw [HV.out, hv] at h2
            cases h2
          · omega
        go_roundg 0
        case measure => omega
        case rel => exact ⟨p, HK1.out.below hb2, (hf.trans hf1).bel hb2, by omega, .inr ⟨rfl, hqe⟩⟩
      · rename_i hv
        have hqe : r < p := by
          rcases Nat.lt_or_ge r p with h1 | h1
          · exact h1
          · have h2 := HY.out
            rw [← show p = r by omega, HV.out, hv] at h2
            cases h2
        go_roundg (p - r)
        case measure => omega
        case rel => exact ⟨p, HK1.out.below hb2, (hf.trans hf1).bel hb2, by omega, .inl ⟨rfl, hqe, by omega⟩⟩
    · go_wp2_with fail
      go_ret
      exact ⟨rfl, hw, hf⟩
set_option maxRecDepth 100000 in
set_option maxHeartbeats 1000000 in
theorem Column_any (D : Nat → Prop) (g : Nat) (enc : Int) (ds : List (Int × Int)) (at_ : Int) (w : World) (h : TextAt w D g enc ds) :
    Calls Tryz.prog 97 #[.pointer (some ⟨g, 0, none⟩), .int .i64 at_] w fun e w' => (∃ j : Nat, e = .returned (.int .i64 (j : Int))) ∧ Below w.heap.size w w' := by
  have hp := h.pos
  have hix := rowIx_le ds at_ true
  have hbd := lineF_bd hp hix
  have hcl := cont_len hp hix
  have hlen := h.len
  have hra := rowAt_any D g enc ds at_ true w h
  obtain ⟨I, hI⟩ : ∃ I, rowIx ds at_ true = I := ⟨_, rfl⟩
  rw [hI] at hbd hcl hra
  obtain ⟨L, hL⟩ : ∃ L, lineF ds I = L := ⟨_, rfl⟩
  obtain ⟨C, hC⟩ : ∃ C, cont ds I = C := ⟨_, rfl⟩
  rw [hL] at hbd hcl hra
  rw [hC] at hcl hra
  have hl0 : 0 ≤ L.from_ ∧ L.from_ ≤ 1073741824 := by omega
  have hc0 : C.length ≤ 1073741824 := by omega
  have hn := nC_le C
  have HRA := Lib.hid hra
  clear hra hI hL hC hix hp hcl hbd h
  go_enter Tryz.func97, Tryz.ntmps97
  go_wp2_with fail
  refine (HRA.out).mono ?_
  rintro e w1 ⟨v, rfl, hrow, hb1⟩
  have hco := fun (wy : World) (hy : Below w1.heap.size w1 wy) => column_any _ L I C v at_ wy (hrow.below hy) hl0 (by rw [allB_len]; omega) (allB_bd hc0) allB_sorted
  obtain ⟨A1, n1, c1, A2, n2, c2, rfl⟩ := first_v hrow
  have HCO := Lib.hid hco
  clear hco hrow
  obtain ⟨x0, x1, x2, x3⟩ := L
  obtain ⟨g0, _⟩ := row_facts (Blk.new w1 109 (rowV ⟨x0, x1, x2, x3⟩ I A1 n1 c1 A2 n2 c2))
  have hw1 : Below w1.heap.size w1 (w1.alloc (.cells (rowV ⟨x0, x1, x2, x3⟩ I A1 n1 c1 A2 n2 c2) 109)) := balloc (Below.refl _ _)
  unfold rowV at HCO g0 hw1 ⊢
  dsimp only at HCO g0 hl0 hw1 ⊢
  obtain ⟨g0, g1, g2, g3, g4, g5, g6⟩ := g0
  go_wp2_with fail
  refine (HCO.out _ hw1).mono ?_
  rintro e w2 ⟨⟨j, rfl, _⟩, hb2⟩
  go_wp2_with fail
  go_ret
  exact ⟨⟨j, rfl⟩, bseq hb1 (bseq hw1 hb2)⟩
set_option maxRecDepth 100000 in
set_option maxHeartbeats 1000000 in
theorem mat_any (D : Nat → Prop) (m g : Nat) (enc : Int) (ds : List (Int × Int)) (s k off kind : Int) (w : World) (hm : MvAt w m g s k) (h : TextAt w D g enc ds) :
    Calls Tryz.prog 83 #[.pointer (some ⟨m, 0, none⟩), .int .i64 off, .int .i64 kind] w fun e w' => (∃ j : Nat, e = .returned (.tuple #[.agg #[.int .i64 off, .int .i64 kind, .int .i64 (j : Int)], .int .i64 0])) ∧ Below w.heap.size w w' := by
  have hco := fun (wy : World) (hy : Below w.heap.size w wy) => Column_any D g enc ds off wy (h.below hy)
  have hmm := fun (wy : World) (hy : Below w.heap.size w wy) => (hm.below hy).facts.1
  have HCO := Lib.hid hco
  have HM := Lib.hid hmm
  clear hco hm h hmm
  have hw1 : Below w.heap.size w (w.alloc (.cells #[.int .i64 0, .int .i64 0, .int .i64 0] 47)) := balloc (Below.refl _ _)
  have hB := Blk.new w 47 #[.int .i64 0, .int .i64 0, .int .i64 0]
  go_enter Tryz.func83, Tryz.ntmps83
  obtain ⟨g0, _⟩ := HM.out _ hw1
  go_wp2_with fail
  refine (HCO.out _ hw1).mono ?_
  rintro e w2 ⟨⟨j, rfl⟩, hb2⟩
  have hB2 := hB.below hb2
  have c0 := hB2.cell 0
  have c1 := hB2.cell 1
  have c2 := hB2.cell 2
  have f0 := hB2.frozen 0
  have f1 := hB2.frozen 1
  have f2 := hB2.frozen 2
  simp at c0 c1 c2
  go_wp2_with fail
  have hB3 := ((hB2.set_ 0 (.int .i64 off)).set_ 1 (.int .i64 kind)).set_ 2 (.int .i64 (j : Int))
  have d0 := hB3.cell 0
  have d1 := hB3.cell 1
  have d2 := hB3.cell 2
  simp at d0 d1 d2
  have hW : Below w.heap.size w (((w2.setCell ⟨w.heap.size, 0, none⟩ (.int .i64 off)).setCell ⟨w.heap.size, 1, none⟩ (.int .i64 kind)).setCell ⟨w.heap.size, 2, none⟩ (.int .i64 (j : Int))) :=
    (((bseq hw1 hb2).setCell (Nat.le_refl _) _).setCell (Nat.le_refl _) _).setCell (Nat.le_refl _) _
  refine bodyPost_ret (v := .tuple #[.agg #[.int .i64 off, .int .i64 kind, .int .i64 (j : Int)], .int .i64 0]) (by simp [results, Tryz.results83, go_sem, d0, d1, d2]) rfl ⟨⟨j, rfl⟩, hW⟩
end Go.Proofs.YtoafogibfokblaaGreat
namespace Go.Proofs.YtoafogibfokblaaGreat
open Go.RowKit

theorem WkAt.fr {w w' : World} {D S : Nat → Prop} {b g : Nat} {L : Ln} {i : Int} {C : List Int} {j last : Int} (h : WkAt w D b g L i C j last) (hb : Fr S w w') (h1 : ¬ S b) (h2 : ∀ k, D k → ¬ S k) : WkAt w' D b g L i C j last := by
  obtain ⟨A1, n1, c1, A2, n2, c2, k1, k2, k3⟩ := h
  exact ⟨A1, n1, c1, A2, n2, c2, k1.fr hb h1, k2.fr hb (fun k hk _ => h2 k hk), k3⟩
/-- a landing's cell: what is stored there is read -/
theorem land_ret {w : World} {q : Nat} {x y z u0 u1 u2 : Int} (hB : Blk w q 47 #[.int .i64 u0, .int .i64 u1, .int .i64 u2]) :
    (((w.setCell ⟨q, 0, none⟩ (.int .i64 x)).setCell ⟨q, 1, none⟩ (.int .i64 y)).setCell ⟨q, 2, none⟩ (.int .i64 z)).cell? ⟨q, 0, none⟩ = some (.int .i64 x) ∧
    (((w.setCell ⟨q, 0, none⟩ (.int .i64 x)).setCell ⟨q, 1, none⟩ (.int .i64 y)).setCell ⟨q, 2, none⟩ (.int .i64 z)).cell? ⟨q, 1, none⟩ = some (.int .i64 y) ∧
    (((w.setCell ⟨q, 0, none⟩ (.int .i64 x)).setCell ⟨q, 1, none⟩ (.int .i64 y)).setCell ⟨q, 2, none⟩ (.int .i64 z)).cell? ⟨q, 2, none⟩ = some (.int .i64 z) := by
  have hB3 := ((hB.set_ 0 (.int .i64 x)).set_ 1 (.int .i64 y)).set_ 2 (.int .i64 z)
  have d0 := hB3.cell 0
  have d1 := hB3.cell 1
  have d2 := hB3.cell 2
  simp at d0 d1 d2
  exact ⟨d0, d1, d2⟩
theorem land_facts {w : World} {q : Nat} {u0 u1 u2 : Int} (hB : Blk w q 47 #[.int .i64 u0, .int .i64 u1, .int .i64 u2]) :
    w.cell? ⟨q, 0, none⟩ = some (.int .i64 u0) ∧ w.cell? ⟨q, 1, none⟩ = some (.int .i64 u1) ∧ w.cell? ⟨q, 2, none⟩ = some (.int .i64 u2) ∧ w.frozen? ⟨q, 0, none⟩ = false ∧ w.frozen? ⟨q, 1, none⟩ = false ∧ w.frozen? ⟨q, 2, none⟩ = false :=
  ⟨hB.cell 0, hB.cell 1, hB.cell 2, hB.frozen 0, hB.frozen 1, hB.frozen 2⟩
theorem below_set3 {W w : World} {q : Nat} {x y z : Value} (h : Below W.heap.size W w) (hq : W.heap.size ≤ q) :
    Below W.heap.size W (((w.setCell ⟨q, 0, none⟩ x).setCell ⟨q, 1, none⟩ y).setCell ⟨q, 2, none⟩ z) := ((h.setCell hq _).setCell hq _).setCell hq _
set_option maxRecDepth 100000 in
set_option maxHeartbeats 1000000 in
theorem rest_any (W0 w : World) (D : Nat → Prop) (m g : Nat) (enc : Int) (ds : List (Int × Int)) (s : Int) (r j e : Nat) (hT : TextAt W0 D g enc ds) (hW : Below W0.heap.size W0 w) (hm0 : W0.heap.size ≤ m) (hm : MvAt w m g s 1)
    (hr : s = (lineF ds (rowIx ds s false)).from_ + (r : Int)) (hj : InC (cont ds (rowIx ds s false)) r j) (hje : j ≤ e) (he : e < nC (cont ds (rowIx ds s false)))
    (hno : ∀ q, j ≤ q → q < e → endsF (cont ds (rowIx ds s false)) q = false) (hyes : endsF (cont ds (rowIx ds s false)) e = true) :
    Calls Tryz.prog 61 #[.pointer (some ⟨m, 0, none⟩)] w fun e' w' =>
      (∃ col : Nat, e' = .returned (.tuple #[.agg #[.int .i64 ((lineF ds (rowIx ds s false)).from_ + (mkb (cont ds (rowIx ds s false)) e : Int)), .int .i64 1, .int .i64 (col : Int)], .int .i64 0])) ∧ Below W0.heap.size W0 w' := by
  have hp := hT.pos
  have hix := rowIx_le ds s false
  have hbd := lineF_bd hp hix
  have hcl := cont_len hp hix
  have hlen := hT.len
  have hnw := fun (wy : World) (hy : Below W0.heap.size W0 wy) (hmm : MvAt wy m g s 1) => mwalk_any D m g enc ds s 1 r wy hmm (hT.below hy) hr
  have hmt := fun (wy : World) (k off : Int) (hy : Below W0.heap.size W0 wy) (hmm : MvAt wy m g s k) => mat_any D m g enc ds s k off 1 wy hmm (hT.below hy)
  obtain ⟨I, hI⟩ : ∃ I, rowIx ds s false = I := ⟨_, rfl⟩
  rw [hI] at hbd hcl hr hj hno hyes hnw he ⊢
  obtain ⟨L, hL⟩ : ∃ L, lineF ds I = L := ⟨_, rfl⟩
  obtain ⟨C, hC⟩ : ∃ C, cont ds I = C := ⟨_, rfl⟩
  rw [hL] at hbd hcl hr hnw ⊢
  rw [hC] at hcl hj hno hyes hnw he ⊢
  have hl0 : 0 ≤ L.from_ ∧ L.from_ ≤ 1073741824 := by omega
  have hc0 : C.length ≤ 1073741824 := by omega
  obtain ⟨lst, hlst⟩ : ∃ x, (countF ds : Int) - 1 = x := ⟨_, rfl⟩
  rw [hlst] at hnw
  have hmlt : m < w.heap.size := by obtain ⟨c, cn, arg, goal, r0, r1, r2, r3, r4, r5, r6, hb⟩ := hm; exact hb.lt
  have hW1 : Below W0.heap.size W0 (w.alloc (.cells #[.int .i64 0, .int .i64 0, .int .i64 0] 47)) := hW.alloc hW.size _
  have hm1 : MvAt (w.alloc (.cells #[.int .i64 0, .int .i64 0, .int .i64 0] 47)) m g s 1 := hm.below (balloc (Below.refl _ w))
  have hB1 := Blk.new w 47 #[.int .i64 0, .int .i64 0, .int .i64 0]
  have HNW := Lib.hid hnw
  have HMT := Lib.hid hmt
  have HJ := Lib.hid hj
  have HNO := Lib.hid hno
  have HY := Lib.hid hyes
  have HM := Lib.hid hm
  have HT := Lib.hid hT
  clear hnw hmt hj hno hyes hm hT hI hL hC hlst hr hix hp hcl hbd hlen
  go_enter Tryz.func61, Tryz.ntmps61
  go_wp2_with fail
  refine (HNW.out _ hW1 hm1).mono ?_
  rintro e' w2 ⟨b, jj, rfl, hjj, hwk, hbge, hb2⟩
  have hjj2 := hjj.uniq HJ.out
  subst hjj2
  have hsz : w.heap.size + 1 = (w.alloc (.cells #[.int .i64 0, .int .i64 0, .int .i64 0] 47)).heap.size := by simp
  rw [← hsz] at hbge
  have hwk' := hwk.below (Below.refl _ w2)
  have hDm : ∀ k, ((w.alloc (.cells #[.int .i64 0, .int .i64 0, .int .i64 0] 47)).heap.size ≤ k ∧ k < b) → ¬ (k = m) := by
    rintro k ⟨h1, _⟩ rfl
    omega
  obtain ⟨D2, hD2⟩ : ∃ D2 : Nat → Prop, (fun k => (w.alloc (.cells #[.int .i64 0, .int .i64 0, .int .i64 0] 47)).heap.size ≤ k ∧ k < b) = D2 := ⟨_, rfl⟩
  rw [hD2] at hwk
  have hDm2 : ∀ k, D2 k → ¬ (k = m) := by rw [← hD2]; exact hDm
  have hW2 := bseq hW1 hb2
  have hm2 := hm1.below hb2
  have hB2 := hB1.below hb2
  have hen := ending_any D2 b g L (I : Int) C jj lst w2 hwk hc0 (by omega)
  have HWK := Lib.hid hwk
  have HDM := Lib.hid hDm2
  clear hwk hwk' hDm hDm2 hD2 hB1 hjj hb2 hW1 hm1 HNW
  have hbm : b ≠ m := by omega
  rcases Nat.eq_or_lt_of_le hje with heq | hlt
  · subst heq
    rw [HY.out] at hen
    have HEN := Lib.hid hen
    clear hen
    go_wp2_with fail
    refine (HEN.out).mono ?_
    rintro e' w3 ⟨rfl, hb3⟩
    have hm3 := hm2.below hb3
    obtain ⟨⟨g0, g1, g2, g3, g4⟩, gf⟩ := hm3.facts
    go_wp2_with fail
    refine (forward0_any m g b s _ (hm3.setK 0)).mono ?_
    rintro e' w4 ⟨rfl, rfl⟩
    have hwk4 := (HWK.out.below hb3).fr ((Fr.refl (· = m) w3).set1 3 (.int .i64 0)) hbm HDM.out
    have hm4 := hm3.setK 0
    have hW4 := (bseq hW2 hb3).setCell (p := ⟨m, 3, none⟩) hm0 (.int .i64 0)
    have hB4 := (hB2.below hb3).far (p := ⟨m, 3, none⟩) (by show w.heap.size ≠ m; omega) (.int .i64 0)
    clear g0 g1 g2 g3 g4 gf
    have hwk5 := hwk4
    go_wp2_with fail
    refine (at_any D2 b g L (I : Int) C jj lst _ hwk4 hc0 hl0 (by omega)).mono ?_
    rintro e' w5 ⟨rfl, hb5⟩
    go_wp2_with fail
    refine (HMT.out _ 0 _ (bseq hW4 hb5) (hm4.below hb5)).mono ?_
    rintro e' w6 ⟨⟨col, rfl⟩, hb6⟩
    have hW6 := bseq (bseq hW4 hb5) hb6
    have hB6 := (hB4.below hb5).below hb6
    obtain ⟨c0, c1, c2, f0, f1, f2⟩ := land_facts hB6
    go_wp2_with fail
    obtain ⟨d0, d1, d2⟩ := land_ret (x := L.from_ + (mkb C jj : Int)) (y := 1) (z := (col : Int)) hB6
    exact bodyPost_ret (v := .tuple #[.agg #[.int .i64 (L.from_ + (mkb C jj : Int)), .int .i64 1, .int .i64 (col : Int)], .int .i64 0]) (by simp [results, Tryz.results61, go_sem, d0, d1, d2]) rfl ⟨⟨col, rfl⟩, below_set3 hW6 hW.size⟩
  · rw [HNO.out jj (Nat.le_refl _) hlt] at hen
    have HEN := Lib.hid hen
    clear hen
    go_wp2_with fail
    refine (HEN.out).mono ?_
    rintro e' w3 ⟨rfl, hb3⟩
    have hfw := forward_any D2 m g b g s L (I : Int) C jj e lst w3 (hm2.below hb3) (HWK.out.below hb3) hc0 hlt he (fun q h1 h2 => HNO.out q (Nat.le_of_lt h1) h2) HY.out
    have HFW := Lib.hid hfw
    clear hfw
    go_wp2_with fail
    refine (HFW.out).mono ?_
    rintro e' w4 ⟨rfl, hwk4, hf4⟩
    have hm4 := (hm2.below hb3).fr hf4 (Ne.symm hbm)
    have hW4 := bfr (bseq hW2 hb3) hf4 (fun k hk => by have := hW.size; omega)
    have hB4 := (hB2.below hb3).fr hf4 (by omega)
    have hwk5 := hwk4
    go_wp2_with fail
    refine (at_any D2 b g L (I : Int) C e lst _ hwk4 hc0 hl0 (by omega)).mono ?_
    rintro e' w5 ⟨rfl, hb5⟩
    go_wp2_with fail
    refine (HMT.out _ 1 _ (bseq hW4 hb5) (hm4.below hb5)).mono ?_
    rintro e' w6 ⟨⟨col, rfl⟩, hb6⟩
    have hW6 := bseq (bseq hW4 hb5) hb6
    have hB6 := (hB4.below hb5).below hb6
    obtain ⟨c0, c1, c2, f0, f1, f2⟩ := land_facts hB6
    go_wp2_with fail
    obtain ⟨d0, d1, d2⟩ := land_ret (x := L.from_ + (mkb C e : Int)) (y := 1) (z := (col : Int)) hB6
    exact bodyPost_ret (v := .tuple #[.agg #[.int .i64 (L.from_ + (mkb C e : Int)), .int .i64 1, .int .i64 (col : Int)], .int .i64 0]) (by simp [results, Tryz.results61, go_sem, d0, d1, d2]) rfl ⟨⟨col, rfl⟩, below_set3 hW6 hW.size⟩
set_option maxRecDepth 100000 in
set_option maxHeartbeats 1000000 in
theorem back_any (W0 w : World) (D : Nat → Prop) (m g : Nat) (enc : Int) (ds : List (Int × Int)) (s : Int) (r j e : Nat) (hT : TextAt W0 D g enc ds) (hW : Below W0.heap.size W0 w) (hm0 : W0.heap.size ≤ m) (hm : MvAt w m g s 1)
    (hr : s = (lineF ds (rowIx ds s false)).from_ + (r : Int)) (hj : InC (cont ds (rowIx ds s false)) r j) (hje : e < j) (he : j < nC (cont ds (rowIx ds s false)))
    (hno : ∀ q, e < q → q < j → beginsF (cont ds (rowIx ds s false)) q = false) (hyes : beginsF (cont ds (rowIx ds s false)) e = true) :
    Calls Tryz.prog 58 #[.pointer (some ⟨m, 0, none⟩)] w fun e' w' =>
      (∃ col : Nat, e' = .returned (.tuple #[.agg #[.int .i64 ((lineF ds (rowIx ds s false)).from_ + (mkb (cont ds (rowIx ds s false)) e : Int)), .int .i64 0, .int .i64 (col : Int)], .int .i64 0])) ∧ Below W0.heap.size W0 w' := by
  have hp := hT.pos
  have hix := rowIx_le ds s false
  have hbd := lineF_bd hp hix
  have hcl := cont_len hp hix
  have hlen := hT.len
  have hnw := fun (wy : World) (hy : Below W0.heap.size W0 wy) (hmm : MvAt wy m g s 1) => mwalk_any D m g enc ds s 1 r wy hmm (hT.below hy) hr
  have hmt := fun (wy : World) (k off : Int) (hy : Below W0.heap.size W0 wy) (hmm : MvAt wy m g s k) => mat_any D m g enc ds s k off 0 wy hmm (hT.below hy)
  obtain ⟨I, hI⟩ : ∃ I, rowIx ds s false = I := ⟨_, rfl⟩
  rw [hI] at hbd hcl hr hj hno hyes hnw he ⊢
  obtain ⟨L, hL⟩ : ∃ L, lineF ds I = L := ⟨_, rfl⟩
  obtain ⟨C, hC⟩ : ∃ C, cont ds I = C := ⟨_, rfl⟩
  rw [hL] at hbd hcl hr hnw ⊢
  rw [hC] at hcl hj hno hyes hnw he ⊢
  have hl0 : 0 ≤ L.from_ ∧ L.from_ ≤ 1073741824 := by omega
  have hc0 : C.length ≤ 1073741824 := by omega
  obtain ⟨lst, hlst⟩ : ∃ x, (countF ds : Int) - 1 = x := ⟨_, rfl⟩
  rw [hlst] at hnw
  have hs0 : (s == 0) = false := by
    have h1 := hj.low
    have h2 := mk_smono hje hj.le
    rw [beq_eq_false_iff_ne]
    omega
  have hs1 : (s = 0) = False := by simpa using hs0
  have hmlt : m < w.heap.size := by obtain ⟨c, cn, arg, goal, r0, r1, r2, r3, r4, r5, r6, hb⟩ := hm; exact hb.lt
  have hW1 : Below W0.heap.size W0 (w.alloc (.cells #[.int .i64 0, .int .i64 0, .int .i64 0] 47)) := hW.alloc hW.size _
  have hm1 : MvAt (w.alloc (.cells #[.int .i64 0, .int .i64 0, .int .i64 0] 47)) m g s 1 := hm.below (balloc (Below.refl _ w))
  have hB1 := Blk.new w 47 #[.int .i64 0, .int .i64 0, .int .i64 0]
  have HNW := Lib.hid hnw
  have HMT := Lib.hid hmt
  have HJ := Lib.hid hj
  have HNO := Lib.hid hno
  have HY := Lib.hid hyes
  have HM := Lib.hid hm
  have HT := Lib.hid hT
  clear hnw hmt hj hno hyes hm hT hI hL hC hlst hr hix hp hcl hbd hlen
  go_enter Tryz.func58, Tryz.ntmps58
  go_wp2_with fail
  refine (HNW.out _ hW1 hm1).mono ?_
  rintro e' w2 ⟨b, jj, rfl, hjj, hwk, hbge, hb2⟩
  have hjj2 := hjj.uniq HJ.out
  subst hjj2
  have hsz : w.heap.size + 1 = (w.alloc (.cells #[.int .i64 0, .int .i64 0, .int .i64 0] 47)).heap.size := by simp
  rw [← hsz] at hbge
  have hwk' := hwk.below (Below.refl _ w2)
  have hDm : ∀ k, ((w.alloc (.cells #[.int .i64 0, .int .i64 0, .int .i64 0] 47)).heap.size ≤ k ∧ k < b) → ¬ (k = m) := by
    rintro k ⟨h1, _⟩ rfl
    omega
  obtain ⟨D2, hD2⟩ : ∃ D2 : Nat → Prop, (fun k => (w.alloc (.cells #[.int .i64 0, .int .i64 0, .int .i64 0] 47)).heap.size ≤ k ∧ k < b) = D2 := ⟨_, rfl⟩
  rw [hD2] at hwk
  have hDm2 : ∀ k, D2 k → ¬ (k = m) := by rw [← hD2]; exact hDm
  have hW2 := bseq hW1 hb2
  have hm2 := hm1.below hb2
  have hB2 := hB1.below hb2
  have hbw := backward_any D2 m g b g s L (I : Int) C jj e lst w2 hm2 hwk hc0 hje he HNO.out HY.out
  have HWK := Lib.hid hwk
  have HDM := Lib.hid hDm2
  have HBW := Lib.hid hbw
  clear hwk hwk' hDm hDm2 hD2 hB1 hjj hb2 hW1 hm1 HNW hbw
  have hbm : b ≠ m := by omega
  obtain ⟨⟨g0, g1, g2, g3, g4⟩, gf⟩ := hm2.facts
  go_wp2_with fail
  refine (HBW.out).mono ?_
  rintro e' w4 ⟨rfl, hwk4, hf4⟩
  have hm4 := hm2.fr hf4 (Ne.symm hbm)
  have hW4 := bfr hW2 hf4 (fun k hk => by have := hW.size; omega)
  have hB4 := hB2.fr hf4 (by omega)
  clear g0 g1 g2 g3 g4 gf
  go_wp2_with fail
  refine (at_any D2 b g L (I : Int) C e lst _ hwk4 hc0 hl0 (by omega)).mono ?_
  rintro e' w5 ⟨rfl, hb5⟩
  go_wp2_with fail
  refine (HMT.out _ 1 _ (bseq hW4 hb5) (hm4.below hb5)).mono ?_
  rintro e' w6 ⟨⟨col, rfl⟩, hb6⟩
  have hW6 := bseq (bseq hW4 hb5) hb6
  have hB6 := (hB4.below hb5).below hb6
  obtain ⟨c0, c1, c2, f0, f1, f2⟩ := land_facts hB6
  go_wp2_with fail
  obtain ⟨d0, d1, d2⟩ := land_ret (x := L.from_ + (mkb C e : Int)) (y := 0) (z := (col : Int)) hB6
  exact bodyPost_ret (v := .tuple #[.agg #[.int .i64 (L.from_ + (mkb C e : Int)), .int .i64 0, .int .i64 (col : Int)], .int .i64 0]) (by simp [results, Tryz.results58, go_sem, d0, d1, d2]) rfl ⟨⟨col, rfl⟩, below_set3 hW6 hW.size⟩
end Go.Proofs.YtoafogibfokblaaGreat
