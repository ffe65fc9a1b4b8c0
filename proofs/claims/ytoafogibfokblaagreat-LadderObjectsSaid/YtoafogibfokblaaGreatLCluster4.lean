/-
  The walks of package cluster, first part: one scan (note, apart, hangul, takes, begin), as plain functions on a record of four integers. The walks of package cluster, second part: takes, begin. The walks of package cluster, third part: begin, and the boundaries of a list of atoms as a plain function. The walks of package cluster, fourth part: safe, Breaks, Next.
-/
import Derived.Test.YtoafogibfokblaaGreatLGlyph
import Derived.Deep.CutBlock
set_option linter.unusedSimpArgs false
set_option linter.unusedVariables false
namespace Go.Proofs.YtoafogibfokblaaGreat
open Go.RowKit

/-- what is known of a cluster so far -/
structure Scan where
  last : Int
  flags : Int
  pict : Int
  conj : Int
def Scan.cells (s : Scan) : Array Value := #[.int .i64 s.last, .int .i64 s.flags, .int .i64 s.pict, .int .i64 s.conj]
def noteF (s : Scan) (c p : Int) : Scan where
  last := c
  flags := if c = 6 then s.flags + 1 else 0
  pict := if c = 14 then 1 else if s.pict = 1 ∧ c = 5 then 2 else if s.pict = 1 ∧ c = 4 then s.pict else 0
  conj := if p = 1 then 1 else if 0 < s.conj ∧ p = 3 then 2 else if 0 < s.conj ∧ p = 2 then s.conj else 0
def note1 (s : Scan) (c : Int) : Scan := { s with last := c, flags := if c = 6 then s.flags + 1 else 0 }
def note2 (s : Scan) (c : Int) : Scan := { note1 s c with pict := if c = 14 then 1 else if s.pict = 1 ∧ c = 5 then 2 else if s.pict = 1 ∧ c = 4 then s.pict else 0 }
def ScanAt (w0 w : World) (g : Nat) (s : Scan) : Prop := Blk w g 115 s.cells ∧ Fr (· = g) w0 w
theorem ScanAt.facts {w0 w : World} {g : Nat} {s : Scan} (h : ScanAt w0 w g s) :
    w.cell? ⟨g, 0, none⟩ = some (.int .i64 s.last) ∧ w.cell? ⟨g, 1, none⟩ = some (.int .i64 s.flags) ∧ w.cell? ⟨g, 2, none⟩ = some (.int .i64 s.pict) ∧ w.cell? ⟨g, 3, none⟩ = some (.int .i64 s.conj) ∧
    w.frozen? ⟨g, 0, none⟩ = false ∧ w.frozen? ⟨g, 1, none⟩ = false ∧ w.frozen? ⟨g, 2, none⟩ = false ∧ w.frozen? ⟨g, 3, none⟩ = false :=
  ⟨h.1.cell 0, h.1.cell 1, h.1.cell 2, h.1.cell 3, h.1.frozen 0, h.1.frozen 1, h.1.frozen 2, h.1.frozen 3⟩
theorem ScanAt.set0 {w0 w : World} {g : Nat} {s : Scan} (h : ScanAt w0 w g s) (v : Int) : ScanAt w0 (w.setCell ⟨g, 0, none⟩ (.int .i64 v)) g { s with last := v } := ⟨h.1.set_ 0 _, h.2.set1 0 _⟩
theorem ScanAt.set1 {w0 w : World} {g : Nat} {s : Scan} (h : ScanAt w0 w g s) (v : Int) : ScanAt w0 (w.setCell ⟨g, 1, none⟩ (.int .i64 v)) g { s with flags := v } := ⟨h.1.set_ 1 _, h.2.set1 1 _⟩
theorem ScanAt.set2 {w0 w : World} {g : Nat} {s : Scan} (h : ScanAt w0 w g s) (v : Int) : ScanAt w0 (w.setCell ⟨g, 2, none⟩ (.int .i64 v)) g { s with pict := v } := ⟨h.1.set_ 2 _, h.2.set1 2 _⟩
theorem ScanAt.set3 {w0 w : World} {g : Nat} {s : Scan} (h : ScanAt w0 w g s) (v : Int) : ScanAt w0 (w.setCell ⟨g, 3, none⟩ (.int .i64 v)) g { s with conj := v } := ⟨h.1.set_ 3 _, h.2.set1 3 _⟩
theorem ScanAt.eq {w0 w : World} {g : Nat} {s s' : Scan} (h : ScanAt w0 w g s) (e : s = s') : ScanAt w0 w g s' := e ▸ h
set_option maxRecDepth 100000 in
set_option maxHeartbeats 1000000 in
theorem note_any (g : Nat) (s : Scan) (c p : Int) (w : World) (h : Blk w g 115 s.cells) (hf : 0 ≤ s.flags ∧ s.flags ≤ 4611686018427387904) :
    Calls Tryz.prog 87 #[.pointer (some ⟨g, 0, none⟩), .int .i64 c, .int .i64 p] w fun e w' =>
      e = .returned (.tuple #[]) ∧ ScanAt w w' g (noteF s c p) := by
  have hs : ScanAt w w g s := ⟨h, Fr.refl _ _⟩
  obtain ⟨c0, c1, c2, c3, f0, f1, f2, f3⟩ := hs.facts
  obtain ⟨hf1, hf2⟩ := hf
  go_enter Tryz.func87, Tryz.ntmps87
  go_upto_if 11 with fail
  go_cut [] (fun wx => ScanAt w wx g (note1 s c))
  case first =>
    go_wp2
    all_goals
      go_light
      go_meet
      simp only [beq_iff_eq, beq_eq_false_iff_ne, ne_eq] at *
      exact ((hs.set0 _).set1 _).eq (by simp only [noteF, note2, note1, Scan.mk.injEq]; refine ⟨?_, ?_, ?_, ?_⟩ <;> (repeat' split) <;> first | trivial | omega)
  case rest =>
    have hA := hcut
    clear c0 c1 c2 c3 f0 f1 f2 f3 hcut hs
    obtain ⟨c0, c1, c2, c3, f0, f1, f2, f3⟩ := hA.facts
    simp only [note1] at c0 c1 c2 c3
    go_upto_block 0 with fail
    go_cut [] (fun wx => ScanAt w wx g (note2 s c))
    case first =>
      go_wp2
      all_goals
        go_light
        go_meet
        simp only [beq_iff_eq, beq_eq_false_iff_ne, ne_eq] at *
        first
          | exact (hA.set2 _).eq (by simp only [noteF, note2, note1, Scan.mk.injEq]; refine ⟨?_, ?_, ?_, ?_⟩ <;> (repeat' split) <;> first | trivial | omega)
          | exact hA.eq (by simp only [noteF, note2, note1, Scan.mk.injEq]; refine ⟨?_, ?_, ?_, ?_⟩ <;> (repeat' split) <;> first | trivial | omega)
    case rest =>
      clear c0 c1 c2 c3 f0 f1 f2 f3 hA
      have hA := hcut
      clear hcut
      obtain ⟨c0, c1, c2, c3, f0, f1, f2, f3⟩ := hA.facts
      simp only [note1, note2] at c0 c1 c2 c3
      go_wp2
      all_goals
        go_light
        go_end0
        refine ⟨rfl, ?_⟩
        simp only [beq_iff_eq, beq_eq_false_iff_ne, ne_eq] at *
        first
          | exact (hA.set3 _).eq (by simp only [noteF, note2, note1, Scan.mk.injEq]; refine ⟨?_, ?_, ?_, ?_⟩ <;> (repeat' split) <;> first | trivial | omega)
          | exact hA.eq (by simp only [noteF, note2, note1, Scan.mk.injEq]; refine ⟨?_, ?_, ?_, ?_⟩ <;> (repeat' split) <;> first | trivial | omega)

def apartB (c : Int) : Bool := decide (c = 1 ∨ c = 2 ∨ c = 3)
theorem apart_any (c : Int) (w : World) : Calls Tryz.prog 65 #[.int .i64 c] w fun e w' => e = .returned (.bool (apartB c)) ∧ w = w' := by
  go_enter Tryz.func65, Tryz.ntmps65
  go_wp2
  all_goals
    go_light
    go_ret
    refine ⟨ret_b ?_, rfl⟩
    show _ = apartB c
    (try simp only [beq_iff_eq, beq_eq_false_iff_ne, ne_eq] at *)
    unfold apartB
    rw [Bool.eq_iff_iff]
    simp
    omega
def hangulB (l r : Int) : Bool :=
  decide (((r = 9 ∨ r = 12 ∨ r = 13) ∧ l = 9) ∨ (r = 10 ∧ (l = 9 ∨ l = 12 ∨ l = 10)) ∨ (r = 11 ∧ (l = 12 ∨ l = 10 ∨ l = 13 ∨ l = 11)))
set_option maxHeartbeats 1000000 in
theorem hangul_any (l r : Int) (w : World) : Calls Tryz.prog 89 #[.int .i64 l, .int .i64 r] w fun e w' => e = .returned (.bool (hangulB l r)) ∧ w = w' := by
  go_enter Tryz.func89, Tryz.ntmps89
  go_wp2
  all_goals
    go_light
    go_ret
    refine ⟨ret_b ?_, rfl⟩
    show _ = hangulB l r
    (try simp only [beq_iff_eq, beq_eq_false_iff_ne, ne_eq] at *)
    unfold hangulB
    rw [Bool.eq_iff_iff]
    simp
    omega
end Go.Proofs.YtoafogibfokblaaGreat
namespace Go.Proofs.YtoafogibfokblaaGreat
open Go.RowKit

theorem ScanAt.after {w0 w1 w2 : World} {g : Nat} {s s' : Scan} (h : ScanAt w0 w1 g s) (k : ScanAt w1 w2 g s') : ScanAt w0 w2 g s' := ⟨k.1, h.2.trans k.2⟩
noncomputable def joinsF (s : Scan) (a : Int) : Bool :=
  if s.last = 1 ∧ classF a = 2 then true
  else if apartB s.last = true ∨ apartB (classF a) = true then false
  else if classF a = 4 ∨ classF a = 5 ∨ classF a = 8 ∨ s.last = 7 then true
  else if hangulB s.last (classF a) = true then true
  else if conjF a = 1 ∧ s.conj = 2 then true
  else if classF a = 14 then s.pict == 2
  else if classF a = 6 then s.flags % 2 == 1
  else false
noncomputable def takesF (s : Scan) (a : Int) : Scan := if joinsF s a = true then noteF s (classF a) (conjF a) else s
set_option maxRecDepth 100000 in
set_option maxHeartbeats 2000000 in
theorem takes_any (g : Nat) (s : Scan) (a : Int) (w : World) (h : Blk w g 115 s.cells) (hf : 0 ≤ s.flags ∧ s.flags ≤ 4611686018427387904) :
    Calls Tryz.prog 63 #[.pointer (some ⟨g, 0, none⟩), .int .i64 a] w fun e w' =>
      e = .returned (.bool (joinsF s a)) ∧ ScanAt w w' g (takesF s a) := by
  obtain ⟨hf1, hf2⟩ := hf
  go_enter Tryz.func63, Tryz.ntmps63
  go_upto_block 0 with (first | (go_at_call 64; refine (class_any _ _).mono ?_; rintro e w1 ⟨rfl, hb1⟩) | (go_at_call 88; refine (conjunct_any _ _).mono ?_; rintro e w2 ⟨rfl, hb2⟩))
  have hA : ScanAt w w2 g s := ⟨(h.below hb1).below hb2, Fr.of_below (bseq hb1 hb2)⟩
  clear hb1 hb2 h
  obtain ⟨c0, c1, c2, c3, f0, f1, f2, f3⟩ := hA.facts
  go_cut [7] (fun s7 wx => s7 = .bool (joinsF s a) ∧ wx = w2)
  case first =>
    cases hp : (conjF a == 1) <;> cases hl : (s.last == 1)
    all_goals
      go_wp2_with (first | (go_at_call 65; refine (apart_any _ _).mono ?_; rintro e w1 ⟨rfl, rfl⟩) | (go_at_call 89; refine (hangul_any _ _ _).mono ?_; rintro e w1 ⟨rfl, rfl⟩))
    all_goals
      go_light
      go_meet
      refine ⟨congrArg Value.bool ?_, rfl⟩
      (try simp only [beq_iff_eq, beq_eq_false_iff_ne, ne_eq] at *)
      clear c0 c1 c2 c3 f0 f1 f2 f3 hA
      unfold joinsF
      (repeat' split) <;> first | rfl | (simp_all; done) | (simp_all; omega)
  case rest =>
    obtain ⟨rfl, rfl⟩ := hcut
    cases hj : joinsF s a
    · go_wp2
      go_ret
      refine ⟨ret_b hj.symm, hA.eq ?_⟩
      simp [takesF, hj]
    · go_wp2_with (go_at_call 87; refine (note_any g s _ _ _ hA.1 ⟨hf1, hf2⟩).mono ?_; rintro e w1 ⟨rfl, hn⟩)
      go_ret
      refine ⟨ret_b hj.symm, (ScanAt.after hA hn).eq ?_⟩
      simp [takesF, hj]
end Go.Proofs.YtoafogibfokblaaGreat
namespace Go.Proofs.YtoafogibfokblaaGreat
open Go.RowKit

noncomputable def beginF (a : Int) : Scan := noteF ⟨0, 0, 0, 0⟩ (classF a) (conjF a)
set_option maxRecDepth 100000 in
set_option maxHeartbeats 1000000 in
theorem begin_any (a : Int) (w : World) :
    Calls Tryz.prog 62 #[.int .i64 a] w fun e w' => e = .returned (.agg (beginF a).cells) ∧ Below w.heap.size w w' := by
  go_enter Tryz.func62, Tryz.ntmps62
  go_wp2_with fail
  refine (class_any _ _).mono ?_
  rintro e w1 ⟨rfl, hb1⟩
  go_wp2_with fail
  refine (conjunct_any _ _).mono ?_
  rintro e w2 ⟨rfl, hb2⟩
  have hb := bseq hb1 hb2
  have hz : Blk w2 (w.heap.size + 1) 115 (Scan.mk 0 0 0 0).cells := by
    have := Blk.new (w.alloc (.cells (Scan.mk 0 0 0 0).cells 115)) 115 (Scan.mk 0 0 0 0).cells
    simp only [World.size_alloc] at this
    exact this.below hb
  have hr : Blk w2 w.heap.size 115 (Scan.mk 0 0 0 0).cells := by
    have := (Blk.new w 115 (Scan.mk 0 0 0 0).cells).alloc (.cells (Scan.mk 0 0 0 0).cells 115)
    exact this.below hb
  have hW : Below w.heap.size w w2 := (((Below.refl _ w).alloc (Nat.le_refl _) _).alloc (by simp) _).trans (hb.mono (by simp; omega))
  clear hb1 hb2 hb
  go_wp2_with fail
  refine (note_any _ _ _ _ _ hz (by constructor <;> decide)).mono ?_
  rintro e w3 ⟨rfl, hn⟩
  have hr3 := hr.fr hn.2 (by omega)
  obtain ⟨c0, c1, c2, c3, f0, f1, f2, f3⟩ := hn.facts
  have r0 := hr3.cell 0
  have r1 := hr3.cell 1
  have r2 := hr3.cell 2
  have r3 := hr3.cell 3
  have g0 := hr3.frozen 0
  have g1 := hr3.frozen 1
  have g2 := hr3.frozen 2
  have g3 := hr3.frozen 3
  simp [Scan.cells] at r0 r1 r2 r3
  go_wp2
  refine bodyPost_ret (v := .agg (beginF a).cells) (by simp [results, Tryz.results62, go_sem, r0, r1, r2, r3, beginF, Scan.cells]) rfl ⟨rfl, ?_⟩
  exact ((((bfr hW hn.2 (fun i hi => by omega)).setCell (Nat.le_refl _) _).setCell (Nat.le_refl _) _).setCell (Nat.le_refl _) _).setCell (Nat.le_refl _) _
theorem begin_any' (a : Int) (w : World) : Calls Tryz.prog 62 #[.int .i64 a] w fun e w' =>
    e = .returned (.agg #[.int .i64 (beginF a).last, .int .i64 (beginF a).flags, .int .i64 (beginF a).pict, .int .i64 (beginF a).conj]) ∧ Below w.heap.size w w' := begin_any a w

/-! ### the boundaries of a list of atoms -/
/-- how many of the atoms that come next belong to the cluster -/
noncomputable def runF (s : Scan) : List Int → Nat
  | [] => 0
  | a :: r => if joinsF s a = true then runF (takesF s a) r + 1 else 0
theorem runF_le (s : Scan) (l : List Int) : runF s l ≤ l.length := by
  induction l generalizing s with
  | nil => simp [runF]
  | cons a r ih => simp only [runF]; split <;> simp [ih]
/-- the boundary above 'at', which is one -/
noncomputable def nextB (l : List Int) (p : Nat) : Nat := p + 1 + runF (beginF (l.getD p 0)) (l.drop (p + 1))
theorem nextB_gt (l : List Int) (p : Nat) : p < nextB l p := by unfold nextB; omega
theorem nextB_le (l : List Int) (p : Nat) (h : p < l.length) : nextB l p ≤ l.length := by
  unfold nextB
  have := runF_le (beginF (l.getD p 0)) (l.drop (p + 1))
  simp at this ⊢
  omega
noncomputable def bndsF (l : List Int) : Nat → Nat → List Nat
  | 0, _ => []
  | f + 1, p => if p < l.length then nextB l p :: bndsF l f (nextB l p) else []
theorem bndsF_ge (l : List Int) (f p : Nat) (h : l.length ≤ p) : bndsF l f p = [] := by
  cases f <;> simp [bndsF]; omega
theorem bndsF_fuel (l : List Int) : ∀ (f f' p : Nat), l.length - p ≤ f → l.length - p ≤ f' → bndsF l f p = bndsF l f' p := by
  intro f
  induction f with
  | zero => intro f' p h h'; rw [bndsF_ge l f' p (by omega)]; rfl
  | succ f ih =>
    intro f' p h h'
    cases f' with
    | zero => rw [bndsF_ge l (f + 1) p (by omega)]; rfl
    | succ f' =>
      simp only [bndsF]
      split
      · have := nextB_gt l p
        rw [ih f' (nextB l p) (by omega) (by omega)]
      · rfl
/-- the boundaries above 'p', which is one -/
noncomputable def bnds (l : List Int) (p : Nat) : List Nat := bndsF l l.length p
theorem bnds_lt (l : List Int) (p : Nat) (h : p < l.length) : bnds l p = nextB l p :: bnds l (nextB l p) := by
  unfold bnds
  have hg := nextB_gt l p
  rw [bndsF_fuel l l.length (l.length + 1) p (by omega) (by omega)]
  simp only [bndsF, if_pos h]
theorem bnds_ge (l : List Int) (p : Nat) (h : l.length ≤ p) : bnds l p = [] := bndsF_ge l _ p h

/-- a list is gone through till 'step' says no -/
def foldU {σ : Type} (step : σ → Nat → Bool × σ) : σ → List Nat → σ
  | s, [] => s
  | s, k :: r => if (step s k).1 = true then foldU step (step s k).2 r else (step s k).2

/-- what is no row of cells of type T stays as it is -/
def KeepBut (T : TypeId) (w w' : World) : Prop := ∀ (b : Nat) (o : Obj), w.heap[b]? = some o → (∀ cs f, o ≠ Obj.cells cs T f) → w'.heap[b]? = some o
theorem KeepBut.of_fr {T : TypeId} {w w' : World} {g : Nat} {cs : Array Value} (h : Fr (· = g) w w') (hb : Blk w g T cs) : KeepBut T w w' := by
  intro b o ho hn
  have hlt : b < w.heap.size := by
    rcases Nat.lt_or_ge b w.heap.size with hlt | hge
    · exact hlt
    · rw [Array.getElem?_eq_none hge] at ho; cases ho
  rw [h.block b hlt (fun e => ?_)]
  · exact ho
  · subst e
    unfold Blk at hb
    rw [hb] at ho
    injection ho with ho
    exact hn _ _ ho.symm
theorem KeepBut.of_below {T : TypeId} {w w' : World} (h : Below w.heap.size w w') : KeepBut T w w' := by
  intro b o ho _
  have hlt : b < w.heap.size := by
    rcases Nat.lt_or_ge b w.heap.size with hlt | hge
    · exact hlt
    · rw [Array.getElem?_eq_none hge] at ho; cases ho
  rw [h.block b hlt]
  exact ho
/-- what a yield has to do: 'J s w': the ghost state s is what the cells of the yield's own variables hold -/
structure Yields (F : FuncId) (caps : Array Value) (S : Nat → Prop) (B : Nat) {σ : Type} (J : σ → World → Prop) (step : σ → Nat → Bool × σ) (N : Nat) (bound : σ → Nat) : Prop where
  rises : ∀ s k, bound s < k → bound (step s k).2 ≤ k
  call : ∀ s k w, k ≤ N → bound s < k → J s w → B ≤ w.heap.size → Calls Tryz.prog F (#[.int .i64 (k : Int)] ++ caps) w fun e w' => e = .returned (.bool (step s k).1) ∧ J (step s k).2 w' ∧ Fr S w w'
  enter : ∀ args w, (callFunc F args).run Tryz.prog w = .ok (.enter F args) w
  keep : ∀ s w w', J s w → KeepBut 115 w w' → J s w'

def OutR {σ : Type} (J : σ → World → Prop) (step : σ → Nat → Bool × σ) (bound : σ → Nat) (s0 : σ) (S : Nat → Prop) (l : List Int) (p n : Nat) (w0 : World) (k : Nat) (q : Value) (wr : World) : Prop :=
  ∃ (m : Nat) (s : σ), q = .int .i64 (m : Int) ∧ J s wr ∧ Fr S w0 wr ∧ foldU step s (bnds l m) = foldU step s0 (bnds l p) ∧ m ≤ 2147483648 ∧ n - m ≤ k ∧ bound s ≤ m
theorem drop_getD (l : List Int) (m : Nat) (h : m < l.length) : l.drop m = l.getD m 0 :: l.drop (m + 1) := by
  rw [List.drop_eq_getElem_cons h, List.getD_eq_getElem?_getD, List.getElem?_eq_getElem h]; rfl
def InR (J : World → Prop) (S : Nat → Prop) (l : List Int) (q n : Nat) (w0 : World) (g : Nat) (k : Nat) (q6 q8 : Value) (wr : World) : Prop :=
  ∃ (m : Nat) (st : Scan), q6 = .int .i64 (q : Int) ∧ q8 = .int .i64 (m : Int) ∧ Blk wr g 115 st.cells ∧ J wr ∧ Fr S w0 wr ∧ nextB l q = m + runF st (l.drop m) ∧
    0 ≤ st.flags ∧ st.flags ≤ (m : Int) ∧ q < m ∧ m ≤ n ∧ n - m ≤ k
theorem noteF_flags (s : Scan) (c p : Int) (h : 0 ≤ s.flags) : 0 ≤ (noteF s c p).flags ∧ (noteF s c p).flags ≤ s.flags + 1 := by unfold noteF; simp only; split <;> omega
theorem beginF_flags (a : Int) : 0 ≤ (beginF a).flags := (noteF_flags ⟨0, 0, 0, 0⟩ _ _ (by decide)).1
theorem beginF_flags' (a : Int) : (beginF a).flags ≤ 1 := (noteF_flags ⟨0, 0, 0, 0⟩ _ _ (by decide)).2
theorem takesF_flags (s : Scan) (a : Int) (h : 0 ≤ s.flags) : 0 ≤ (takesF s a).flags ∧ (takesF s a).flags ≤ s.flags + 1 := by
  unfold takesF
  split
  · exact noteF_flags _ _ _ h
  · omega
set_option maxRecDepth 100000 in
set_option maxHeartbeats 2000000 in
theorem cwalk_any {σ : Type} (F : FuncId) (caps : Array Value) (S D : Nat → Prop) (J : σ → World → Prop) (step : σ → Nat → Bool × σ) (bound : σ → Nat) (A : Option Addr) (n c : Nat) (l : List Int) (p : Nat) (s0 : σ) (w : World)
    (hl : Ints w D A n l) (hd : ∀ b, D b → b < w.heap.size → ¬ S b) (hn : n ≤ 2147483648) (hp : p ≤ 2147483648) (hy : Yields F caps S w.heap.size J step n bound) (hJ : J s0 w) (hb0 : bound s0 ≤ p) :
    Calls Tryz.prog 37 #[.slice A n c, .int .i64 (p : Int), .func (.func F) #[] caps] w fun e w' => e = .returned (.tuple #[]) ∧ J (foldU step s0 (bnds l p)) w' ∧ Fr S w w' := by
  have hle1 : l.length ≤ n := Nat.le_of_eq hl.len
  have hle2 : n ≤ l.length := Nat.le_of_eq hl.len.symm
  go_enter Tryz.func37, Tryz.ntmps37
  go_wp2_with fail
  go_step3
  go_wp2_with fail
  go_step3
  go_wp2_with fail
  go_loopg [6] (n - p) (fun k q wr => OutR J step bound s0 S l p n w k q wr)
  case atStart => exact ⟨p, s0, rfl, hJ, Fr.refl _ _, rfl, hp, Nat.le_refl _, hb0⟩
  case round =>
    obtain ⟨q, s, rfl, hs, hf, hfold, hq, hk, hbs⟩ := hrel
    have HF := Lib.hid hfold
    clear hfold
    have hl1 := Reads.fr hl hf hd
    by_cases hlt : q < n
    · obtain ⟨ad, rfl, hD, hc⟩ := Ints.at_ hl1 hlt
      obtain ⟨a0, ha0⟩ : ∃ a, l.getD q 0 = a := ⟨_, rfl⟩
      rw [ha0] at hc
      have HA := Lib.hid ha0
      clear ha0
      go_wp2_with fail
      refine (begin_any' _ _).mono ?_
      rintro e w1 ⟨rfl, hb1⟩
      go_wp2_with fail
      have hW : Fr S w (w1.alloc (.cells (beginF a0).cells 115)) := (hf.bel hb1).alloc _
      have hJ1 : J s (w1.alloc (.cells (beginF a0).cells 115)) := hy.keep s _ _ hs (KeepBut.of_below (hb1.alloc hb1.size _))
      have hg : w.heap.size ≤ w1.heap.size := Nat.le_trans hf.size hb1.size
      have hB := Blk.new w1 115 (beginF a0).cells
      go_loopg [6, 8] (n - (q + 1)) (fun k q6 q8 wr2 => InR (J s) S l q n w w1.heap.size k q6 q8 wr2)
      case atStart =>
        refine ⟨q + 1, beginF a0, rfl, by go_num, hB, hJ1, hW, ?_, beginF_flags a0, ?_, by omega, by omega, by omega⟩
        · rw [← HA.out]; rfl
        · have := beginF_flags' a0; omega
      case round =>
        obtain ⟨m, st, rfl, rfl, hb, hs2, hf2, hnx, hfl, hfm, hqm, hmn, hk2⟩ := hrel
        have HN := Lib.hid hnx
        clear hnx
        have hl2 := Reads.fr hl hf2 hd
        by_cases hmlt : m < n
        · obtain ⟨ad', hade, _, hc2⟩ := Ints.at_ hl2 hmlt
          injection hade with hade
          subst hade
          obtain ⟨a1, ha1⟩ : ∃ a, l.getD m 0 = a := ⟨_, rfl⟩
          rw [ha1] at hc2
          have hdr : l.drop m = a1 :: l.drop (m + 1) := by rw [← ha1]; exact drop_getD l m (by omega)
          have HD := Lib.hid hdr
          clear ha1 hc hdr
          cases hj : joinsF st a1
          · go_wp2_with fail
            refine (takes_any _ st a1 _ hb ⟨hfl, by omega⟩).mono ?_
            rintro e w3 ⟨rfl, hsc⟩
            have he := hy.enter
            have hf3 : Fr S w w3 := hf2.call hsc.2 (fun i hi hg' => absurd hg' (by omega))
            have hJ3 : J s w3 := hy.keep s _ _ hs2 (KeepBut.of_fr hsc.2 hb)
            go_wp2_with fail
            refine (hy.call s m w3 (by omega) (by omega) hJ3 hf3.size).mono ?_
            rintro e w4 ⟨rfl, hJ4, hf4⟩
            have hnB : bnds l q = m :: bnds l m := by
              have e1 : nextB l q = m := by rw [HN.out, HD.out]; simp [runF, hj]
              rw [bnds_lt l q (by omega), e1]
            have HB := Lib.hid hnB
            clear hnB he
            cases hst : (step s m).1
            · go_wp2_with fail
              simp only [Exit.noGoto]
              go_end0
              refine ⟨rfl, ?_, hf3.trans hf4⟩
              rw [← HF.out, HB.out]
              simp only [foldU, hst]
              exact hJ4
            · go_wp2_with fail
              go_roundg (n - m)
              case measure => omega
              case rel =>
                refine ⟨m, (step s m).2, rfl, hJ4, hf3.trans hf4, ?_, by omega, Nat.le_refl _, hy.rises s m (by omega)⟩
                rw [← HF.out, HB.out]
                simp only [foldU, hst, if_true]
          · go_wp2_with fail
            refine (takes_any _ st a1 _ hb ⟨hfl, by omega⟩).mono ?_
            rintro e w3 ⟨rfl, hsc⟩
            go_wp2_with fail
            go_roundg (n - (m + 1))
            case measure => omega
            case rel =>
              have hf3 : Fr S w w3 := hf2.call hsc.2 (fun i hi hg' => absurd hg' (by omega))
              have hJ3 : J s w3 := hy.keep s _ _ hs2 (KeepBut.of_fr hsc.2 hb)
              have hfl' := takesF_flags st a1 hfl
              refine ⟨m + 1, takesF st a1, rfl, by go_num, hsc.1, hJ3, hf3, ?_, hfl'.1, by omega, by omega, by omega, by omega⟩
              rw [HN.out, HD.out]
              simp only [runF, hj, if_true]
              omega
        · have hmn' : m = n := by omega
          have hf3 := hf2
          subst hmn'
          have he := hy.enter
          go_wp2_with fail
          refine (hy.call s m _ (by omega) (by omega) hs2 hf2.size).mono ?_
          rintro e w4 ⟨rfl, hJ4, hf4⟩
          have hnB : bnds l q = [m] := by
            have e1 : nextB l q = m := by rw [HN.out, List.drop_eq_nil_of_le (by omega)]; simp [runF]
            rw [bnds_lt l q (by omega), e1, bnds_ge l m (by omega)]
          have HB := Lib.hid hnB
          clear hnB he
          go_wp2_with fail
          simp only [Exit.noGoto]
          go_end0
          refine ⟨rfl, ?_, hf2.trans hf4⟩
          rw [← HF.out, HB.out]
          simp only [foldU, ite_self]
          exact hJ4
    · go_wp2_with fail
      simp only [Exit.noGoto]
      go_end0
      refine ⟨rfl, ?_, hf⟩
      rw [← HF.out, bnds_ge l q (by omega)]
      exact hs
end Go.Proofs.YtoafogibfokblaaGreat
namespace Go.Proofs.YtoafogibfokblaaGreat
open Go.RowKit

theorem cell_keep {w w1 : World} {p : Addr} {v : Value} (hb : Below w.heap.size w w1) (h : w.cell? p = some v) : w1.cell? p = some v := (hb.cell (lt_of_cell h)).trans h
theorem bdrew {w w1 : World} (h : Below w.drew.heap.size w.drew w1) : Below w.heap.size w w1 := ⟨h.os, h.tape, h.output, h.size, h.block⟩
theorem keep2 {w w1 : World} {p q : Addr} {u v : Value} (hb : Below w.heap.size w w1) (h : w.cell? p = some u ∧ w.cell? q = some v) : w1.cell? p = some u ∧ w1.cell? q = some v :=
  ⟨cell_keep hb h.1, cell_keep hb h.2⟩
theorem add_pos (a : Addr) (n : Nat) (h : 0 < n) : a.add n = ⟨a.block, a.off + n, none⟩ := by unfold Addr.add; rw [if_neg (by omega)]
/-- do two neighbours part by themselves? -/
noncomputable def sureF (a b : Int) : Bool := (apartB (classF a) || apartB (classF b)) && !(classF a == 1 && classF b == 2)
noncomputable def safeG (l : List Int) : Nat → Nat
  | 0 => 0
  | k + 1 => if sureF (l.getD k 0) (l.getD (k + 1) 0) = true then k + 1 else safeG l k
noncomputable def safeF (l : List Int) (p : Nat) : Nat := safeG l (min p l.length - 1)
def SafR (l : List Int) (p n : Nat) (w0 : World) (k : Nat) (q5 : Value) (wr : World) : Prop :=
  ∃ q : Int, safeG l q.toNat = safeF l p ∧ -1 ≤ q ∧ q < n ∧ q < k ∧ Below w0.heap.size w0 wr ∧ q5 = .int .i64 q
set_option maxRecDepth 100000 in
set_option maxHeartbeats 2000000 in
theorem safe_any (D : Nat → Prop) (A : Option Addr) (n c : Nat) (l : List Int) (p : Nat) (w : World) (hl : Ints w D A n l) (hn : n ≤ 2147483648) (hp : p ≤ 2147483648) :
    Calls Tryz.prog 38 #[.slice A n c, .int .i64 (p : Int)] w fun e w' => e = .returned (.int .i64 (safeF l p : Nat)) ∧ Below w.heap.size w w' := by
  have hle1 : l.length ≤ n := Nat.le_of_eq hl.len
  have hle2 : n ≤ l.length := Nat.le_of_eq hl.len.symm
  go_enter Tryz.func38, Tryz.ntmps38
  go_wp2_with fail
  all_goals
    go_loopg [5] (min p n) (fun k q wr => SafR l p n w k q wr)
    case atStart =>
      refine ⟨_, ?_, ?_, ?_, ?_, Below.refl _ _, rfl⟩
      · unfold safeF; congr 1; omega
      · omega
      · omega
      · omega
    case round =>
      obtain ⟨q, hg, hq0, hqn, hk, hb, rfl⟩ := hrel
      have HG := Lib.hid hg
      clear hg
      have hl1 := Reads.below hl hb
      by_cases hpos : 0 < q
      · obtain ⟨k, rfl⟩ : ∃ k : Nat, q = (k : Int) + 1 := ⟨(q - 1).toNat, by omega⟩
        obtain ⟨ad, rfl, hD, hc⟩ := Ints.at_ hl1 (show k < n by omega)
        obtain ⟨ad', hade, _, hc2⟩ := Ints.at_ hl1 (show k + 1 < n by omega)
        injection hade with hade
        subst hade
        rw [add_pos ad (k + 1) (by omega)] at hc2
        obtain ⟨a1, ha1⟩ : ∃ a, l.getD k 0 = a := ⟨_, rfl⟩
        obtain ⟨a2, ha2⟩ : ∃ a, l.getD (k + 1) 0 = a := ⟨_, rfl⟩
        rw [ha1] at hc
        rw [ha2] at hc2
        have hgs : safeG l ((k : Int) + 1).toNat = if sureF a1 a2 = true then k + 1 else safeG l k := by
          rw [show ((k : Int) + 1).toNat = k + 1 by omega, safeG, ha1, ha2]
        have HS := Lib.hid hgs
        clear ha1 ha2 hgs
        go_upto_region 4 with fail
        have x0 : IntKind.i64.wrap (k : Int) = (k : Int) := IntWalk.i64_in _ (by omega)
        have x1 : (0 : Int) ≤ (k : Int) + 1 := by omega
        have x2 : (k : Int) + 1 < (n : Int) := by omega
        have x3 : ((k : Int) + 1).toNat = k + 1 := by omega
        have x4 : (k : Int) < (n : Int) := by omega
        have x5 : k < n := by omega
        go_cut [6, 7] (fun s6 s7 wx => s6 = .int .i64 (classF a1) ∧ s7 = .int .i64 (classF a2) ∧ Below wr.heap.size wr wx)
        case first =>
          go_region_held3 (fun w' => w'.cell? (ad.add k) = some (.int .i64 a1) ∧ w'.cell? ⟨ad.block, ad.off + (k + 1), none⟩ = some (.int .i64 a2)) (first | assumption | exact ⟨hc, hc2⟩ | exact keep2 (by assumption) (by assumption)) (first | (go_at_call 64; refine (class_any _ _).mono ?_; rintro e w1 ⟨rfl, hb1⟩))
          all_goals
            go_wp2_with fail
            go_meet
            exact ⟨rfl, rfl, bseq (bdrew (by assumption)) (by assumption)⟩
        case rest =>
          obtain ⟨rfl, rfl, hbx⟩ := hcut
          clear x0 x1 x2 x3 x4 x5 hc hc2
          cases h1 : apartB (classF a1) <;> cases h2 : apartB (classF a2) <;> cases h3 : (classF a1 == 1) <;> cases h4 : (classF a2 == 2)
          all_goals
            go_wp2_with (go_at_call 65; refine (apart_any _ _).mono ?_; rintro e w1 ⟨rfl, rfl⟩)
            first
              | (go_ret
                 refine ⟨ret_i ?_, bseq hb hbx⟩
                 rw [← HG.out, HS.out]
                 simp [sureF, h1, h2, h3, h4]; done)
              | (go_roundg (k + 1)
                 case measure => omega
                 case rel =>
                   refine ⟨k, ?_, by omega, by omega, by omega, bseq hb hbx, by go_num⟩
                   rw [← HG.out, HS.out]
                   simp [sureF, h1, h2, h3, h4])
      · have hsafe : safeF l p = 0 := by rw [← HG.out, show q.toNat = 0 by omega]; rfl
        have HS := Lib.hid hsafe
        clear hsafe
        go_wp2_with fail
        go_ret
        exact ⟨ret_i (by rw [HS.out]; rfl), hb⟩

/-! ### a captured variable that holds a slice of integers of the call's own -/
theorem int_info : (Tryz.prog.info? 3).map (fun i => (i.zero, i.size, i.bytes)) = some (some (.int .i64 0), 1, 8) := by kernel_rfl
def OutAt (w : World) (base g : Nat) (xs : List Int) : Prop := ∃ v, Blk w g 37 #[v] ∧ w.ownsRow base 3 1 v xs.length (xs.map (Value.int .i64))
theorem OutAt.keep {w w' : World} {base g : Nat} {xs : List Int} {T : TypeId} (h : OutAt w base g xs) (hk : KeepBut T w w') (h1 : T ≠ 37) (h2 : T ≠ 3) : OutAt w' base g xs := by
  obtain ⟨v, hb, hl, ho⟩ := h
  refine ⟨v, hk g _ hb (fun cs f e => h1 (by injection e with _ e; exact e.symm)), hl, ?_⟩
  rcases ho with ho | ⟨r, cap, cur, e1, e2, e3, e4⟩
  · exact .inl ho
  · exact .inr ⟨r, cap, cur, e1, e2, hk r _ e3 (fun cs f e => h2 (by injection e with _ e; exact e.symm)), e4⟩
theorem own_blk_ne {w : World} {base g : Nat} {e t : TypeId} {cs : Array Value} {size n : Nat} {v : Value} {xs : List Value} (h : w.ownsRow base e size v n xs) (hg : Blk w g t cs) (hne : e ≠ t) : v.ownBlock ≠ some g := by
  rcases h.2 with ⟨rfl, _⟩ | ⟨g', cap, cur, rfl, _, hh, _⟩
  · simp [Value.ownBlock]
  · intro he
    have : g' = g := by simpa [Value.ownBlock] using he
    subst this
    exact Blk.ne_ (t := e) hh hg hne rfl
theorem own_ge {w : World} {base r : Nat} {e : TypeId} {size n : Nat} {v : Value} {xs : List Value} (h : w.ownsRow base e size v n xs) (hr : v.ownBlock = some r) : base ≤ r := by
  rcases h.2 with ⟨rfl, _⟩ | ⟨g', cap, cur, rfl, hb, _⟩
  · simp [Value.ownBlock] at hr
  · have : g' = r := by simpa [Value.ownBlock] using hr
    omega
set_option maxRecDepth 100000 in
set_option maxHeartbeats 1000000 in
theorem breaks1_any (W : World) (g k : Nat) (xs : List Int) (w : World) (h : OutAt w W.heap.size g xs) (hg : W.heap.size ≤ g) (hW : W.heap.size ≤ w.heap.size) (hn : xs.length ≤ 2147483648) :
    Calls Tryz.prog 91 #[.int .i64 (k : Int), .pointer (some ⟨g, 0, none⟩)] w fun e w' =>
      e = .returned (.bool true) ∧ OutAt w' W.heap.size g (xs ++ [(k : Int)]) ∧ Fr (fun b => W.heap.size ≤ b) w w' := by
  obtain ⟨v, hb, ho⟩ := h
  obtain ⟨i0, hi, hz0, hz1, hz2⟩ := info_parts int_info
  have c0 := hb.cell 0
  have f0 := hb.frozen 0
  simp at c0
  have hglt := hb.lt
  go_enter Tryz.func91, Tryz.ntmps91
  go_wp2_with (at_builtin; refine wpList_append_own _ rfl (.tmp 4) (.tmp 6) 37 rfl W.heap.size 3 i0 (.int .i64 0) 1 8 Tryz.underlying37 hi hz0 hz1 hz2 rfl (by decide) v xs.length _ rfl (ho.alloc _) ⟨w.heap.size, 0, none⟩ 1 1 [.int .i64 (k : Int)] rfl rfl ?c1 ?c2 ?c3 ?c4 ?c5 ?_)
  case c1 => exact cell_one_new _ _ _
  case c2 => simp [Value.oneCell']
  case c3 => unfold maxLen; omega
  case c4 => omega
  case c5 => simp; omega
  intro v1 w1 hown1 hgr _
  have hb1 : Blk w1 g 37 #[v] := (hb.alloc _).grown hgr (fun e => own_blk_ne ho hb (by decide) e.symm)
  have hfr : Fr (fun b => W.heap.size ≤ b) w w1 := ((Fr.refl _ w).alloc _).grown hgr (fun r hr _ => own_ge ho hr)
  have c1 := hb1.cell 0
  have f1 := hb1.frozen 0
  simp at c1
  clear c0 f0
  obtain ⟨r, cap, rfl, _, hrl⟩ := hown1.form (by omega)
  go_wp2_with fail
  go_ret
  refine ⟨rfl, ⟨_, hb1.set_ 0 _, ?_⟩, hfr.setCell (.inl hg) _⟩
  rw [List.length_append, List.map_append]
  exact ownsRow_setCell_other hown1 (own_blk_ne hown1 hb1 (by decide)) _
theorem foldU_out (r : List Nat) : ∀ s : List Int, foldU (fun s (k : Nat) => (true, s ++ [(k : Int)])) s r = s ++ r.map (fun k : Nat => (k : Int)) := by
  induction r with
  | nil => intro s; simp [foldU]
  | cons k r ih => intro s; simp [foldU, ih]
/-- all boundaries of a list of atoms -/
noncomputable def allB (l : List Int) : List Int := 0 :: (bnds l 0).map (fun k : Nat => (k : Int))
set_option maxRecDepth 100000 in
set_option maxHeartbeats 1000000 in
theorem breaks_any (D : Nat → Prop) (A : Option Addr) (n c : Nat) (l : List Int) (w : World) (hl : Ints w D A n l) (hn : n ≤ 2147483647) :
    Calls Tryz.prog 72 #[.slice A n c] w fun e w' => ∃ v, e = .returned v ∧ w'.ownsRow w.heap.size 3 1 v (allB l).length ((allB l).map (Value.int .i64)) ∧ Below w.heap.size w w' := by
  go_enter Tryz.func72, Tryz.ntmps72
  go_wp2_with fail
  have hB0 : OutAt ((w.alloc (.cells #[.int .i64 0] 3)).alloc (.cells #[.slice (some ⟨w.heap.size, 0, none⟩) 1 1] 37)) w.heap.size (w.heap.size + 1) [0] := by
    refine ⟨.slice (some ⟨w.heap.size, 0, none⟩) 1 1, ?_, rfl, .inr ⟨w.heap.size, 1, #[.int .i64 0], rfl, Nat.le_refl _, ?_, Nat.le_refl _, by unfold maxLen; omega, rfl, rfl⟩⟩
    · have := Blk.new (w.alloc (.cells #[.int .i64 0] 3)) 37 #[.slice (some ⟨w.heap.size, 0, none⟩) 1 1]
      simpa using this
    · exact (Blk.new w 3 #[.int .i64 0]).alloc _
  have hW : Below w.heap.size w ((w.alloc (.cells #[.int .i64 0] 3)).alloc (.cells #[.slice (some ⟨w.heap.size, 0, none⟩) 1 1] 37)) := ((Below.refl _ w).alloc (Nat.le_refl _) _).alloc (by simp) _
  have hl1 : Ints ((w.alloc (.cells #[.int .i64 0] 3)).alloc (.cells #[.slice (some ⟨w.heap.size, 0, none⟩) 1 1] 37)) (fun b => b < w.heap.size) A n l :=
    Reads.below (Reads.more hl (fun b _ h => h) (by omega)) hW
  have hy : Yields 91 #[.pointer (some ⟨w.heap.size + 1, 0, none⟩)] (fun b => w.heap.size ≤ b) ((w.alloc (.cells #[.int .i64 0] 3)).alloc (.cells #[.slice (some ⟨w.heap.size, 0, none⟩) 1 1] 37)).heap.size
      (fun s w' => OutAt w' w.heap.size (w.heap.size + 1) s) (fun s (k : Nat) => (true, s ++ [(k : Int)])) n (fun s => s.length - 1) := by
    constructor
    · intro s k h
      simp only [List.length_append, List.length_singleton]
      omega
    · intro s k w1 hk hb ho hz
      simp only [World.size_alloc] at hz
      exact breaks1_any w (w.heap.size + 1) k s w1 ho (by omega) (by omega) (by omega)
    · exact Tryz.call91
    · intro s w1 w2 ho hk
      exact ho.keep hk (by decide) (by decide)
  refine (cwalk_any _ _ _ _ _ _ _ A n c l 0 [0] _ hl1 (fun b h _ h' => by omega) (by omega) (by omega) hy hB0 (by simp)).mono ?_
  rintro e w1 ⟨rfl, ho, hf⟩
  rw [foldU_out] at ho
  obtain ⟨v, hb, hown⟩ := ho
  have c0 := hb.cell 0
  simp at c0
  have hown' : w1.ownsRow w.heap.size 3 1 v (allB l).length ((allB l).map (Value.int .i64)) := hown
  clear hown
  obtain ⟨r, cap, rfl, _, hrl⟩ := hown'.form (by simp [allB])
  have HO := Lib.hid hown'
  clear hown'
  go_wp2_with fail
  go_ret
  exact ⟨_, rfl, HO.out, bfr hW hf (fun i hi => hi)⟩
end Go.Proofs.YtoafogibfokblaaGreat
