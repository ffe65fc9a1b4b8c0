/-
  The walks of package motion, first part: rows (a line, its atoms, the boundaries of its clusters).
-/
import Derived.Test.YtoafogibfokblaaGreatLLines2
import Derived.Test.YtoafogibfokblaaGreatLOpen
import Derived.Test.YtoafogibfokblaaGreatLCluster5
set_option linter.unusedSimpArgs false
set_option linter.unusedVariables false
namespace Go.Proofs.YtoafogibfokblaaGreat
open Go.RowKit

/-- what stands in a line ahead of its ending -/
def cont (ds : List (Int × Int)) (i : Nat) : List Int := seg (lineF ds i).from_ (lineF ds i).to_ (ds.map Prod.fst)
def rowV (L : Ln) (i : Int) (A1 : Option Addr) (n1 c1 : Nat) (A2 : Option Addr) (n2 c2 : Nat) : Array Value := #[.int .i64 L.from_, .int .i64 L.to_, .int .i64 L.next, .int .i64 L.brk, .int .i64 i, .slice A1 n1 c1, .slice A2 n2 c2]
def RowC (w : World) (D : Nat → Prop) (L : Ln) (i : Int) (C : List Int) (v : Array Value) : Prop :=
  ∃ A1 n1 c1 A2 n2 c2, v = rowV L i A1 n1 c1 A2 n2 c2 ∧ Ints w D A1 n1 C ∧ n1 ≤ c1 ∧ Ints w D A2 n2 (allB C) ∧ n2 ≤ c2
theorem RowC.below {w w' : World} {D : Nat → Prop} {L : Ln} {i : Int} {C : List Int} {v : Array Value} (h : RowC w D L i C v) (hb : Below w.heap.size w w') : RowC w' D L i C v := by
  obtain ⟨A1, n1, c1, A2, n2, c2, e, h1, h2, h3, h4⟩ := h
  exact ⟨A1, n1, c1, A2, n2, c2, e, Reads.below h1 hb, h2, Reads.below h3 hb, h4⟩
theorem RowC.more {w : World} {D D' : Nat → Prop} {L : Ln} {i : Int} {C : List Int} {v : Array Value} (h : RowC w D L i C v) (hD : ∀ b, D b → b < w.heap.size → D' b) : RowC w D' L i C v := by
  obtain ⟨A1, n1, c1, A2, n2, c2, e, h1, h2, h3, h4⟩ := h
  exact ⟨A1, n1, c1, A2, n2, c2, e, Reads.more h1 hD (by decide), h2, Reads.more h3 hD (by decide), h4⟩
def RowPost (L : Ln) (i : Int) (C : List Int) (w : World) (e : Ending) (w' : World) : Prop := ∃ v, e = .returned (.agg v) ∧ RowC w' (fun b => w.heap.size ≤ b) L i C v ∧ Below w.heap.size w w'
theorem lineF_bd {ds : List (Int × Int)} (hp : PosD ds) {i : Nat} (hi : i ≤ totE ds) : 0 ≤ (lineF ds i).from_ ∧ (lineF ds i).from_ ≤ (lineF ds i).to_ ∧ (lineF ds i).to_ ≤ (lineF ds i).next ∧ (lineF ds i).next ≤ ds.length := by
  have h0 := sk_cnt hp hi
  unfold lineF
  split
  · rename_i hlt
    have h1 := sk_lt hp hlt
    have h2 := sk_cnt hp (k := i + 1) hlt
    unfold closedF
    split
    · dsimp only; omega
    · split
      · dsimp only; omega
      · dsimp only; omega
  · dsimp only; omega
theorem cont_len {ds : List (Int × Int)} (hp : PosD ds) {i : Nat} (hi : i ≤ totE ds) : ((cont ds i).length : Int) = (lineF ds i).to_ - (lineF ds i).from_ := by
  have h := lineF_bd hp hi
  unfold cont seg
  simp
  omega
theorem line_keep {w w1 : World} {b : Nat} {u0 u1 u2 u3 : Value} (hb : Below w.heap.size w w1) (h : w.cell? ⟨b, 0, none⟩ = some u0 ∧ w.cell? ⟨b, 1, none⟩ = some u1 ∧ w.cell? ⟨b, 2, none⟩ = some u2 ∧ w.cell? ⟨b, 3, none⟩ = some u3) :
    w1.cell? ⟨b, 0, none⟩ = some u0 ∧ w1.cell? ⟨b, 1, none⟩ = some u1 ∧ w1.cell? ⟨b, 2, none⟩ = some u2 ∧ w1.cell? ⟨b, 3, none⟩ = some u3 :=
  ⟨cell_keep hb h.1, cell_keep hb h.2.1, cell_keep hb h.2.2.1, cell_keep hb h.2.2.2⟩
theorem line_alloc {w : World} {b : Nat} {u0 u1 u2 u3 : Value} (o : Obj) (h : w.cell? ⟨b, 0, none⟩ = some u0 ∧ w.cell? ⟨b, 1, none⟩ = some u1 ∧ w.cell? ⟨b, 2, none⟩ = some u2 ∧ w.cell? ⟨b, 3, none⟩ = some u3) :
    (w.alloc o).cell? ⟨b, 0, none⟩ = some u0 ∧ (w.alloc o).cell? ⟨b, 1, none⟩ = some u1 ∧ (w.alloc o).cell? ⟨b, 2, none⟩ = some u2 ∧ (w.alloc o).cell? ⟨b, 3, none⟩ = some u3 := line_keep (balloc (Below.refl _ _)) h
theorem line_set {w : World} {p : Addr} {u : Value} {b : Nat} {u0 u1 u2 u3 : Value} (hp : b ≠ p.block) (h : w.cell? ⟨b, 0, none⟩ = some u0 ∧ w.cell? ⟨b, 1, none⟩ = some u1 ∧ w.cell? ⟨b, 2, none⟩ = some u2 ∧ w.cell? ⟨b, 3, none⟩ = some u3) :
    (w.setCell p u).cell? ⟨b, 0, none⟩ = some u0 ∧ (w.setCell p u).cell? ⟨b, 1, none⟩ = some u1 ∧ (w.setCell p u).cell? ⟨b, 2, none⟩ = some u2 ∧ (w.setCell p u).cell? ⟨b, 3, none⟩ = some u3 := by
  have hh := Below.heap_setCell w p u b hp
  exact ⟨(World.cell?_of_block (w := w) hh).trans h.1, (World.cell?_of_block (w := w) hh).trans h.2.1, (World.cell?_of_block (w := w) hh).trans h.2.2.1, (World.cell?_of_block (w := w) hh).trans h.2.2.2⟩
theorem line_allocd {w : World} {b : Nat} {u0 u1 u2 u3 : Value} (o : Obj) (h : w.drew.cell? ⟨b, 0, none⟩ = some u0 ∧ w.drew.cell? ⟨b, 1, none⟩ = some u1 ∧ w.drew.cell? ⟨b, 2, none⟩ = some u2 ∧ w.drew.cell? ⟨b, 3, none⟩ = some u3) :
    (w.alloc o).drew.cell? ⟨b, 0, none⟩ = some u0 ∧ (w.alloc o).drew.cell? ⟨b, 1, none⟩ = some u1 ∧ (w.alloc o).drew.cell? ⟨b, 2, none⟩ = some u2 ∧ (w.alloc o).drew.cell? ⟨b, 3, none⟩ = some u3 := line_keep (w := w) (w1 := (w.alloc o).drew) (Below.drew (balloc (Below.refl _ w))) h
theorem row_facts {w : World} {b : Nat} {L : Ln} {i : Int} {A1 A2 : Option Addr} {n1 c1 n2 c2 : Nat} (h : Blk w b 109 (rowV L i A1 n1 c1 A2 n2 c2)) :
    (w.cell? ⟨b, 0, none⟩ = some (.int .i64 L.from_) ∧ w.cell? ⟨b, 1, none⟩ = some (.int .i64 L.to_) ∧ w.cell? ⟨b, 2, none⟩ = some (.int .i64 L.next) ∧ w.cell? ⟨b, 3, none⟩ = some (.int .i64 L.brk) ∧ w.cell? ⟨b, 4, none⟩ = some (.int .i64 i) ∧
      w.cell? ⟨b, 5, none⟩ = some (.slice A1 n1 c1) ∧ w.cell? ⟨b, 6, none⟩ = some (.slice A2 n2 c2)) ∧
    w.frozen? ⟨b, 0, none⟩ = false ∧ w.frozen? ⟨b, 1, none⟩ = false ∧ w.frozen? ⟨b, 2, none⟩ = false ∧ w.frozen? ⟨b, 3, none⟩ = false ∧ w.frozen? ⟨b, 4, none⟩ = false ∧ w.frozen? ⟨b, 5, none⟩ = false ∧ w.frozen? ⟨b, 6, none⟩ = false :=
  ⟨⟨h.cell 0, h.cell 1, h.cell 2, h.cell 3, h.cell 4, h.cell 5, h.cell 6⟩, h.frozen 0, h.frozen 1, h.frozen 2, h.frozen 3, h.frozen 4, h.frozen 5, h.frozen 6⟩
theorem row_new (w1 : World) {w3 : World} (o : Obj) (hb : Below ((w1.alloc o).alloc (.cells (rowV ⟨0, 0, 0, 0⟩ 0 none 0 0 none 0 0) 109)).drew.heap.size ((w1.alloc o).alloc (.cells (rowV ⟨0, 0, 0, 0⟩ 0 none 0 0 none 0 0) 109)).drew w3) :
    Blk w3 (w1.heap.size + 1) 109 (rowV ⟨0, 0, 0, 0⟩ 0 none 0 0 none 0 0) := by
  have h := (Blk.new (w1.alloc o) 109 (rowV ⟨0, 0, 0, 0⟩ 0 none 0 0 none 0 0)).drew
  simp only [World.size_alloc] at h
  exact h.below hb
def setR (w : World) (b : Nat) (x0 x1 x2 x3 x4 : Int) (v5 v6 : Value) : World :=
  ((((((w.setCell ⟨b, 0, none⟩ (.int .i64 x0)).setCell ⟨b, 1, none⟩ (.int .i64 x1)).setCell ⟨b, 2, none⟩ (.int .i64 x2)).setCell ⟨b, 3, none⟩ (.int .i64 x3)).setCell ⟨b, 4, none⟩ (.int .i64 x4)).setCell ⟨b, 5, none⟩ v5).setCell ⟨b, 6, none⟩ v6
theorem setR_fr (w : World) (b : Nat) (x0 x1 x2 x3 x4 : Int) (v5 v6 : Value) : Fr (· = b) w (setR w b x0 x1 x2 x3 x4 v5 v6) :=
  (((((((Fr.refl _ w).set1 0 _).set1 1 _).set1 2 _).set1 3 _).set1 4 _).set1 5 _).set1 6 _
theorem setR_own {w : World} {b : Nat} {T : TypeId} {L L' : Ln} {i i' : Int} {A1 A2 A1' A2' : Option Addr} {n1 c1 n2 c2 n1' c1' n2' c2' : Nat} (h : Blk w b T (rowV L i A1 n1 c1 A2 n2 c2)) :
    Blk (setR w b L'.from_ L'.to_ L'.next L'.brk i' (.slice A1' n1' c1') (.slice A2' n2' c2')) b T (rowV L' i' A1' n1' c1' A2' n2' c2') :=
  (((((((h.set_ 0 _).set_ 1 _).set_ 2 _).set_ 3 _).set_ 4 _).set_ 5 _).set_ 6 _).eq_ (by simp [rowV])
def NrCut (L : Ln) (i : Int) (C : List Int) (w : World) (s7 : Value) (wx : World) : Prop :=
  ∃ b A n c, s7 = .pointer (some ⟨b, 0, none⟩) ∧ Blk wx b 109 (rowV L i A n c none 0 0) ∧ Ints wx (fun k => w.heap.size < k ∧ k ≠ b) A n C ∧ n ≤ c ∧ Below w.heap.size w wx ∧ w.heap.size < b ∧ Blk wx w.heap.size 109 (rowV ⟨0, 0, 0, 0⟩ 0 none 0 0 none 0 0)
theorem nr_two {w w3 : World} {b B n c : Nat} {i : Int} {L : Ln} {A : Option Addr} {C : List Int} {L0 : Ln} {i0 : Int} {A1 A2 : Option Addr} {n1 c1 n2 c2 : Nat} (hbz : Blk w3 b 109 (rowV L0 i0 A1 n1 c1 A2 n2 c2)) (ho : w3.ownsRow B 3 1 (.slice A n c) n (C.map (Value.int .i64))) (hc : n ≤ c) (hw : Below w.heap.size w w3) (hwb : w.heap.size < b) (hr : Blk w3 w.heap.size 109 (rowV ⟨0, 0, 0, 0⟩ 0 none 0 0 none 0 0))
    (hfr : Fr (· = b) w3 (setR w3 b L.from_ L.to_ L.next L.brk i (.slice A n c) (.slice none 0 0))) (hB : ∀ k, B ≤ k → b < k) : NrCut L i C w (.pointer (some ⟨b, 0, none⟩)) (setR w3 b L.from_ L.to_ L.next L.brk i (.slice A n c) (.slice none 0 0)) := by
  refine ⟨b, A, n, c, rfl, setR_own hbz, ?_, hc, bfr hw hfr (fun k hk => by rw [hk]; exact Nat.le_of_lt hwb), hwb, hr.fr hfr (Nat.ne_of_lt hwb)⟩
  refine Reads.more (D := fun k => b < k) ?_ (fun k hk _ => ⟨Nat.lt_trans hwb hk, Nat.ne_of_gt hk⟩) (by decide)
  exact Reads.fr (Reads.more (Reads.of_own ho) (fun k hk _ => hB k hk) (by decide)) hfr (fun k hk _ e => by rw [e] at hk; exact Nat.lt_irrefl _ hk)
theorem row_fin {w w4 : World} {b B n c c2 : Nat} {i : Int} {L : Ln} {A A2 : Option Addr} {C : List Int} (hwb : w.heap.size < b) (hi : Ints w4 (fun k => w.heap.size < k ∧ k ≠ b) A n C) (hnc : n ≤ c)
    (ho : w4.ownsRow B 3 1 (.slice A2 (allB C).length c2) (allB C).length ((allB C).map (Value.int .i64))) (hB : b < B) (hc2 : (allB C).length ≤ c2) (hw : Below w.heap.size w w4) :
    RowPost L i C w (.returned (.agg (rowV L i A n c A2 (allB C).length c2))) (setR (w4.setCell ⟨b, 6, none⟩ (.slice A2 (allB C).length c2)) w.heap.size L.from_ L.to_ L.next L.brk i (.slice A n c) (.slice A2 (allB C).length c2)) := by
  have h1 : Fr (fun k => k = b ∨ k = w.heap.size) w4 (w4.setCell ⟨b, 6, none⟩ (.slice A2 (allB C).length c2)) := (Fr.refl _ _).setCell (.inl (.inl rfl)) _
  have hfr := h1.call (setR_fr _ w.heap.size L.from_ L.to_ L.next L.brk i (.slice A n c) (.slice A2 (allB C).length c2)) (fun k _ hk => .inr hk)
  refine ⟨_, rfl, ⟨A, n, c, A2, _, c2, rfl, ?_, hnc, ?_, hc2⟩, bfr hw hfr (fun k hk => by rcases hk with rfl | rfl; exact Nat.le_of_lt hwb; exact Nat.le_refl _)⟩
  · exact Reads.more (Reads.fr hi hfr (fun k hk _ e => by rcases e with rfl | rfl; exact hk.2 rfl; exact Nat.lt_irrefl _ hk.1)) (fun k hk _ => Nat.le_of_lt hk.1) (by decide)
  · exact Reads.more (Reads.fr (Reads.of_own ho) hfr (fun k hk _ e => by rcases e with rfl | rfl <;> omega)) (fun k hk _ => by omega) (by decide)
set_option maxRecDepth 100000 in
set_option maxHeartbeats 1000000 in
theorem newRow_any (D : Nat → Prop) (g : Nat) (enc : Int) (ds : List (Int × Int)) (i : Nat) (w : World) (h : TextAt w D g enc ds) (hi : i ≤ totE ds) :
    Calls Tryz.prog 76 #[.pointer (some ⟨g, 0, none⟩), .int .i64 (i : Int)] w fun e w' => RowPost (lineF ds i) i (cont ds i) w e w' := by
  have hp := h.pos
  have hlen := h.len
  have hbd := lineF_bd hp hi
  have hcl := cont_len hp hi
  have ha := fun (w' : World) (hb : Below w.heap.size w w') => at_line D g enc ds i w' (h.below hb) hi
  have hs := fun (w' : World) (hb : Below w.heap.size w w') => tatoms_any D g enc ds (lineF ds i).from_ (lineF ds i).to_ w' (h.below hb) (by omega) (by omega)
  have hc : seg (lineF ds i).from_ (lineF ds i).to_ (ds.map Prod.fst) = cont ds i := rfl
  rw [hc] at hs
  obtain ⟨C, hC⟩ : ∃ C, cont ds i = C := ⟨_, rfl⟩
  rw [hC] at hs hcl ⊢
  obtain ⟨⟨x0, x1, x2, x3⟩, hL⟩ : ∃ L, lineF ds i = L := ⟨_, rfl⟩
  rw [hL] at ha hs hbd hcl ⊢
  dsimp only at hbd hcl hs
  simp only [Ln.cells] at ha
  have HA := Lib.hid ha
  have HS := Lib.hid hs
  have HCL := Lib.hid hcl
  clear ha hs hc hC hL hi hcl
  go_enter Tryz.func76, Tryz.ntmps76
  go_wp2_with fail
  refine (HA.out _ (balloc (Below.refl _ w))).mono ?_
  rintro e w1 ⟨rfl, hb1⟩
  have hW1 := bseq (balloc (Below.refl _ w)) hb1
  have hR1 : Blk w1 w.heap.size 109 (rowV ⟨0, 0, 0, 0⟩ 0 none 0 0 none 0 0) := (Blk.new w _ _).below hb1
  have hz1 : w.heap.size + 1 ≤ w1.heap.size := by have := hb1.size; simp only [World.size_alloc] at this; omega
  go_upto_region 2 with fail
  have hbl := Blk.new w1 33 (Ln.mk x0 x1 x2 x3).cells
  obtain ⟨⟨z0, z1, z2, z3⟩, _⟩ := line_facts hbl
  have hW2 := balloc (o := .cells (Ln.mk x0 x1 x2 x3).cells 33) hW1
  simp only [Ln.cells] at hbl z0 z1 z2 z3 hW2
  have HBL := Lib.hid hbl
  have HW2 := Lib.hid hW2
  clear hbl hW2
  go_cut [7] (fun s7 wx => NrCut ⟨x0, x1, x2, x3⟩ i C w s7 wx)
  case first =>
    have s0 : (w1.alloc (.cells #[.int .i64 x0, .int .i64 x1, .int .i64 x2, .int .i64 x3] 33)).drew.cell? ⟨w1.heap.size, 0, none⟩ = some (.int .i64 x0) ∧ (w1.alloc (.cells #[.int .i64 x0, .int .i64 x1, .int .i64 x2, .int .i64 x3] 33)).drew.cell? ⟨w1.heap.size, 1, none⟩ = some (.int .i64 x1) ∧
        (w1.alloc (.cells #[.int .i64 x0, .int .i64 x1, .int .i64 x2, .int .i64 x3] 33)).drew.cell? ⟨w1.heap.size, 2, none⟩ = some (.int .i64 x2) ∧ (w1.alloc (.cells #[.int .i64 x0, .int .i64 x1, .int .i64 x2, .int .i64 x3] 33)).drew.cell? ⟨w1.heap.size, 3, none⟩ = some (.int .i64 x3) := ⟨z0, z1, z2, z3⟩
    go_region_held3 (fun w' => w'.cell? ⟨w1.heap.size, 0, none⟩ = some (.int .i64 x0) ∧ w'.cell? ⟨w1.heap.size, 1, none⟩ = some (.int .i64 x1) ∧ w'.cell? ⟨w1.heap.size, 2, none⟩ = some (.int .i64 x2) ∧ w'.cell? ⟨w1.heap.size, 3, none⟩ = some (.int .i64 x3)) (first | (with_reducible assumption) | ((with_reducible refine line_alloc _ ?_); with_reducible assumption) | ((repeat (with_reducible refine line_set (by dsimp only; omega) ?_)); (first | (with_reducible assumption) | ((with_reducible refine line_alloc _ ?_); with_reducible assumption))) | ((with_reducible refine line_allocd _ ?_); with_reducible assumption)) (first | (go_at_call 13; (with_reducible refine (HS.out _ (Below.drew HW2.out)).mono ?_); rintro e w3 ⟨v, rfl, ho, hb3⟩; obtain ⟨A, c, rfl, hc⟩ := own_slice ho; have hx3 := bdrew hb3; have hlt3 : w1.heap.size + 1 ≤ w3.heap.size := (by have := hx3.size; simp at this; omega); have s3 := line_keep hx3 s0; have hx4 := balloc (o := .cells (rowV ⟨0, 0, 0, 0⟩ 0 none 0 0 none 0 0) 109) hx3) | (go_at_call 13; (with_reducible refine (HS.out _ (Below.drew (balloc HW2.out))).mono ?_); rintro e w3 ⟨v, rfl, ho, hb3⟩; obtain ⟨A, c, rfl, hc⟩ := own_slice ho; have hx4 := bseq (Below.drew (balloc (Below.refl _ _))) hb3; have s3 := line_keep hx4 ⟨z0, z1, z2, z3⟩; have hbz := row_new w1 _ hb3; obtain ⟨⟨g0, g1, g2, g3, g4, g5, g6⟩, u0, u1, u2, u3, u4, u5, u6⟩ := row_facts hbz))
    · go_wp2_with fail
      go_meet
      have hw : Below w.heap.size w w3 := bseq HW2.out hx3
      exact ⟨w3.heap.size, A, C.length, c, rfl, Blk.new w3 _ _, Reads.below (Reads.more (Reads.of_own ho) (fun k hk hk2 => ⟨by simp at hk; omega, Nat.ne_of_lt hk2⟩) (by decide)) (balloc (Below.refl _ _)), hc, balloc hw, by omega, ((hR1.alloc _).below hx3).alloc _⟩
    · go_wp2_with fail
      go_meet
      have hw : Below w.heap.size w w3 := bseq HW2.out hx4
      have hz := HW2.out.size
      simp only [World.size_alloc] at hz
      have hfr : Fr (· = w1.heap.size + 1) w3 (setR w3 (w1.heap.size + 1) x0 x1 x2 x3 i (.slice A C.length c) (.slice none 0 0)) := setR_fr _ _ _ _ _ _ _ _ _
      have hfin := nr_two (w := w) (w3 := w3) (i := (i : Int)) (L := ⟨x0, x1, x2, x3⟩) hbz ho hc hw (by omega) ((hR1.alloc _).below hx4) hfr (by intro b hb; simp at hb; omega)
      unfold setR at hfin
      with_reducible exact hfin
  case rest =>
    obtain ⟨b, A, n, c, rfl, hb, hi, hnc, hw, hwb, hr⟩ := hcut
    clear hR1 hz1 hb1 hW1 HW2 HBL z0 z1 z2 z3 HA HS
    have hbr := fun (wy : World) (hy : Below wc.heap.size wc wy) => breaks_any (fun k => w.heap.size < k ∧ k ≠ b) A n c C wy (Reads.below hi hy) (by have := hi.len; have := HCL.out; omega)
    have HBR := Lib.hid hbr
    clear hbr
    obtain ⟨⟨g0, g1, g2, g3, g4, g5, g6⟩, u0, u1, u2, u3, u4, u5, u6⟩ := row_facts hb
    go_wp2_with fail
    refine (HBR.out _ (Below.refl _ _)).mono ?_
    rintro e w4 ⟨v, rfl, ho4, hb4⟩
    obtain ⟨A2, c2, rfl, hc2⟩ := own_slice ho4
    have HO4 := Lib.hid ho4
    clear ho4 HBR g0 g1 g2 g3 g4 g5 g6 u0 u1 u2 u3 u4 u5 u6
    have hb5 := hb.below hb4
    have hw4 := bseq hw hb4
    obtain ⟨⟨g0, g1, g2, g3, g4, g5, g6⟩, u0, u1, u2, u3, u4, u5, u6⟩ := row_facts hb5
    have hr5 := hr.below hb4
    obtain ⟨⟨j0, j1, j2, j3, j4, j5, j6⟩, v0, v1, v2, v3, v4, v5, v6⟩ := row_facts hr5
    have hlt := hb.lt
    have hfin := row_fin (w := w) (w4 := w4) (L := ⟨x0, x1, x2, x3⟩) (i := (i : Int)) hwb (Reads.below hi hb4) hnc HO4.out hlt hc2 hw4
    unfold setR at hfin
    have HF := Lib.hid hfin
    clear hfin
    go_wp2_with fail
    refine bodyPost_ret (v := .agg (rowV ⟨x0, x1, x2, x3⟩ i A n c A2 (allB C).length c2)) (by simp [results, Tryz.results76, go_sem, rowV, j0, j1, j2, j3, j4, j5, j6]) rfl ?_
    with_reducible exact HF.out
end Go.Proofs.YtoafogibfokblaaGreat
