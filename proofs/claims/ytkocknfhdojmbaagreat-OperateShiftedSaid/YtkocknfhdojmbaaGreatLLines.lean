/-
  The walks of package lines.
-/
import Derived.Test.YtkocknfhdojmbaaGreatLEnds
import Derived.Test.YtkocknfhdojmbaaGreatLSeek
set_option linter.unusedSimpArgs false
set_option linter.unusedVariables false
set_option maxRecDepth 100000
set_option maxHeartbeats 32000000
namespace Go.Proofs.YtkocknfhdojmbaaGreat
open Go.RowKit
structure Ln where
 from_ : Int
 to_ : Int
 next : Int
 brk : Int
def Ln.cells (l : Ln) : Array Value := #[.int .i64 l.from_, .int .i64 l.to_, .int .i64 l.next, .int .i64 l.brk]
def closedF (A : List Int) (from_ next : Nat) : Ln :=
 if A.getD (next - 1) 0 = 13 then ⟨from_, next - 1, next, 3⟩ else if from_ + 2 <= next /\ A.getD (next - 2) 0 = 13 then ⟨from_, next - 2, next, 2⟩ else ⟨from_, next - 1, next, 1⟩
theorem seg_two (l : List Int) (k : Nat) (h : k + 1 < l.length) : seg (k : Int) ((k : Int) + 2) l = [l.getD k 0, l.getD (k + 1) 0] := by
 unfold seg
 rw [show ((k : Int) + 2).toNat - (k : Int).toNat = 2 by omega, Int.toNat_natCast, List.drop_eq_getElem_cons (by omega), List.drop_eq_getElem_cons (by omega), List.getD_eq_getElem?_getD, List.getElem?_eq_getElem (by omega), List.getD_eq_getElem?_getD, List.getElem?_eq_getElem (by omega)]
 rfl
theorem line_facts {w : World} {b : Nat} {l : Ln} (h : Blk w b 47 l.cells) :
  (w.cell? ⟨b, 0, none⟩ = some (.int .i64 l.from_) /\ w.cell? ⟨b, 1, none⟩ = some (.int .i64 l.to_) /\ w.cell? ⟨b, 2, none⟩ = some (.int .i64 l.next) /\ w.cell? ⟨b, 3, none⟩ = some (.int .i64 l.brk)) /\
  w.frozen? ⟨b, 0, none⟩ = false /\ w.frozen? ⟨b, 1, none⟩ = false /\ w.frozen? ⟨b, 2, none⟩ = false /\ w.frozen? ⟨b, 3, none⟩ = false :=
 ⟨⟨h.cell 0, h.cell 1, h.cell 2, h.cell 3⟩, h.frozen 0, h.frozen 1, h.frozen 2, h.frozen 3⟩
theorem below_set4 {w w1 : World} {b : Nat} {u1 u2 u3 u4 : Value} (h : Below w.heap.size w w1) (hb : w.heap.size <= b) :
  Below w.heap.size w ((((w1.setCell ⟨b, 0, none⟩ u1).setCell ⟨b, 1, none⟩ u2).setCell ⟨b, 2, none⟩ u3).setCell ⟨b, 3, none⟩ u4) :=
 (((h.setCell hb _).setCell hb _).setCell hb _).setCell hb _
theorem closed_any (D : Nat -> Prop) (g : Nat) (enc : Int) (ds : List (Int × Int)) (from_ next : Nat) (w : World) (h : TextAt w D g enc ds) (h1 : from_ < next) (h2 : next <= ds.length) :
  Calls Tryz.prog 35 #[.pointer (some ⟨g, 0, none⟩), .int .i64 (from_ : Int), .int .i64 (next : Int)] w fun e w' => e = .returned (.agg (closedF (ds.map Prod.fst) from_ next).cells) /\ Below w.heap.size w w' := by
 have hlen := h.len
 obtain ⟨R, hR⟩ : ∃ R, closedF (ds.map Prod.fst) from_ next = R := ⟨_, rfl⟩
 rw [hR]
 obtain ⟨n, rfl⟩ : ∃ n, next = n + 1 := ⟨next - 1, by omega⟩
 obtain ⟨y, hy⟩ : ∃ y, (ds.map Prod.fst).getD n 0 = y := ⟨_, rfl⟩
 obtain ⟨x, hx⟩ : ∃ x, (ds.map Prod.fst).getD (n - 1) 0 = x := ⟨_, rfl⟩
 have hRR : R = if y = 13 then ⟨from_, n, n + 1, 3⟩ else if from_ + 1 <= n /\ x = 13 then ⟨from_, (n : Int) - 1, n + 1, 2⟩ else ⟨from_, n, n + 1, 1⟩ := by
  rw [<- hR]
  unfold closedF
  have e1 : (((n + 1 : Nat) : Int) - 1) = n := by omega
  have e2 : (((n + 1 : Nat) : Int) - 2) = (n : Int) - 1 := by omega
  have e3 : ((n + 1 : Nat) : Int) = (n : Int) + 1 := by omega
  have e4 : (from_ + 2 <= n + 1 /\ x = 13) ↔ (from_ + 1 <= n /\ x = 13) := by omega
  rw [show n + 1 - 1 = n by omega, show n + 1 - 2 = n - 1 by omega, hy, hx, e1, e2, e3]
  simp only [e4]
 have hW : Below w.heap.size w (w.alloc (.cells (Ln.mk 0 0 0 0).cells 47)) := balloc (Below.refl _ w)
 have b6 : Blk (w.alloc (.cells (Ln.mk 0 0 0 0).cells 47)) w.heap.size 47 (Ln.mk 0 0 0 0).cells := Blk.new w _ _
 have hcast : ((n + 1 : Nat) : Int) = (n : Int) + 1 := by omega
 rw [hcast]
 have HRR := Lib.hid hRR
 clear hR hRR hcast
 have hl : (ds.map Prod.fst).length = ds.length := List.length_map ..
 by_cases hc : from_ = n
 ·subst hc
  have hat := tatoms_any D g enc ds (from_ : Int) ((from_ : Int) + 1) _ (h.below hW) (by omega) (by omega)
  rw [seg_one _ _ (by omega), hy] at hat
  have HAT := Lib.hid hat
  clear hat hl hx hy
  go_enter Tryz.func35, Tryz.ntmps35
  go_wp2_with fail
  refine (HAT.out).mono ?_
  rintro e w1 ⟨v, rfl, hown, hb1⟩
  obtain ⟨⟨z0, z1, z2, z3⟩, u0, u1, u2, u3⟩ := line_facts (b6.below hb1)
  obtain ⟨r, cap, rfl, hr1, hr2⟩ := hown.form (by simp)
  have y0 := hown.cells (g := r) rfl 0 (.int .i64 y) (by simp)
  simp [Addr.add] at y0
  clear hown HAT b6
  by_cases hy13 : y = 13
  ·subst hy13
   have HE := Lib.hid (show R = ⟨from_, from_, (from_ : Int) + 1, 3⟩ from by rw [HRR.out, if_pos rfl])
   clear HRR
   go_wp2_with fail
   refine bodyPost_ret (v := .agg (Ln.mk from_ from_ ((from_ : Int) + 1) 3).cells) (by simp [results, Tryz.results35, go_sem, Ln.cells, z0, z1, z2, z3] <;> omega) rfl ⟨by rw [HE.out], ?_⟩
   exact below_set4 (bseq hW hb1) (Nat.le_refl _)
  ·have q : (y == 13) = false := by rw [beq_eq_false_iff_ne]; exact hy13
   have HE := Lib.hid (show R = ⟨from_, from_, (from_ : Int) + 1, 1⟩ from by rw [HRR.out, if_neg hy13, if_neg (by omega)])
   clear HRR hy13
   go_wp2_with fail
   refine bodyPost_ret (v := .agg (Ln.mk from_ from_ ((from_ : Int) + 1) 1).cells) (by simp [results, Tryz.results35, go_sem, Ln.cells, z0, z1, z2, z3] <;> omega) rfl ⟨by rw [HE.out], ?_⟩
   exact below_set4 (bseq hW hb1) (Nat.le_refl _)
 ·obtain ⟨m, rfl⟩ : ∃ m, n = m + 1 := ⟨n - 1, by omega⟩
  have hat := tatoms_any D g enc ds (m : Int) ((m : Int) + 2) _ (h.below hW) (by omega) (by omega)
  rw [Nat.add_sub_cancel] at hx
  rw [seg_two _ _ (by omega), hy, hx] at hat
  have HAT := Lib.hid hat
  have hcast : ((m + 1 : Nat) : Int) + 1 = (m : Int) + 2 := by omega
  rw [hcast]
  have hfm : from_ <= m := by omega
  clear hat hl hx hy hc hcast
  go_enter Tryz.func35, Tryz.ntmps35
  by_cases hlt : from_ < m
  ·go_wp2_with fail
   refine (HAT.out).mono ?_
   rintro e w1 ⟨v, rfl, hown, hb1⟩
   obtain ⟨⟨z0, z1, z2, z3⟩, u0, u1, u2, u3⟩ := line_facts (b6.below hb1)
   obtain ⟨r, cap, rfl, hr1, hr2⟩ := hown.form (by simp)
   have x0 := hown.cells (g := r) rfl 0 (.int .i64 x) (by simp)
   have y0 := hown.cells (g := r) rfl 1 (.int .i64 y) (by simp)
   simp [Addr.add] at x0 y0
   clear hown HAT b6
   by_cases hy13 : y = 13
   ·subst hy13
    have HE := Lib.hid (show R = ⟨from_, (m : Int) + 1, (m : Int) + 2, 3⟩ from by rw [HRR.out, if_pos rfl]; simp; omega)
    clear HRR
    go_wp2_with fail
    refine bodyPost_ret (v := .agg (Ln.mk from_ ((m : Int) + 1) ((m : Int) + 2) 3).cells) (by simp [results, Tryz.results35, go_sem, Ln.cells, z0, z1, z2, z3] <;> omega) rfl ⟨by rw [HE.out], ?_⟩
    exact below_set4 (bseq hW hb1) (Nat.le_refl _)
   ·have q : (y == 13) = false := by rw [beq_eq_false_iff_ne]; exact hy13
    by_cases hx13 : x = 13
    ·subst hx13
     have HNY := Lib.hid hy13
     clear hy13
     have HE := Lib.hid (show R = ⟨from_, (m : Int), (m : Int) + 2, 2⟩ from by rw [HRR.out, if_neg HNY.out, if_pos ⟨by omega, rfl⟩]; simp; omega)
     clear HRR
     go_wp2_with fail
     refine bodyPost_ret (v := .agg (Ln.mk from_ ((m : Int)) ((m : Int) + 2) 2).cells) (by simp [results, Tryz.results35, go_sem, Ln.cells, z0, z1, z2, z3] <;> omega) rfl ⟨by rw [HE.out], ?_⟩
     exact below_set4 (bseq hW hb1) (Nat.le_refl _)
    ·have q2 : (x == 13) = false := by rw [beq_eq_false_iff_ne]; exact hx13
     have HNY := Lib.hid hy13
     have HNX := Lib.hid hx13
     clear hy13 hx13
     have HE := Lib.hid (show R = ⟨from_, (m : Int) + 1, (m : Int) + 2, 1⟩ from by rw [HRR.out, if_neg HNY.out, if_neg (fun h => HNX.out h.2)]; simp; omega)
     clear HRR
     go_wp2_with fail
     refine bodyPost_ret (v := .agg (Ln.mk from_ ((m : Int) + 1) ((m : Int) + 2) 1).cells) (by simp [results, Tryz.results35, go_sem, Ln.cells, z0, z1, z2, z3] <;> omega) rfl ⟨by rw [HE.out], ?_⟩
     exact below_set4 (bseq hW hb1) (Nat.le_refl _)
  ·obtain rfl : from_ = m := by omega
   go_wp2_with fail
   refine (HAT.out).mono ?_
   rintro e w1 ⟨v, rfl, hown, hb1⟩
   obtain ⟨⟨z0, z1, z2, z3⟩, u0, u1, u2, u3⟩ := line_facts (b6.below hb1)
   obtain ⟨r, cap, rfl, hr1, hr2⟩ := hown.form (by simp)
   have x0 := hown.cells (g := r) rfl 0 (.int .i64 x) (by simp)
   have y0 := hown.cells (g := r) rfl 1 (.int .i64 y) (by simp)
   simp [Addr.add] at x0 y0
   clear hown HAT b6
   by_cases hy13 : y = 13
   ·subst hy13
    have HE := Lib.hid (show R = ⟨from_, (from_ : Int) + 1, (from_ : Int) + 2, 3⟩ from by rw [HRR.out, if_pos rfl]; simp; omega)
    clear HRR
    go_wp2_with fail
    refine bodyPost_ret (v := .agg (Ln.mk from_ ((from_ : Int) + 1) ((from_ : Int) + 2) 3).cells) (by simp [results, Tryz.results35, go_sem, Ln.cells, z0, z1, z2, z3] <;> omega) rfl ⟨by rw [HE.out], ?_⟩
    exact below_set4 (bseq hW hb1) (Nat.le_refl _)
   ·have q : (y == 13) = false := by rw [beq_eq_false_iff_ne]; exact hy13
    by_cases hx13 : x = 13
    ·subst hx13
     have HNY := Lib.hid hy13
     clear hy13
     have HE := Lib.hid (show R = ⟨from_, (from_ : Int), (from_ : Int) + 2, 2⟩ from by rw [HRR.out, if_neg HNY.out, if_pos ⟨by omega, rfl⟩]; simp; omega)
     clear HRR
     go_wp2_with fail
     refine bodyPost_ret (v := .agg (Ln.mk from_ ((from_ : Int)) ((from_ : Int) + 2) 2).cells) (by simp [results, Tryz.results35, go_sem, Ln.cells, z0, z1, z2, z3] <;> omega) rfl ⟨by rw [HE.out], ?_⟩
     exact below_set4 (bseq hW hb1) (Nat.le_refl _)
    ·have q2 : (x == 13) = false := by rw [beq_eq_false_iff_ne]; exact hx13
     have HNY := Lib.hid hy13
     have HNX := Lib.hid hx13
     clear hy13 hx13
     have HE := Lib.hid (show R = ⟨from_, (from_ : Int) + 1, (from_ : Int) + 2, 1⟩ from by rw [HRR.out, if_neg HNY.out, if_neg (fun h => HNX.out h.2)]; simp; omega)
     clear HRR
     go_wp2_with fail
     refine bodyPost_ret (v := .agg (Ln.mk from_ ((from_ : Int) + 1) ((from_ : Int) + 2) 1).cells) (by simp [results, Tryz.results35, go_sem, Ln.cells, z0, z1, z2, z3] <;> omega) rfl ⟨by rw [HE.out], ?_⟩
     exact below_set4 (bseq hW hb1) (Nat.le_refl _)
end Go.Proofs.YtkocknfhdojmbaaGreat
