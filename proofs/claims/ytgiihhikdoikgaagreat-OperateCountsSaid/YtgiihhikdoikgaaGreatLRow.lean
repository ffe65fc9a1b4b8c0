/-
  The walks of package motion, first part: rows (a line, its atoms, the boundaries of its clusters).
-/
import Derived.Test.YtgiihhikdoikgaaGreatLEnds
import Derived.Test.YtgiihhikdoikgaaGreatLSeek
import Derived.Test.YtgiihhikdoikgaaGreatLCluster4
import Derived.Test.YtgiihhikdoikgaaGreatLRf2
set_option linter.unusedSimpArgs false
set_option linter.unusedVariables false
set_option maxRecDepth 100000
set_option maxHeartbeats 32000000
namespace Go.Proofs.YtgiihhikdoikgaaGreat
open Go.RowKit
structure Ln where
 from_ : Int
 to_ : Int
 next : Int
 brk : Int
def Ln.cells (l : Ln) : Array Value := #[.int .i64 l.from_, .int .i64 l.to_, .int .i64 l.next, .int .i64 l.brk]
def closedF (A : List Int) (from_ next : Nat) : Ln :=
 if A.getD (next - 1) 0 = 13 then ⟨from_, next - 1, next, 3⟩ else if from_ + 2 <= next /\ A.getD (next - 2) 0 = 13 then ⟨from_, next - 2, next, 2⟩ else ⟨from_, next - 1, next, 1⟩
theorem seg_two (l : List Int) (k : Nat) (h : k + 1 < l.length) : seg (k : Int) ((k : Int) + 2) l = [l.getD k 0, l.getD (k + 1) 0] := by
 unfold seg
 rw [show ((k : Int) + 2).toNat - (k : Int).toNat = 2 by omega, Int.toNat_natCast, List.drop_eq_getElem_cons (by omega), List.drop_eq_getElem_cons (by omega), List.getD_eq_getElem?_getD, List.getElem?_eq_getElem (by omega), List.getD_eq_getElem?_getD, List.getElem?_eq_getElem (by omega)]
 rfl
theorem line_facts {w : World} {b : Nat} {l : Ln} (h : Blk w b 59 l.cells) :
  (w.cell? ⟨b, 0, none⟩ = some (.int .i64 l.from_) /\ w.cell? ⟨b, 1, none⟩ = some (.int .i64 l.to_) /\ w.cell? ⟨b, 2, none⟩ = some (.int .i64 l.next) /\ w.cell? ⟨b, 3, none⟩ = some (.int .i64 l.brk)) /\
  w.frozen? ⟨b, 0, none⟩ = false /\ w.frozen? ⟨b, 1, none⟩ = false /\ w.frozen? ⟨b, 2, none⟩ = false /\ w.frozen? ⟨b, 3, none⟩ = false :=
 ⟨⟨h.cell 0, h.cell 1, h.cell 2, h.cell 3⟩, h.frozen 0, h.frozen 1, h.frozen 2, h.frozen 3⟩
theorem below_set4 {w w1 : World} {b : Nat} {u1 u2 u3 u4 : Value} (h : Below w.heap.size w w1) (hb : w.heap.size <= b) :
  Below w.heap.size w ((((w1.setCell ⟨b, 0, none⟩ u1).setCell ⟨b, 1, none⟩ u2).setCell ⟨b, 2, none⟩ u3).setCell ⟨b, 3, none⟩ u4) :=
 (((h.setCell hb _).setCell hb _).setCell hb _).setCell hb _
theorem closed_any (D : Nat -> Prop) (g : Nat) (enc : Int) (ds : List (Int × Int)) (from_ next : Nat) (w : World) (h : TextAt w D g enc ds) (h1 : from_ < next) (h2 : next <= ds.length) :
  Calls Tryz.prog 66 #[.pointer (some ⟨g, 0, none⟩), .int .i64 (from_ : Int), .int .i64 (next : Int)] w fun e w' => e = .returned (.agg (closedF (ds.map Prod.fst) from_ next).cells) /\ Below w.heap.size w w' := by
 have hlen := h.len
 obtain ⟨R, hR⟩ : ∃ R, closedF (ds.map Prod.fst) from_ next = R := ⟨_, rfl⟩
 rw [hR]
 obtain ⟨n, rfl⟩ : ∃ n, next = n + 1 := ⟨next - 1, by omega⟩
 obtain ⟨y, hy⟩ : ∃ y, (ds.map Prod.fst).getD n 0 = y := ⟨_, rfl⟩
 obtain ⟨x, hx⟩ : ∃ x, (ds.map Prod.fst).getD (n - 1) 0 = x := ⟨_, rfl⟩
 have hRR : R = if y = 13 then ⟨from_, n, n + 1, 3⟩ else if from_ + 1 <= n /\ x = 13 then ⟨from_, (n : Int) - 1, n + 1, 2⟩ else ⟨from_, n, n + 1, 1⟩ := by
  rw [<- hR]
  unfold closedF
  have e1 : (((n + 1 : Nat) : Int) - 1) = n := by omega
  have e2 : (((n + 1 : Nat) : Int) - 2) = (n : Int) - 1 := by omega
  have e3 : ((n + 1 : Nat) : Int) = (n : Int) + 1 := by omega
  have e4 : (from_ + 2 <= n + 1 /\ x = 13) ↔ (from_ + 1 <= n /\ x = 13) := by omega
  rw [show n + 1 - 1 = n by omega, show n + 1 - 2 = n - 1 by omega, hy, hx, e1, e2, e3]
  simp only [e4]
 have hW : Below w.heap.size w (w.alloc (.cells (Ln.mk 0 0 0 0).cells 59)) := balloc (Below.refl _ w)
 have b6 : Blk (w.alloc (.cells (Ln.mk 0 0 0 0).cells 59)) w.heap.size 59 (Ln.mk 0 0 0 0).cells := Blk.new w _ _
 have hcast : ((n + 1 : Nat) : Int) = (n : Int) + 1 := by omega
 rw [hcast]
 have HRR := Lib.hid hRR
 clear hR hRR hcast
 have hl : (ds.map Prod.fst).length = ds.length := List.length_map ..
 by_cases hc : from_ = n
 ·subst hc
  have hat := tatoms_any D g enc ds (from_ : Int) ((from_ : Int) + 1) _ (h.below hW) (by omega) (by omega)
  rw [seg_one _ _ (by omega), hy] at hat
  have HAT := Lib.hid hat
  clear hat hl hx hy
  go_enter Tryz.func66, Tryz.ntmps66
  go_wp2_with fail
  refine (HAT.out).mono ?_
  rintro e w1 ⟨v, rfl, hown, hb1⟩
  obtain ⟨⟨z0, z1, z2, z3⟩, u0, u1, u2, u3⟩ := line_facts (b6.below hb1)
  obtain ⟨r, cap, rfl, hr1, hr2⟩ := hown.form (by simp)
  have y0 := hown.cells (g := r) rfl 0 (.int .i64 y) (by simp)
  simp [Addr.add] at y0
  clear hown HAT b6
  by_cases hy13 : y = 13
  ·subst hy13
   have HE := Lib.hid (show R = ⟨from_, from_, (from_ : Int) + 1, 3⟩ from by rw [HRR.out, if_pos rfl])
   clear HRR
   go_wp2_with fail
   refine bodyPost_ret (v := .agg (Ln.mk from_ from_ ((from_ : Int) + 1) 3).cells) (by simp [results, Tryz.results66, go_sem, Ln.cells, z0, z1, z2, z3] <;> omega) rfl ⟨by rw [HE.out], ?_⟩
   exact below_set4 (bseq hW hb1) (Nat.le_refl _)
  ·have q : (y == 13) = false := by rw [beq_eq_false_iff_ne]; exact hy13
   have HE := Lib.hid (show R = ⟨from_, from_, (from_ : Int) + 1, 1⟩ from by rw [HRR.out, if_neg hy13, if_neg (by omega)])
   clear HRR hy13
   go_wp2_with fail
   refine bodyPost_ret (v := .agg (Ln.mk from_ from_ ((from_ : Int) + 1) 1).cells) (by simp [results, Tryz.results66, go_sem, Ln.cells, z0, z1, z2, z3] <;> omega) rfl ⟨by rw [HE.out], ?_⟩
   exact below_set4 (bseq hW hb1) (Nat.le_refl _)
 ·obtain ⟨m, rfl⟩ : ∃ m, n = m + 1 := ⟨n - 1, by omega⟩
  have hat := tatoms_any D g enc ds (m : Int) ((m : Int) + 2) _ (h.below hW) (by omega) (by omega)
  rw [Nat.add_sub_cancel] at hx
  rw [seg_two _ _ (by omega), hy, hx] at hat
  have HAT := Lib.hid hat
  have hcast : ((m + 1 : Nat) : Int) + 1 = (m : Int) + 2 := by omega
  rw [hcast]
  have hfm : from_ <= m := by omega
  clear hat hl hx hy hc hcast
  go_enter Tryz.func66, Tryz.ntmps66
  by_cases hlt : from_ < m
  ·go_wp2_with fail
   refine (HAT.out).mono ?_
   rintro e w1 ⟨v, rfl, hown, hb1⟩
   obtain ⟨⟨z0, z1, z2, z3⟩, u0, u1, u2, u3⟩ := line_facts (b6.below hb1)
   obtain ⟨r, cap, rfl, hr1, hr2⟩ := hown.form (by simp)
   have x0 := hown.cells (g := r) rfl 0 (.int .i64 x) (by simp)
   have y0 := hown.cells (g := r) rfl 1 (.int .i64 y) (by simp)
   simp [Addr.add] at x0 y0
   clear hown HAT b6
   by_cases hy13 : y = 13
   ·subst hy13
    have HE := Lib.hid (show R = ⟨from_, (m : Int) + 1, (m : Int) + 2, 3⟩ from by rw [HRR.out, if_pos rfl]; simp; omega)
    clear HRR
    go_wp2_with fail
    refine bodyPost_ret (v := .agg (Ln.mk from_ ((m : Int) + 1) ((m : Int) + 2) 3).cells) (by simp [results, Tryz.results66, go_sem, Ln.cells, z0, z1, z2, z3] <;> omega) rfl ⟨by rw [HE.out], ?_⟩
    exact below_set4 (bseq hW hb1) (Nat.le_refl _)
   ·have q : (y == 13) = false := by rw [beq_eq_false_iff_ne]; exact hy13
    by_cases hx13 : x = 13
    ·subst hx13
     have HNY := Lib.hid hy13
     clear hy13
     have HE := Lib.hid (show R = ⟨from_, (m : Int), (m : Int) + 2, 2⟩ from by rw [HRR.out, if_neg HNY.out, if_pos ⟨by omega, rfl⟩]; simp; omega)
     clear HRR
     go_wp2_with fail
     refine bodyPost_ret (v := .agg (Ln.mk from_ ((m : Int)) ((m : Int) + 2) 2).cells) (by simp [results, Tryz.results66, go_sem, Ln.cells, z0, z1, z2, z3] <;> omega) rfl ⟨by rw [HE.out], ?_⟩
     exact below_set4 (bseq hW hb1) (Nat.le_refl _)
    ·have q2 : (x == 13) = false := by rw [beq_eq_false_iff_ne]; exact hx13
     have HNY := Lib.hid hy13
     have HNX := Lib.hid hx13
     clear hy13 hx13
     have HE := Lib.hid (show R = ⟨from_, (m : Int) + 1, (m : Int) + 2, 1⟩ from by rw [HRR.out, if_neg HNY.out, if_neg (fun h => HNX.out h.2)]; simp; omega)
     clear HRR
     go_wp2_with fail
     refine bodyPost_ret (v := .agg (Ln.mk from_ ((m : Int) + 1) ((m : Int) + 2) 1).cells) (by simp [results, Tryz.results66, go_sem, Ln.cells, z0, z1, z2, z3] <;> omega) rfl ⟨by rw [HE.out], ?_⟩
     exact below_set4 (bseq hW hb1) (Nat.le_refl _)
  ·obtain rfl : from_ = m := by omega
   go_wp2_with fail
   refine (HAT.out).mono ?_
   rintro e w1 ⟨v, rfl, hown, hb1⟩
   obtain ⟨⟨z0, z1, z2, z3⟩, u0, u1, u2, u3⟩ := line_facts (b6.below hb1)
   obtain ⟨r, cap, rfl, hr1, hr2⟩ := hown.form (by simp)
   have x0 := hown.cells (g := r) rfl 0 (.int .i64 x) (by simp)
   have y0 := hown.cells (g := r) rfl 1 (.int .i64 y) (by simp)
   simp [Addr.add] at x0 y0
   clear hown HAT b6
   by_cases hy13 : y = 13
   ·subst hy13
    have HE := Lib.hid (show R = ⟨from_, (from_ : Int) + 1, (from_ : Int) + 2, 3⟩ from by rw [HRR.out, if_pos rfl]; simp; omega)
    clear HRR
    go_wp2_with fail
    refine bodyPost_ret (v := .agg (Ln.mk from_ ((from_ : Int) + 1) ((from_ : Int) + 2) 3).cells) (by simp [results, Tryz.results66, go_sem, Ln.cells, z0, z1, z2, z3] <;> omega) rfl ⟨by rw [HE.out], ?_⟩
    exact below_set4 (bseq hW hb1) (Nat.le_refl _)
   ·have q : (y == 13) = false := by rw [beq_eq_false_iff_ne]; exact hy13
    by_cases hx13 : x = 13
    ·subst hx13
     have HNY := Lib.hid hy13
     clear hy13
     have HE := Lib.hid (show R = ⟨from_, (from_ : Int), (from_ : Int) + 2, 2⟩ from by rw [HRR.out, if_neg HNY.out, if_pos ⟨by omega, rfl⟩]; simp; omega)
     clear HRR
     go_wp2_with fail
     refine bodyPost_ret (v := .agg (Ln.mk from_ ((from_ : Int)) ((from_ : Int) + 2) 2).cells) (by simp [results, Tryz.results66, go_sem, Ln.cells, z0, z1, z2, z3] <;> omega) rfl ⟨by rw [HE.out], ?_⟩
     exact below_set4 (bseq hW hb1) (Nat.le_refl _)
    ·have q2 : (x == 13) = false := by rw [beq_eq_false_iff_ne]; exact hx13
     have HNY := Lib.hid hy13
     have HNX := Lib.hid hx13
     clear hy13 hx13
     have HE := Lib.hid (show R = ⟨from_, (from_ : Int) + 1, (from_ : Int) + 2, 1⟩ from by rw [HRR.out, if_neg HNY.out, if_neg (fun h => HNX.out h.2)]; simp; omega)
     clear HRR
     go_wp2_with fail
     refine bodyPost_ret (v := .agg (Ln.mk from_ ((from_ : Int) + 1) ((from_ : Int) + 2) 1).cells) (by simp [results, Tryz.results66, go_sem, Ln.cells, z0, z1, z2, z3] <;> omega) rfl ⟨by rw [HE.out], ?_⟩
     exact below_set4 (bseq hW hb1) (Nat.le_refl _)
def totE (ds : List (Int × Int)) : Nat := cntE (ds.map Prod.fst) ds.length
def sk (ds : List (Int × Int)) (k : Nat) : Nat := (sF ds k).toNat
theorem sk_zero (ds : List (Int × Int)) : sk ds 0 = 0 := rfl
theorem isE_le {A : List Int} {p : Nat} (h : isE A p = true) : 0 < p /\ p <= A.length := by
 unfold isE at h
 simp only [decide_eq_true_eq] at h
 exact ⟨h.1, h.2.1⟩
section
variable {ds : List (Int × Int)} (hp : PosD ds)
include hp
theorem sk_spec {k : Nat} (h0 : 0 < k) (h1 : k <= totE ds) : sF ds (k : Int) = (sk ds k : Int) /\ isE (ds.map Prod.fst) (sk ds k) = true /\ cntE (ds.map Prod.fst) (sk ds k) = k := by
 obtain ⟨p, e1, e2, e3⟩ := sF_spec hp (k := (k : Int)) (by omega) (by unfold totE at h1; omega)
 have : sk ds k = p := by unfold sk; rw [e1]; rfl
 rw [this]
 exact ⟨e1, e2, by omega⟩
theorem sk_cnt {k : Nat} (h1 : k <= totE ds) : sF ds (k : Int) = (sk ds k : Int) /\ cntE (ds.map Prod.fst) (sk ds k) = k /\ sk ds k <= ds.length := by
 rcases Nat.eq_zero_or_pos k with h | h
 ·subst h; exact ⟨rfl, rfl, Nat.zero_le _⟩
 ·have := sk_spec hp h h1
  have h2 := (isE_le this.2.1).2
  rw [List.length_map] at h2
  exact ⟨this.1, this.2.2, h2⟩
theorem sk_lt {k : Nat} (h1 : k < totE ds) : sk ds k < sk ds (k + 1) := by
 have h2 := sk_cnt hp (Nat.le_of_lt h1)
 have h3 := sk_cnt hp (k := k + 1) h1
 rcases Nat.lt_or_ge (sk ds k) (sk ds (k + 1)) with h | h
 ·exact h
 ·have := cntE_mono (ds.map Prod.fst) h
  omega
theorem bF_tot : bF ds (ds.length : Int) = totE ds := by
 rw [bF_cnt hp, Int.toNat_natCast, Nat.min_self]
 rfl
end
def ofF (ds : List (Int × Int)) (at_ : Int) : Nat := cntE (ds.map Prod.fst) (min at_.toNat ds.length)
theorem of_line (D : Nat -> Prop) (g : Nat) (enc : Int) (ds : List (Int × Int)) (at_ : Int) (w : World) (h : TextAt w D g enc ds) :
  Calls Tryz.prog 19 #[.pointer (some ⟨g, 0, none⟩), .int .i64 at_] w fun e w' => e = .returned (.int .i64 (ofF ds at_ : Nat)) /\ Below w.heap.size w w' := by
 have hp := h.pos
 have hl := len_any D g enc ds w h
 have hb := fun (w' : World) (hb : Below w.heap.size w w') (v : Int) => breaksT_any D g enc ds v w' (h.below hb)
 obtain ⟨V, hV⟩ : ∃ V, ofF ds at_ = V := ⟨_, rfl⟩
 have hv : ∀ v : Int, min v.toNat ds.length = min at_.toNat ds.length -> bF ds v = (V : Int) := fun v hv => by rw [bF_cnt hp, hv, <- hV]; rfl
 have hlen := h.len
 obtain ⟨n, hn⟩ : ∃ n, ds.length = n := ⟨_, rfl⟩
 rw [hV]
 rw [hn] at hl hv hlen
 have HL := Lib.hid hl
 have HB := Lib.hid hb
 have HV := Lib.hid hv
 clear hl hb hv hV hn hp
 by_cases h0 : at_ < 0
 ·have h1 : ¬ (n : Int) < 0 := by omega
  have e := HV.out 0 (by omega)
  have hb0 := HB.out
  have HE := Lib.hid e
  clear e hb0
  go_enter Tryz.func19, Tryz.ntmps19
  go_wp2_with fail
  refine (HL.out).mono ?_
  rintro e w1 ⟨rfl, hb1⟩
  go_wp2_with fail
  all_goals
   refine (HB.out _ hb1 _).mono ?_
   rintro e w2 ⟨rfl, hb2⟩
   go_wp2_with fail
   go_ret
   exact ⟨ret_i (HV.out _ (by omega)), bseq hb1 hb2⟩
 ·by_cases h1 : at_ <= (n : Int)
  ·go_enter Tryz.func19, Tryz.ntmps19
   go_wp2_with fail
   refine (HL.out).mono ?_
   rintro e w1 ⟨rfl, hb1⟩
   go_wp2_with fail
   all_goals
    refine (HB.out _ hb1 _).mono ?_
    rintro e w2 ⟨rfl, hb2⟩
    go_wp2_with fail
    go_ret
    exact ⟨ret_i (HV.out _ (by omega)), bseq hb1 hb2⟩
  ·go_enter Tryz.func19, Tryz.ntmps19
   go_wp2_with fail
   refine (HL.out).mono ?_
   rintro e w1 ⟨rfl, hb1⟩
   go_wp2_with fail
   all_goals
    refine (HB.out _ hb1 _).mono ?_
    rintro e w2 ⟨rfl, hb2⟩
    go_wp2_with fail
    go_ret
    exact ⟨ret_i (HV.out _ (by omega)), bseq hb1 hb2⟩
def endB (ds : List (Int × Int)) : Bool := decide (0 < ds.length /\ sk ds (totE ds) = ds.length)
theorem ended_any (D : Nat -> Prop) (g : Nat) (enc : Int) (ds : List (Int × Int)) (w : World) (h : TextAt w D g enc ds) :
  Calls Tryz.prog 64 #[.pointer (some ⟨g, 0, none⟩)] w fun e w' => e = .returned (.bool (endB ds)) /\ Below w.heap.size w w' := by
 have hp := h.pos
 have hl := len_any D g enc ds w h
 have hb := fun (w' : World) (hb : Below w.heap.size w w') => breaksT_any D g enc ds (ds.length : Int) w' (h.below hb)
 have hs := fun (w' : World) (hb : Below w.heap.size w w') => seek_any D g enc ds (totE ds : Int) w' (h.below hb)
 rw [bF_tot hp] at hb
 rw [(sk_cnt hp (Nat.le_refl _)).1] at hs
 obtain ⟨B, hB⟩ : ∃ B, endB ds = B := ⟨_, rfl⟩
 have hlen := h.len
 obtain ⟨n, hn⟩ : ∃ n, ds.length = n := ⟨_, rfl⟩
 obtain ⟨T, hT⟩ : ∃ T, totE ds = T := ⟨_, rfl⟩
 obtain ⟨q, hq⟩ : ∃ q, sk ds T = q := ⟨_, rfl⟩
 have hBB : B = decide (0 < n /\ q = n) := by rw [<- hB]; unfold endB; rw [hn, hT, hq]
 rw [hB]
 rw [hT] at hb hs
 rw [hq] at hs
 rw [hn] at hl hb hlen
 have HL := Lib.hid hl
 have HB := Lib.hid hb
 have HS := Lib.hid hs
 have HBB := Lib.hid hBB
 clear hl hb hs hB hn hT hq hp hBB
 by_cases h0 : 0 < n
 ·have ht : decide (0 < n) = true := by simpa using h0
  have ht2 : decide ((0 : Int) < (n : Int)) = true := by simpa using h0
  by_cases hqn : q = n
  ·subst hqn
   go_enter Tryz.func64, Tryz.ntmps64
   go_wp2_with fail
   refine (HL.out).mono ?_
   rintro e w1 ⟨rfl, hb1⟩
   go_wp2_with fail
   refine (HB.out _ hb1).mono ?_
   rintro e w2 ⟨rfl, hb2⟩
   have hb12 := bseq hb1 hb2
   go_wp2_with fail
   refine (HS.out _ hb12).mono ?_
   rintro e w3 ⟨rfl, hb3⟩
   go_wp2_with fail
   go_ret
   refine ⟨ret_b ?_, bseq hb12 hb3⟩
   have := HBB.out
   simp [h0] at this
   simp [this]
  ·have hne : ((q : Int) == (n : Int)) = false := by rw [beq_eq_false_iff_ne]; omega
   have HNE := Lib.hid hqn
   clear hqn
   go_enter Tryz.func64, Tryz.ntmps64
   go_wp2_with fail
   refine (HL.out).mono ?_
   rintro e w1 ⟨rfl, hb1⟩
   go_wp2_with fail
   refine (HB.out _ hb1).mono ?_
   rintro e w2 ⟨rfl, hb2⟩
   have hb12 := bseq hb1 hb2
   go_wp2_with fail
   refine (HS.out _ hb12).mono ?_
   rintro e w3 ⟨rfl, hb3⟩
   go_wp2_with fail
   go_ret
   refine ⟨ret_b ?_, bseq hb12 hb3⟩
   have := HBB.out
   rw [this]
   have hn := HNE.out
   first | rfl | (simp [hn]; done) | (rw [eq_comm]; simp [hn])
 ·have ht : decide (0 < n) = false := by simpa using h0
  have ht2 : decide ((0 : Int) < (n : Int)) = false := by simpa using h0
  go_enter Tryz.func64, Tryz.ntmps64
  go_wp2_with fail
  refine (HL.out).mono ?_
  rintro e w1 ⟨rfl, hb1⟩
  go_wp2_with fail
  go_ret
  refine ⟨ret_b ?_, hb1⟩
  have := HBB.out
  rw [this]
  simp [h0]
def countF (ds : List (Int × Int)) : Nat := totE ds + (if endB ds = true then 0 else 1)
theorem count_line (D : Nat -> Prop) (g : Nat) (enc : Int) (ds : List (Int × Int)) (w : World) (h : TextAt w D g enc ds) :
  Calls Tryz.prog 17 #[.pointer (some ⟨g, 0, none⟩)] w fun e w' => e = .returned (.int .i64 (countF ds : Nat)) /\ Below w.heap.size w w' := by
 have hp := h.pos
 have hl := len_any D g enc ds w h
 have hb := fun (w' : World) (hb : Below w.heap.size w w') => breaksT_any D g enc ds (ds.length : Int) w' (h.below hb)
 have he := fun (w' : World) (hb : Below w.heap.size w w') => ended_any D g enc ds w' (h.below hb)
 rw [bF_tot hp] at hb
 have hlen := h.len
 have hT1 : totE ds <= 1073741824 := Nat.le_trans (cntE_le _ _) hlen
 unfold countF
 obtain ⟨B, hB⟩ : ∃ B, endB ds = B := ⟨_, rfl⟩
 obtain ⟨n, hn⟩ : ∃ n, ds.length = n := ⟨_, rfl⟩
 obtain ⟨T, hT⟩ : ∃ T, totE ds = T := ⟨_, rfl⟩
 rw [hB] at he ⊢
 rw [hT] at hb hT1 ⊢
 rw [hn] at hl hb hlen
 have HL := Lib.hid hl
 have HB := Lib.hid hb
 have HE := Lib.hid he
 clear hl hb he hB hn hT hp
 cases B
 ·rw [if_neg (by simp)]
  go_enter Tryz.func17, Tryz.ntmps17
  go_wp2_with fail
  refine (HL.out).mono ?_
  rintro e w1 ⟨rfl, hb1⟩
  go_wp2_with fail
  refine (HB.out _ hb1).mono ?_
  rintro e w2 ⟨rfl, hb2⟩
  have hb12 := bseq hb1 hb2
  go_wp2_with fail
  refine (HE.out _ hb12).mono ?_
  rintro e w3 ⟨rfl, hb3⟩
  go_wp2_with fail
  go_ret
  exact ⟨ret_i (by omega), bseq hb12 hb3⟩
 ·rw [if_pos rfl]
  go_enter Tryz.func17, Tryz.ntmps17
  go_wp2_with fail
  refine (HL.out).mono ?_
  rintro e w1 ⟨rfl, hb1⟩
  go_wp2_with fail
  refine (HB.out _ hb1).mono ?_
  rintro e w2 ⟨rfl, hb2⟩
  have hb12 := bseq hb1 hb2
  go_wp2_with fail
  refine (HE.out _ hb12).mono ?_
  rintro e w3 ⟨rfl, hb3⟩
  go_wp2_with fail
  go_ret
  exact ⟨rfl, bseq hb12 hb3⟩
def lineF (ds : List (Int × Int)) (i : Nat) : Ln := if i < totE ds then closedF (ds.map Prod.fst) (sk ds i) (sk ds (i + 1)) else ⟨sk ds i, ds.length, ds.length, 0⟩
theorem at_line (D : Nat -> Prop) (g : Nat) (enc : Int) (ds : List (Int × Int)) (i : Nat) (w : World) (h : TextAt w D g enc ds) (hi : i <= totE ds) :
  Calls Tryz.prog 18 #[.pointer (some ⟨g, 0, none⟩), .int .i64 (i : Int)] w fun e w' => e = .returned (.tuple #[.agg (lineF ds i).cells, .int .i64 0]) /\ Below w.heap.size w w' := by
 have hp := h.pos
 have hW : Below w.heap.size w (w.alloc (.cells (Ln.mk 0 0 0 0).cells 59)) := balloc (Below.refl _ w)
 have b4 : Blk (w.alloc (.cells (Ln.mk 0 0 0 0).cells 59)) w.heap.size 59 (Ln.mk 0 0 0 0).cells := Blk.new w _ _
 have hl := fun (w' : World) (hb : Below w.heap.size w w') => len_any D g enc ds w' (h.below hb)
 have hb := fun (w' : World) (hb : Below w.heap.size w w') => breaksT_any D g enc ds (ds.length : Int) w' (h.below hb)
 have hs := fun (w' : World) (hb : Below w.heap.size w w') => seek_any D g enc ds (i : Int) w' (h.below hb)
 rw [bF_tot hp] at hb
 have hc0 := sk_cnt hp hi
 rw [hc0.1] at hs
 have hlen := h.len
 have hT1 : totE ds <= 1073741824 := Nat.le_trans (cntE_le _ _) hlen
 obtain ⟨R, hR⟩ : ∃ R, lineF ds i = R := ⟨_, rfl⟩
 rw [hR]
 obtain ⟨p, hpp⟩ : ∃ p, sk ds i = p := ⟨_, rfl⟩
 have hple : p <= ds.length := by rw [<- hpp]; exact hc0.2.2
 rw [hpp] at hs
 by_cases hlt : i < totE ds
 ·have hlt2 := sk_lt hp hlt
  have hc1 := sk_cnt hp (k := i + 1) hlt
  have hs2 := fun (w' : World) (hb : Below w.heap.size w w') => seek_any D g enc ds ((i + 1 : Nat) : Int) w' (h.below hb)
  rw [hc1.1] at hs2
  have hcl := fun (w' : World) (hb : Below w.heap.size w w') => closed_any D g enc ds (sk ds i) (sk ds (i + 1)) w' (h.below hb) hlt2 hc1.2.2
  have hRR : closedF (ds.map Prod.fst) (sk ds i) (sk ds (i + 1)) = R := by rw [<- hR]; unfold lineF; rw [if_pos hlt]
  rw [hRR, hpp] at hcl
  obtain ⟨n, hn⟩ : ∃ n, ds.length = n := ⟨_, rfl⟩
  obtain ⟨T, hT⟩ : ∃ T, totE ds = T := ⟨_, rfl⟩
  obtain ⟨p2, hp2⟩ : ∃ p, sk ds (i + 1) = p := ⟨_, rfl⟩
  rw [hn] at hl hb hlen hple
  rw [hT] at hb hT1 hlt
  rw [hp2] at hs2 hcl
  have hcast : ((i + 1 : Nat) : Int) = (i : Int) + 1 := by omega
  rw [hcast] at hs2
  simp only [Ln.cells] at hcl
  have HL := Lib.hid hl
  have HB := Lib.hid hb
  have HS := Lib.hid hs
  have HS2 := Lib.hid hs2
  have HCL := Lib.hid hcl
  clear hl hb hs hs2 hcl hRR hR hp hpp hc0 hc1 hn hT hp2 hi hlt2 hcast
  have hpi : (0 : Int) <= (p : Int) := by omega
  go_enter Tryz.func18, Tryz.ntmps18
  go_wp2_with fail
  refine (HS.out _ hW).mono ?_
  rintro e w1 ⟨rfl, hb1⟩
  have hW1 := bseq hW hb1
  go_wp2_with fail
  refine (HL.out _ hW1).mono ?_
  rintro e w2 ⟨rfl, hb2⟩
  have hW2 := bseq hW1 hb2
  go_wp2_with fail
  refine (HB.out _ hW2).mono ?_
  rintro e w3 ⟨rfl, hb3⟩
  have hW3 := bseq hW2 hb3
  go_wp2_with fail
  refine (HS2.out _ hW3).mono ?_
  rintro e w4 ⟨rfl, hb4⟩
  have hW4 := bseq hW3 hb4
  go_wp2_with fail
  refine (HCL.out _ hW4).mono ?_
  rintro e w5 ⟨rfl, hb5⟩
  have hW5 := bseq hW4 hb5
  obtain ⟨⟨z0, z1, z2, z3⟩, u0, u1, u2, u3⟩ := line_facts (b4.below (bseq (bseq (bseq (bseq hb1 hb2) hb3) hb4) hb5))
  go_wp2_with fail
  refine bodyPost_ret (v := .tuple #[.agg R.cells, .int .i64 0]) (by simp [results, Tryz.results18, go_sem, Ln.cells, z0, z1, z2, z3]) rfl ⟨rfl, ?_⟩
  exact below_set4 hW5 (Nat.le_refl _)
 ·have hRR : R = ⟨p, ds.length, ds.length, 0⟩ := by rw [<- hR]; unfold lineF; rw [if_neg hlt, hpp]
  obtain ⟨n, hn⟩ : ∃ n, ds.length = n := ⟨_, rfl⟩
  obtain ⟨T, hT⟩ : ∃ T, totE ds = T := ⟨_, rfl⟩
  rw [hn] at hl hb hlen hple hRR
  rw [hT] at hb hT1 hlt
  have HL := Lib.hid hl
  have HB := Lib.hid hb
  have HS := Lib.hid hs
  have HRR := Lib.hid hRR
  clear hl hb hs hRR hR hp hpp hc0 hn hT hi
  have hpi : (0 : Int) <= (p : Int) := by omega
  go_enter Tryz.func18, Tryz.ntmps18
  go_wp2_with fail
  refine (HS.out _ hW).mono ?_
  rintro e w1 ⟨rfl, hb1⟩
  have hW1 := bseq hW hb1
  go_wp2_with fail
  refine (HL.out _ hW1).mono ?_
  rintro e w2 ⟨rfl, hb2⟩
  have hW2 := bseq hW1 hb2
  go_wp2_with fail
  refine (HB.out _ hW2).mono ?_
  rintro e w3 ⟨rfl, hb3⟩
  have hW3 := bseq hW2 hb3
  go_wp2_with fail
  refine (HL.out _ hW3).mono ?_
  rintro e w4 ⟨rfl, hb4⟩
  have hW4 := bseq hW3 hb4
  go_wp2_with fail
  refine (HL.out _ hW4).mono ?_
  rintro e w5 ⟨rfl, hb5⟩
  have hW5 := bseq hW4 hb5
  obtain ⟨⟨z0, z1, z2, z3⟩, u0, u1, u2, u3⟩ := line_facts (b4.below (bseq (bseq (bseq (bseq hb1 hb2) hb3) hb4) hb5))
  go_wp2_with fail
  refine bodyPost_ret (v := .tuple #[.agg (Ln.mk p n n 0).cells, .int .i64 0]) (by simp [results, Tryz.results18, go_sem, Ln.cells, z0, z1, z2, z3]) rfl ⟨by rw [HRR.out], ?_⟩
  exact below_set4 hW5 (Nat.le_refl _)
def brk1 : List Int -> Int
 | [] => 0
 | a :: r => if a = 10 then 1 else if a = 13 then (if r.head? = some 10 then 2 else 3) else brk1 r
theorem brk1_skip (pre r : List Int) (h : ∀ x ∈ pre, x ≠ 10 /\ x ≠ 13) : brk1 (pre ++ r) = brk1 r := by
 induction pre with
 | nil => rfl
 | cons a pre ih =>
  have ha := h a (by simp)
  rw [List.cons_append, brk1, if_neg ha.1, if_neg ha.2]
  exact ih (fun x hx => h x (by simp [hx]))
theorem brk1_split (A : List Int) : ∃ pre r, A = pre ++ r /\ (∀ x ∈ pre, x ≠ 10 /\ x ≠ 13) /\ (r = [] \/ ∃ b s, r = b :: s /\ (b = 10 \/ b = 13)) := by
 induction A with
 | nil => exact ⟨[], [], rfl, by simp, .inl rfl⟩
 | cons a A ih =>
  by_cases ha : a = 10 \/ a = 13
  ·exact ⟨[], a :: A, rfl, by simp, .inr ⟨a, A, rfl, ha⟩⟩
  ·obtain ⟨pre, r, h1, h2, h3⟩ := ih
   refine ⟨a :: pre, r, by rw [h1]; rfl, fun x hx => ?_, h3⟩
   rcases List.mem_cons.1 hx with rfl | hx
   ·omega
   ·exact h2 x hx
theorem getD_pre (pre r : List Int) (k : Nat) (h : k < pre.length) : (pre ++ r).getD k 0 ∈ pre := by
 rw [List.getD_eq_getElem?_getD, List.getElem?_append_left h, List.getElem?_eq_getElem h]
 exact List.getElem_mem _
theorem getD_app (pre r : List Int) (k : Nat) : (pre ++ r).getD (pre.length + k) 0 = r.getD k 0 := by
 rw [List.getD_eq_getElem?_getD, List.getElem?_append_right (by omega), List.getD_eq_getElem?_getD, Nat.add_sub_cancel_left]
theorem cntE_none (A : List Int) (m : Nat) (h : ∀ q, 0 < q -> q <= m -> isE A q = false) : cntE A m = 0 := by
 induction m with
 | zero => rfl
 | succ m ih =>
  rw [cntE_succ, ih (fun q h1 h2 => h q h1 (by omega)), h (m + 1) (by omega) (Nat.le_refl _)]
  simp
theorem sk_one {ds : List (Int × Int)} (hp : PosD ds) {p : Nat} (h0 : isE (ds.map Prod.fst) p = true) (h1 : ∀ q, 0 < q -> q < p -> isE (ds.map Prod.fst) q = false) : 0 < totE ds /\ sk ds 1 = p := by
 have hpl := isE_le h0
 rw [List.length_map] at hpl
 have c0 := cntE_none (ds.map Prod.fst) (p - 1) (fun q a b => h1 q a (by omega))
 have c1 : cntE (ds.map Prod.fst) p = 1 := by
  have := cntE_succ (ds.map Prod.fst) (p - 1)
  rw [show p - 1 + 1 = p by omega, c0, h0] at this
  simpa using this
 have ht : 1 <= totE ds := by
  unfold totE
  rw [<- c1]
  exact cntE_mono _ hpl.2
 obtain ⟨_, h2, h3⟩ := sk_spec hp (k := 1) (by omega) ht
 refine ⟨ht, ?_⟩
 rcases Nat.lt_trichotomy (sk ds 1) p with h | h | h
 ·have := cntE_mono (ds.map Prod.fst) (m := sk ds 1) (n := p - 1) (by omega)
  omega
 ·exact h
 ·have := cntE_lt (ds.map Prod.fst) h h2
  omega
theorem lineF_brk {ds : List (Int × Int)} (hp : PosD ds) : (lineF ds 0).brk = brk1 (ds.map Prod.fst) := by
 obtain ⟨pre, r, hA, hpre, hr⟩ := brk1_split (ds.map Prod.fst)
 have hno : ∀ q, 0 < q -> q <= pre.length -> isE (ds.map Prod.fst) q = false := by
  intro q h1 h2
  unfold isE
  rw [decide_eq_false_iff_not]
  rintro ⟨_, _, h3⟩
  have h4 := hpre _ (getD_pre pre r (q - 1) (by omega))
  rw [<- hA] at h4
  omega
 have key : ∀ p, isE (ds.map Prod.fst) p = true -> (∀ q, 0 < q -> q < p -> isE (ds.map Prod.fst) q = false) -> (lineF ds 0).brk = if (ds.map Prod.fst).getD (p - 1) 0 = 13 then 3 else if 2 <= p /\ (ds.map Prod.fst).getD (p - 2) 0 = 13 then 2 else 1 := by
  intro p h1 h2
  obtain ⟨h3, h4⟩ := sk_one hp h1 h2
  unfold lineF
  rw [if_pos h3, sk_zero, h4]
  unfold closedF
  rw [Nat.zero_add]
  split
  ·rfl
  ·split <;> rfl
 have hlen : (ds.map Prod.fst).length = pre.length + r.length := by rw [hA, List.length_append]
 rw [show brk1 (ds.map Prod.fst) = brk1 r by rw [hA]; exact brk1_skip pre r hpre]
 rcases hr with rfl | ⟨b, s, rfl, hb⟩
 ·have ht : totE ds = 0 := by
   unfold totE
   refine cntE_none _ _ (fun q h1 h2 => hno q h1 ?_)
   rw [List.length_map] at hlen
   simp at hlen
   omega
  unfold lineF
  rw [if_neg (by omega)]
  rfl
 ·have g0 : (ds.map Prod.fst).getD pre.length 0 = b := by
   have := getD_app pre (b :: s) 0
   rw [<- hA] at this
   exact this
  have g1 : (ds.map Prod.fst).getD (pre.length + 1) 0 = s.getD 0 0 := by
   have := getD_app pre (b :: s) 1
   rw [<- hA] at this
   exact this
  simp only [List.length_cons] at hlen
  have gp : ∀ k, k < pre.length -> (ds.map Prod.fst).getD k 0 ≠ 13 := fun k hk => by
   have := (hpre _ (getD_pre pre (b :: s) k hk)).2
   rw [<- hA] at this
   exact this
  rcases hb with rfl | rfl
  ·rw [key (pre.length + 1) (by
    unfold isE
    rw [decide_eq_true_eq]
    exact ⟨by omega, by omega, .inl (by rw [Nat.add_sub_cancel]; exact g0)⟩) (fun q h1 h2 => hno q h1 (by omega))]
   rw [Nat.add_sub_cancel, g0, if_neg (by omega), if_neg ?_]
   ·rfl
   ·rintro ⟨h1, h2⟩
    exact gp _ (by omega) h2
  ·by_cases hs : s.head? = some 10
   ·obtain ⟨t, rfl⟩ : ∃ t, s = 10 :: t := by
     cases s with
     | nil => cases hs
     | cons x t => simp at hs; exact ⟨t, by rw [hs]⟩
    simp only [List.getD_cons_zero, List.length_cons] at g1 hlen
    rw [key (pre.length + 2) (by
     unfold isE
     rw [decide_eq_true_eq]
     exact ⟨by omega, by omega, .inl (by rw [show pre.length + 2 - 1 = pre.length + 1 by omega]; exact g1)⟩) (fun q h1 h2 => by
      rcases Nat.lt_or_ge pre.length q with h3 | h3
      ·have e : q = pre.length + 1 := by omega
       rw [e]
       unfold isE
       rw [decide_eq_false_iff_not, Nat.add_sub_cancel, g0, g1]
       rintro ⟨_, _, h4 | h4⟩
       ·omega
       ·apply h4.2
        exact ⟨by omega, rfl⟩
      ·exact hno q h1 h3)]
    rw [show pre.length + 2 - 1 = pre.length + 1 by omega, g1, if_neg (by omega), Nat.add_sub_cancel, g0, if_pos ⟨by omega, rfl⟩]
    rfl
   ·rw [key (pre.length + 1) (by
     unfold isE
     rw [decide_eq_true_eq]
     refine ⟨by omega, by omega, .inr ⟨by rw [Nat.add_sub_cancel]; exact g0, ?_⟩⟩
     rintro ⟨h1, h2⟩
     rw [g1] at h2
     apply hs
     cases s with
     | nil =>
      rw [List.length_nil] at hlen
      omega
     | cons x t => simp at h2 ⊢; exact h2) (fun q h1 h2 => hno q h1 (by omega))]
    rw [Nat.add_sub_cancel, g0, if_pos rfl]
    unfold brk1
    rw [if_neg (by omega), if_pos rfl, if_neg hs]
theorem next1_any (ga gf p k s : Nat) (w : World) (ha : Blk w ga 3 #[.int .i64 (p : Int)]) (hf : Blk w gf 3 #[.int .i64 (s : Int)]) (hne : ga ≠ gf) (hk : k <= 2147483648) (hp : p <= 2147483648) :
  Calls Tryz.prog 96 #[.int .i64 (k : Int), .pointer (some ⟨ga, 0, none⟩), .pointer (some ⟨gf, 0, none⟩)] w fun e w' =>
   e = .returned (.bool (decide (k <= p))) /\ (Blk w' ga 3 #[.int .i64 (p : Int)] /\ Blk w' gf 3 #[.int .i64 ((if p < k then k else s : Nat) : Int)]) /\ Fr (· = gf) w w' := by
 have c0 := ha.cell 0
 have c1 := hf.cell 0
 have f1 := hf.frozen 0
 simp at c0 c1
 by_cases h : p < k
 ·go_enter Tryz.func96, Tryz.ntmps96
  go_wp2
  go_ret
  refine ⟨ret_b ?_, ⟨ha.far hne _, ?_⟩, (Fr.refl _ _).set1 _ _⟩
  ·show decide (k <= p) = decide (k <= p) <;> rfl
  ·exact hf.set_ 0 _
 ·go_enter Tryz.func96, Tryz.ntmps96
  go_wp2
  go_ret
  refine ⟨ret_b ?_, ⟨ha, ?_⟩, Fr.refl _ _⟩
  ·show decide (k <= p) = decide (k <= p) <;> rfl
  ·exact hf
noncomputable def nextF (l : List Int) (p : Nat) : Nat :=
 if p < l.length then foldU (fun (s k : Nat) => (decide (k <= p), if p < k then k else s)) l.length (bnds l (safeF l (p + 1))) else l.length
theorem safeG_le (l : List Int) (k : Nat) : safeG l k <= k := by
 induction k with
 | zero => simp [safeG]
 | succ k ih => simp only [safeG]; split <;> omega
theorem safeF_le (l : List Int) (p : Nat) : safeF l p <= l.length := by
 have := safeG_le l (min p l.length - 1)
 unfold safeF
 omega
theorem next_any (D : Nat -> Prop) (A : Option Addr) (n c : Nat) (l : List Int) (p : Nat) (w : World) (hl : Ints w D A n l) (hn : n <= 2147483647) (hp : p <= 2147483647) :
    Calls Tryz.prog 41 #[.slice A n c, .int .i64 (p : Int)] w fun e w' => e = .returned (.int .i64 (nextF l p : Nat)) /\ Below w.heap.size w w' := by
  have hle1 : l.length <= n := Nat.le_of_eq hl.len
  have hle2 : n <= l.length := Nat.le_of_eq hl.len.symm
  by_cases h : p < n
  · go_enter Tryz.func41, Tryz.ntmps41
    have h0 : (0 : Int) <= (p : Int) /\ ¬ n <= p := ⟨by omega, by omega⟩
    go_wp2_with fail
    have hcast : ((p : Int) + 1) = ((p + 1 : Nat) : Int) := by omega
    rw [hcast]
    clear hcast
    have hW : Below w.heap.size w ((w.alloc (.cells #[.int .i64 (p : Int)] 3)).alloc (.cells #[.int .i64 (n : Int)] 3)) := ((Below.refl _ w).alloc (Nat.le_refl _) _).alloc (by simp) _
    have ha0 : Blk ((w.alloc (.cells #[.int .i64 (p : Int)] 3)).alloc (.cells #[.int .i64 (n : Int)] 3)) w.heap.size 3 #[.int .i64 (p : Int)] := (Blk.new w _ _).alloc _
    have hf0 : Blk ((w.alloc (.cells #[.int .i64 (p : Int)] 3)).alloc (.cells #[.int .i64 (n : Int)] 3)) (w.heap.size + 1) 3 #[.int .i64 (n : Int)] := by
      have := Blk.new (w.alloc (.cells #[.int .i64 (p : Int)] 3)) 3 #[.int .i64 (n : Int)]
      simpa using this
    refine (safe_any D A n c l (p + 1) _ (Reads.below hl hW) (by omega) (by omega)).mono ?_
    rintro e w1 ⟨rfl, hb1⟩
    go_wp2_with fail
    have hl1 : Ints w1 (fun b => b < w.heap.size) A n l := Reads.below (Reads.below (Reads.more hl (fun b _ h => h) (by omega)) hW) hb1
    have ha1 := ha0.below hb1
    have hf1 := hf0.below hb1
    have hz1 : w.heap.size + 2 <= w1.heap.size := by have := hb1.size; simp at this; omega
    have hW1 : Below w.heap.size w w1 := hW.trans (hb1.mono (by simp; omega))
    have hy : Yields 96 #[.pointer (some ⟨w.heap.size, 0, none⟩), .pointer (some ⟨w.heap.size + 1, 0, none⟩)] (· = w.heap.size + 1) w1.heap.size
        (fun (s : Nat) w' => Blk w' w.heap.size 3 #[.int .i64 (p : Int)] /\ Blk w' (w.heap.size + 1) 3 #[.int .i64 (s : Int)]) (fun (s k : Nat) => (decide (k <= p), if p < k then k else s)) n (fun _ => 0) := by
      constructor
      · intro s k h; omega
      · intro s k w2 hk _ ⟨j1, j2⟩ _
        exact next1_any _ _ p k s w2 j1 j2 (by omega) (by omega) (by omega)
      · exact Tryz.call96
      · intro s w2 w3 ⟨j1, j2⟩ hk
        exact ⟨hk _ _ j1 (fun cs f e => by injection e with _ e; exact absurd e (by decide)), hk _ _ j2 (fun cs f e => by injection e with _ e; exact absurd e (by decide))⟩
    have hsf := safeF_le l (p + 1)
    refine (cwalk_any _ _ _ _ _ _ _ A n c l (safeF l (p + 1)) n _ hl1 (fun b h _ h' => by omega) (by omega) (by omega) hy ⟨ha1, hf1⟩ (by simp)).mono ?_
    rintro e w2 ⟨rfl, ⟨j1, j2⟩, hf⟩
    have c1 := j2.cell 0
    simp at c1
    have hres : nextF l p = foldU (fun (s k : Nat) => (decide (k <= p), if p < k then k else s)) n (bnds l (safeF l (p + 1))) := by
      unfold nextF
      rw [if_pos (by omega), show l.length = n by omega]
    rw [<- hres] at c1
    have HR := Lib.hid hres
    clear hres
    go_wp2_with fail
    go_ret
    exact ⟨rfl, bfr hW1 hf (fun i hi => by omega)⟩
  · go_enter Tryz.func41, Tryz.ntmps41
    go_wp2
    all_goals
      go_ret
      refine ⟨ret_i ?_, (Below.refl _ w).alloc (Nat.le_refl _) _⟩
      unfold nextF
      rw [if_neg (by omega)]
      first
        | (show (n : Int) = _; omega)
        | (show (p : Int) = _; omega)
def cont (ds : List (Int × Int)) (i : Nat) : List Int := seg (lineF ds i).from_ (lineF ds i).to_ (ds.map Prod.fst)
def rowV (L : Ln) (i : Int) (A1 : Option Addr) (n1 c1 : Nat) (A2 : Option Addr) (n2 c2 : Nat) : Array Value := #[.int .i64 L.from_, .int .i64 L.to_, .int .i64 L.next, .int .i64 L.brk, .int .i64 i, .slice A1 n1 c1, .slice A2 n2 c2]
def RowC (w : World) (D : Nat -> Prop) (L : Ln) (i : Int) (C : List Int) (v : Array Value) : Prop :=
 ∃ A1 n1 c1 A2 n2 c2, v = rowV L i A1 n1 c1 A2 n2 c2 /\ Ints w D A1 n1 C /\ n1 <= c1 /\ Ints w D A2 n2 (allB C) /\ n2 <= c2
theorem RowC.below {w w' : World} {D : Nat -> Prop} {L : Ln} {i : Int} {C : List Int} {v : Array Value} (h : RowC w D L i C v) (hb : Below w.heap.size w w') : RowC w' D L i C v := by
 obtain ⟨A1, n1, c1, A2, n2, c2, e, h1, h2, h3, h4⟩ := h
 exact ⟨A1, n1, c1, A2, n2, c2, e, Reads.below h1 hb, h2, Reads.below h3 hb, h4⟩
theorem RowC.more {w : World} {D D' : Nat -> Prop} {L : Ln} {i : Int} {C : List Int} {v : Array Value} (h : RowC w D L i C v) (hD : ∀ b, D b -> b < w.heap.size -> D' b) : RowC w D' L i C v := by
 obtain ⟨A1, n1, c1, A2, n2, c2, e, h1, h2, h3, h4⟩ := h
 exact ⟨A1, n1, c1, A2, n2, c2, e, Reads.more h1 hD (by decide), h2, Reads.more h3 hD (by decide), h4⟩
def RowPost (L : Ln) (i : Int) (C : List Int) (w : World) (e : Ending) (w' : World) : Prop := ∃ v, e = .returned (.agg v) /\ RowC w' (fun b => w.heap.size <= b) L i C v /\ Below w.heap.size w w'
theorem lineF_bd {ds : List (Int × Int)} (hp : PosD ds) {i : Nat} (hi : i <= totE ds) : 0 <= (lineF ds i).from_ /\ (lineF ds i).from_ <= (lineF ds i).to_ /\ (lineF ds i).to_ <= (lineF ds i).next /\ (lineF ds i).next <= ds.length := by
 have h0 := sk_cnt hp hi
 unfold lineF
 split
 ·rename_i hlt
  have h1 := sk_lt hp hlt
  have h2 := sk_cnt hp (k := i + 1) hlt
  unfold closedF
  split
  ·dsimp only; omega
  ·split
   ·dsimp only; omega
   ·dsimp only; omega
 ·dsimp only; omega
theorem cont_len {ds : List (Int × Int)} (hp : PosD ds) {i : Nat} (hi : i <= totE ds) : ((cont ds i).length : Int) = (lineF ds i).to_ - (lineF ds i).from_ := by
 have h := lineF_bd hp hi
 unfold cont seg
 simp
 omega
theorem line_keep {w w1 : World} {b : Nat} {u0 u1 u2 u3 : Value} (hb : Below w.heap.size w w1) (h : w.cell? ⟨b, 0, none⟩ = some u0 /\ w.cell? ⟨b, 1, none⟩ = some u1 /\ w.cell? ⟨b, 2, none⟩ = some u2 /\ w.cell? ⟨b, 3, none⟩ = some u3) :
  w1.cell? ⟨b, 0, none⟩ = some u0 /\ w1.cell? ⟨b, 1, none⟩ = some u1 /\ w1.cell? ⟨b, 2, none⟩ = some u2 /\ w1.cell? ⟨b, 3, none⟩ = some u3 :=
 ⟨cell_keep hb h.1, cell_keep hb h.2.1, cell_keep hb h.2.2.1, cell_keep hb h.2.2.2⟩
theorem line_alloc {w : World} {b : Nat} {u0 u1 u2 u3 : Value} (o : Obj) (h : w.cell? ⟨b, 0, none⟩ = some u0 /\ w.cell? ⟨b, 1, none⟩ = some u1 /\ w.cell? ⟨b, 2, none⟩ = some u2 /\ w.cell? ⟨b, 3, none⟩ = some u3) :
  (w.alloc o).cell? ⟨b, 0, none⟩ = some u0 /\ (w.alloc o).cell? ⟨b, 1, none⟩ = some u1 /\ (w.alloc o).cell? ⟨b, 2, none⟩ = some u2 /\ (w.alloc o).cell? ⟨b, 3, none⟩ = some u3 := line_keep (balloc (Below.refl _ _)) h
theorem line_set {w : World} {p : Addr} {u : Value} {b : Nat} {u0 u1 u2 u3 : Value} (hp : b ≠ p.block) (h : w.cell? ⟨b, 0, none⟩ = some u0 /\ w.cell? ⟨b, 1, none⟩ = some u1 /\ w.cell? ⟨b, 2, none⟩ = some u2 /\ w.cell? ⟨b, 3, none⟩ = some u3) :
  (w.setCell p u).cell? ⟨b, 0, none⟩ = some u0 /\ (w.setCell p u).cell? ⟨b, 1, none⟩ = some u1 /\ (w.setCell p u).cell? ⟨b, 2, none⟩ = some u2 /\ (w.setCell p u).cell? ⟨b, 3, none⟩ = some u3 := by
 have hh := Below.heap_setCell w p u b hp
 exact ⟨(World.cell?_of_block (w := w) hh).trans h.1, (World.cell?_of_block (w := w) hh).trans h.2.1, (World.cell?_of_block (w := w) hh).trans h.2.2.1, (World.cell?_of_block (w := w) hh).trans h.2.2.2⟩
theorem line_allocd {w : World} {b : Nat} {u0 u1 u2 u3 : Value} (o : Obj) (h : w.drew.cell? ⟨b, 0, none⟩ = some u0 /\ w.drew.cell? ⟨b, 1, none⟩ = some u1 /\ w.drew.cell? ⟨b, 2, none⟩ = some u2 /\ w.drew.cell? ⟨b, 3, none⟩ = some u3) :
  (w.alloc o).drew.cell? ⟨b, 0, none⟩ = some u0 /\ (w.alloc o).drew.cell? ⟨b, 1, none⟩ = some u1 /\ (w.alloc o).drew.cell? ⟨b, 2, none⟩ = some u2 /\ (w.alloc o).drew.cell? ⟨b, 3, none⟩ = some u3 := line_keep (w := w) (w1 := (w.alloc o).drew) (Below.drew (balloc (Below.refl _ w))) h
theorem row_facts {w : World} {b : Nat} {L : Ln} {i : Int} {A1 A2 : Option Addr} {n1 c1 n2 c2 : Nat} (h : Blk w b 137 (rowV L i A1 n1 c1 A2 n2 c2)) :
  (w.cell? ⟨b, 0, none⟩ = some (.int .i64 L.from_) /\ w.cell? ⟨b, 1, none⟩ = some (.int .i64 L.to_) /\ w.cell? ⟨b, 2, none⟩ = some (.int .i64 L.next) /\ w.cell? ⟨b, 3, none⟩ = some (.int .i64 L.brk) /\ w.cell? ⟨b, 4, none⟩ = some (.int .i64 i) /\
   w.cell? ⟨b, 5, none⟩ = some (.slice A1 n1 c1) /\ w.cell? ⟨b, 6, none⟩ = some (.slice A2 n2 c2)) /\
  w.frozen? ⟨b, 0, none⟩ = false /\ w.frozen? ⟨b, 1, none⟩ = false /\ w.frozen? ⟨b, 2, none⟩ = false /\ w.frozen? ⟨b, 3, none⟩ = false /\ w.frozen? ⟨b, 4, none⟩ = false /\ w.frozen? ⟨b, 5, none⟩ = false /\ w.frozen? ⟨b, 6, none⟩ = false :=
 ⟨⟨h.cell 0, h.cell 1, h.cell 2, h.cell 3, h.cell 4, h.cell 5, h.cell 6⟩, h.frozen 0, h.frozen 1, h.frozen 2, h.frozen 3, h.frozen 4, h.frozen 5, h.frozen 6⟩
theorem row_new (w1 : World) {w3 : World} (o : Obj) (hb : Below ((w1.alloc o).alloc (.cells (rowV ⟨0, 0, 0, 0⟩ 0 none 0 0 none 0 0) 137)).drew.heap.size ((w1.alloc o).alloc (.cells (rowV ⟨0, 0, 0, 0⟩ 0 none 0 0 none 0 0) 137)).drew w3) :
  Blk w3 (w1.heap.size + 1) 137 (rowV ⟨0, 0, 0, 0⟩ 0 none 0 0 none 0 0) := by
 have h := (Blk.new (w1.alloc o) 137 (rowV ⟨0, 0, 0, 0⟩ 0 none 0 0 none 0 0)).drew
 simp only [World.size_alloc] at h
 exact h.below hb
def setR (w : World) (b : Nat) (x0 x1 x2 x3 x4 : Int) (v5 v6 : Value) : World :=
 ((((((w.setCell ⟨b, 0, none⟩ (.int .i64 x0)).setCell ⟨b, 1, none⟩ (.int .i64 x1)).setCell ⟨b, 2, none⟩ (.int .i64 x2)).setCell ⟨b, 3, none⟩ (.int .i64 x3)).setCell ⟨b, 4, none⟩ (.int .i64 x4)).setCell ⟨b, 5, none⟩ v5).setCell ⟨b, 6, none⟩ v6
theorem setR_fr (w : World) (b : Nat) (x0 x1 x2 x3 x4 : Int) (v5 v6 : Value) : Fr (· = b) w (setR w b x0 x1 x2 x3 x4 v5 v6) :=
 (((((((Fr.refl _ w).set1 0 _).set1 1 _).set1 2 _).set1 3 _).set1 4 _).set1 5 _).set1 6 _
theorem setR_own {w : World} {b : Nat} {T : TypeId} {L L' : Ln} {i i' : Int} {A1 A2 A1' A2' : Option Addr} {n1 c1 n2 c2 n1' c1' n2' c2' : Nat} (h : Blk w b T (rowV L i A1 n1 c1 A2 n2 c2)) :
  Blk (setR w b L'.from_ L'.to_ L'.next L'.brk i' (.slice A1' n1' c1') (.slice A2' n2' c2')) b T (rowV L' i' A1' n1' c1' A2' n2' c2') :=
 (((((((h.set_ 0 _).set_ 1 _).set_ 2 _).set_ 3 _).set_ 4 _).set_ 5 _).set_ 6 _).eq_ (by simp [rowV])
def NrCut (L : Ln) (i : Int) (C : List Int) (w : World) (s7 : Value) (wx : World) : Prop :=
 ∃ b A n c, s7 = .pointer (some ⟨b, 0, none⟩) /\ Blk wx b 137 (rowV L i A n c none 0 0) /\ Ints wx (fun k => w.heap.size < k /\ k ≠ b) A n C /\ n <= c /\ Below w.heap.size w wx /\ w.heap.size < b /\ Blk wx w.heap.size 137 (rowV ⟨0, 0, 0, 0⟩ 0 none 0 0 none 0 0)
theorem nr_two {w w3 : World} {b B n c : Nat} {i : Int} {L : Ln} {A : Option Addr} {C : List Int} {L0 : Ln} {i0 : Int} {A1 A2 : Option Addr} {n1 c1 n2 c2 : Nat} (hbz : Blk w3 b 137 (rowV L0 i0 A1 n1 c1 A2 n2 c2)) (ho : w3.ownsRow B 3 1 (.slice A n c) n (C.map (Value.int .i64))) (hc : n <= c) (hw : Below w.heap.size w w3) (hwb : w.heap.size < b) (hr : Blk w3 w.heap.size 137 (rowV ⟨0, 0, 0, 0⟩ 0 none 0 0 none 0 0))
  (hfr : Fr (· = b) w3 (setR w3 b L.from_ L.to_ L.next L.brk i (.slice A n c) (.slice none 0 0))) (hB : ∀ k, B <= k -> b < k) : NrCut L i C w (.pointer (some ⟨b, 0, none⟩)) (setR w3 b L.from_ L.to_ L.next L.brk i (.slice A n c) (.slice none 0 0)) := by
 refine ⟨b, A, n, c, rfl, setR_own hbz, ?_, hc, bfr hw hfr (fun k hk => by rw [hk]; exact Nat.le_of_lt hwb), hwb, hr.fr hfr (Nat.ne_of_lt hwb)⟩
 refine Reads.more (D := fun k => b < k) ?_ (fun k hk _ => ⟨Nat.lt_trans hwb hk, Nat.ne_of_gt hk⟩) (by decide)
 exact Reads.fr (Reads.more (Reads.of_own ho) (fun k hk _ => hB k hk) (by decide)) hfr (fun k hk _ e => by rw [e] at hk; exact Nat.lt_irrefl _ hk)
theorem row_fin {w w4 : World} {b B n c c2 : Nat} {i : Int} {L : Ln} {A A2 : Option Addr} {C : List Int} (hwb : w.heap.size < b) (hi : Ints w4 (fun k => w.heap.size < k /\ k ≠ b) A n C) (hnc : n <= c)
  (ho : w4.ownsRow B 3 1 (.slice A2 (allB C).length c2) (allB C).length ((allB C).map (Value.int .i64))) (hB : b < B) (hc2 : (allB C).length <= c2) (hw : Below w.heap.size w w4) :
  RowPost L i C w (.returned (.agg (rowV L i A n c A2 (allB C).length c2))) (setR (w4.setCell ⟨b, 6, none⟩ (.slice A2 (allB C).length c2)) w.heap.size L.from_ L.to_ L.next L.brk i (.slice A n c) (.slice A2 (allB C).length c2)) := by
 have h1 : Fr (fun k => k = b \/ k = w.heap.size) w4 (w4.setCell ⟨b, 6, none⟩ (.slice A2 (allB C).length c2)) := (Fr.refl _ _).setCell (.inl (.inl rfl)) _
 have hfr := h1.call (setR_fr _ w.heap.size L.from_ L.to_ L.next L.brk i (.slice A n c) (.slice A2 (allB C).length c2)) (fun k _ hk => .inr hk)
 refine ⟨_, rfl, ⟨A, n, c, A2, _, c2, rfl, ?_, hnc, ?_, hc2⟩, bfr hw hfr (fun k hk => by rcases hk with rfl | rfl; exact Nat.le_of_lt hwb; exact Nat.le_refl _)⟩
 ·exact Reads.more (Reads.fr hi hfr (fun k hk _ e => by rcases e with rfl | rfl; exact hk.2 rfl; exact Nat.lt_irrefl _ hk.1)) (fun k hk _ => Nat.le_of_lt hk.1) (by decide)
 ·exact Reads.more (Reads.fr (Reads.of_own ho) hfr (fun k hk _ e => by rcases e with rfl | rfl <;> omega)) (fun k hk _ => by omega) (by decide)
theorem newRow_any (D : Nat -> Prop) (g : Nat) (enc : Int) (ds : List (Int × Int)) (i : Nat) (w : World) (h : TextAt w D g enc ds) (hi : i <= totE ds) :
    Calls Tryz.prog 83 #[.pointer (some ⟨g, 0, none⟩), .int .i64 (i : Int)] w fun e w' => RowPost (lineF ds i) i (cont ds i) w e w' := by
  have hp := h.pos
  have hlen := h.len
  have hbd := lineF_bd hp hi
  have hcl := cont_len hp hi
  have ha := fun (w' : World) (hb : Below w.heap.size w w') => at_line D g enc ds i w' (h.below hb) hi
  have hs := fun (w' : World) (hb : Below w.heap.size w w') => tatoms_any D g enc ds (lineF ds i).from_ (lineF ds i).to_ w' (h.below hb) (by omega) (by omega)
  have hc : seg (lineF ds i).from_ (lineF ds i).to_ (ds.map Prod.fst) = cont ds i := rfl
  rw [hc] at hs
  obtain ⟨C, hC⟩ : ∃ C, cont ds i = C := ⟨_, rfl⟩
  rw [hC] at hs hcl ⊢
  obtain ⟨⟨x0, x1, x2, x3⟩, hL⟩ : ∃ L, lineF ds i = L := ⟨_, rfl⟩
  rw [hL] at ha hs hbd hcl ⊢
  dsimp only at hbd hcl hs
  simp only [Ln.cells] at ha
  have HA := Lib.hid ha
  have HS := Lib.hid hs
  have HCL := Lib.hid hcl
  clear ha hs hc hC hL hi hcl
  go_enter Tryz.func83, Tryz.ntmps83
  go_wp2_with fail
  refine (HA.out _ (balloc (Below.refl _ w))).mono ?_
  rintro e w1 ⟨rfl, hb1⟩
  have hW1 := bseq (balloc (Below.refl _ w)) hb1
  have hR1 : Blk w1 w.heap.size 137 (rowV ⟨0, 0, 0, 0⟩ 0 none 0 0 none 0 0) := (Blk.new w _ _).below hb1
  have hz1 : w.heap.size + 1 <= w1.heap.size := by have := hb1.size; simp only [World.size_alloc] at this; omega
  go_upto_region 2 with fail
  have hbl := Blk.new w1 59 (Ln.mk x0 x1 x2 x3).cells
  obtain ⟨⟨z0, z1, z2, z3⟩, _⟩ := line_facts hbl
  have hW2 := balloc (o := .cells (Ln.mk x0 x1 x2 x3).cells 59) hW1
  simp only [Ln.cells] at hbl z0 z1 z2 z3 hW2
  have HBL := Lib.hid hbl
  have HW2 := Lib.hid hW2
  clear hbl hW2
  go_cut [7] (fun s7 wx => NrCut ⟨x0, x1, x2, x3⟩ i C w s7 wx)
  case first =>
    have s0 : (w1.alloc (.cells #[.int .i64 x0, .int .i64 x1, .int .i64 x2, .int .i64 x3] 59)).drew.cell? ⟨w1.heap.size, 0, none⟩ = some (.int .i64 x0) /\ (w1.alloc (.cells #[.int .i64 x0, .int .i64 x1, .int .i64 x2, .int .i64 x3] 59)).drew.cell? ⟨w1.heap.size, 1, none⟩ = some (.int .i64 x1) /\
        (w1.alloc (.cells #[.int .i64 x0, .int .i64 x1, .int .i64 x2, .int .i64 x3] 59)).drew.cell? ⟨w1.heap.size, 2, none⟩ = some (.int .i64 x2) /\ (w1.alloc (.cells #[.int .i64 x0, .int .i64 x1, .int .i64 x2, .int .i64 x3] 59)).drew.cell? ⟨w1.heap.size, 3, none⟩ = some (.int .i64 x3) := ⟨z0, z1, z2, z3⟩
    go_region_held3 (fun w' => w'.cell? ⟨w1.heap.size, 0, none⟩ = some (.int .i64 x0) /\ w'.cell? ⟨w1.heap.size, 1, none⟩ = some (.int .i64 x1) /\ w'.cell? ⟨w1.heap.size, 2, none⟩ = some (.int .i64 x2) /\ w'.cell? ⟨w1.heap.size, 3, none⟩ = some (.int .i64 x3)) (first | (with_reducible assumption) | ((with_reducible refine line_alloc _ ?_); with_reducible assumption) | ((repeat (with_reducible refine line_set (by dsimp only; omega) ?_)); (first | (with_reducible assumption) | ((with_reducible refine line_alloc _ ?_); with_reducible assumption))) | ((with_reducible refine line_allocd _ ?_); with_reducible assumption)) (first | (go_at_call 42; (with_reducible refine (HS.out _ (Below.drew HW2.out)).mono ?_); rintro e w3 ⟨v, rfl, ho, hb3⟩; obtain ⟨A, c, rfl, hc⟩ := own_slice ho; have hx3 := bdrew hb3; have hlt3 : w1.heap.size + 1 <= w3.heap.size := (by have := hx3.size; simp at this; omega); have s3 := line_keep hx3 s0; have hx4 := balloc (o := .cells (rowV ⟨0, 0, 0, 0⟩ 0 none 0 0 none 0 0) 137) hx3) | (go_at_call 42; (with_reducible refine (HS.out _ (Below.drew (balloc HW2.out))).mono ?_); rintro e w3 ⟨v, rfl, ho, hb3⟩; obtain ⟨A, c, rfl, hc⟩ := own_slice ho; have hx4 := bseq (Below.drew (balloc (Below.refl _ _))) hb3; have s3 := line_keep hx4 ⟨z0, z1, z2, z3⟩; have hbz := row_new w1 _ hb3; obtain ⟨⟨g0, g1, g2, g3, g4, g5, g6⟩, u0, u1, u2, u3, u4, u5, u6⟩ := row_facts hbz))
    · go_wp2_with fail
      go_meet
      have hw : Below w.heap.size w w3 := bseq HW2.out hx3
      exact ⟨w3.heap.size, A, C.length, c, rfl, Blk.new w3 _ _, Reads.below (Reads.more (Reads.of_own ho) (fun k hk hk2 => ⟨by simp at hk; omega, Nat.ne_of_lt hk2⟩) (by decide)) (balloc (Below.refl _ _)), hc, balloc hw, by omega, ((hR1.alloc _).below hx3).alloc _⟩
    · go_wp2_with fail
      go_meet
      have hw : Below w.heap.size w w3 := bseq HW2.out hx4
      have hz := HW2.out.size
      simp only [World.size_alloc] at hz
      have hfr : Fr (· = w1.heap.size + 1) w3 (setR w3 (w1.heap.size + 1) x0 x1 x2 x3 i (.slice A C.length c) (.slice none 0 0)) := setR_fr _ _ _ _ _ _ _ _ _
      have hfin := nr_two (w := w) (w3 := w3) (i := (i : Int)) (L := ⟨x0, x1, x2, x3⟩) hbz ho hc hw (by omega) ((hR1.alloc _).below hx4) hfr (by intro b hb; simp at hb; omega)
      unfold setR at hfin
      with_reducible exact hfin
  case rest =>
    obtain ⟨b, A, n, c, rfl, hb, hi, hnc, hw, hwb, hr⟩ := hcut
    clear hR1 hz1 hb1 hW1 HW2 HBL z0 z1 z2 z3 HA HS
    have hbr := fun (wy : World) (hy : Below wc.heap.size wc wy) => breaks_any (fun k => w.heap.size < k /\ k ≠ b) A n c C wy (Reads.below hi hy) (by have := hi.len; have := HCL.out; omega)
    have HBR := Lib.hid hbr
    clear hbr
    obtain ⟨⟨g0, g1, g2, g3, g4, g5, g6⟩, u0, u1, u2, u3, u4, u5, u6⟩ := row_facts hb
    go_wp2_with fail
    refine (HBR.out _ (Below.refl _ _)).mono ?_
    rintro e w4 ⟨v, rfl, ho4, hb4⟩
    obtain ⟨A2, c2, rfl, hc2⟩ := own_slice ho4
    have HO4 := Lib.hid ho4
    clear ho4 HBR g0 g1 g2 g3 g4 g5 g6 u0 u1 u2 u3 u4 u5 u6
    have hb5 := hb.below hb4
    have hw4 := bseq hw hb4
    obtain ⟨⟨g0, g1, g2, g3, g4, g5, g6⟩, u0, u1, u2, u3, u4, u5, u6⟩ := row_facts hb5
    have hr5 := hr.below hb4
    obtain ⟨⟨j0, j1, j2, j3, j4, j5, j6⟩, v0, v1, v2, v3, v4, v5, v6⟩ := row_facts hr5
    have hlt := hb.lt
    have hfin := row_fin (w := w) (w4 := w4) (L := ⟨x0, x1, x2, x3⟩) (i := (i : Int)) hwb (Reads.below hi hb4) hnc HO4.out hlt hc2 hw4
    unfold setR at hfin
    have HF := Lib.hid hfin
    clear hfin
    go_wp2_with fail
    refine bodyPost_ret (v := .agg (rowV ⟨x0, x1, x2, x3⟩ i A n c A2 (allB C).length c2)) (by simp [results, Tryz.results83, go_sem, rowV, j0, j1, j2, j3, j4, j5, j6]) rfl ?_
    with_reducible exact HF.out
end Go.Proofs.YtgiihhikdoikgaaGreat
