/-
  The walks of package lines: Of, ended, Count, At.
-/
import Derived.Test.YtcdhfmkfkhhnoaaGreatLLines
set_option linter.unusedSimpArgs false
set_option linter.unusedVariables false
namespace Go.Proofs.YtcdhfmkfkhhnoaaGreat
open Go.RowKit

/-- how many breaks there are -/
def totE (ds : List (Int × Int)) : Nat := cntE (ds.map Prod.fst) ds.length
/-- where the k-th line begins -/
def sk (ds : List (Int × Int)) (k : Nat) : Nat := (sF ds k).toNat
theorem sk_zero (ds : List (Int × Int)) : sk ds 0 = 0 := rfl
theorem isE_le {A : List Int} {p : Nat} (h : isE A p = true) : 0 < p ∧ p ≤ A.length := by
  unfold isE at h
  simp only [decide_eq_true_eq] at h
  exact ⟨h.1, h.2.1⟩
section
variable {ds : List (Int × Int)} (hp : PosD ds)
include hp
theorem sk_spec {k : Nat} (h0 : 0 < k) (h1 : k ≤ totE ds) : sF ds (k : Int) = (sk ds k : Int) ∧ isE (ds.map Prod.fst) (sk ds k) = true ∧ cntE (ds.map Prod.fst) (sk ds k) = k := by
  obtain ⟨p, e1, e2, e3⟩ := sF_spec hp (k := (k : Int)) (by omega) (by unfold totE at h1; omega)
  have : sk ds k = p := by unfold sk; rw [e1]; rfl
  rw [this]
  exact ⟨e1, e2, by omega⟩
theorem sk_cnt {k : Nat} (h1 : k ≤ totE ds) : sF ds (k : Int) = (sk ds k : Int) ∧ cntE (ds.map Prod.fst) (sk ds k) = k ∧ sk ds k ≤ ds.length := by
  rcases Nat.eq_zero_or_pos k with h | h
  · subst h; exact ⟨rfl, rfl, Nat.zero_le _⟩
  · have := sk_spec hp h h1
    have h2 := (isE_le this.2.1).2
    rw [List.length_map] at h2
    exact ⟨this.1, this.2.2, h2⟩
theorem sk_lt {k : Nat} (h1 : k < totE ds) : sk ds k < sk ds (k + 1) := by
  have h2 := sk_cnt hp (Nat.le_of_lt h1)
  have h3 := sk_cnt hp (k := k + 1) h1
  rcases Nat.lt_or_ge (sk ds k) (sk ds (k + 1)) with h | h
  · exact h
  · have := cntE_mono (ds.map Prod.fst) h
    omega
theorem bF_tot : bF ds (ds.length : Int) = totE ds := by
  rw [bF_cnt hp, Int.toNat_natCast, Nat.min_self]
  rfl
end
/-- which line -/
def ofF (ds : List (Int × Int)) (at_ : Int) : Nat := cntE (ds.map Prod.fst) (min at_.toNat ds.length)
/-- does the text end with a break? -/
def endB (ds : List (Int × Int)) : Bool := decide (0 < ds.length ∧ sk ds (totE ds) = ds.length)
def countF (ds : List (Int × Int)) : Nat := totE ds + (if endB ds = true then 0 else 1)
/-- a line by its number -/
def lineF (ds : List (Int × Int)) (i : Nat) : Ln := if i < totE ds then closedF (ds.map Prod.fst) (sk ds i) (sk ds (i + 1)) else ⟨sk ds i, ds.length, ds.length, 0⟩
set_option maxRecDepth 100000 in
set_option maxHeartbeats 2000000 in
theorem at_line (D : Nat → Prop) (g : Nat) (enc : Int) (ds : List (Int × Int)) (i : Nat) (w : World) (h : TextAt w D g enc ds) (hi : i ≤ totE ds) :
    Calls Tryz.prog 34 #[.pointer (some ⟨g, 0, none⟩), .int .i64 (i : Int)] w fun e w' => e = .returned (.tuple #[.agg (lineF ds i).cells, .int .i64 0]) ∧ Below w.heap.size w w' := by
  have hp := h.pos
  have hW : Below w.heap.size w (w.alloc (.cells (Ln.mk 0 0 0 0).cells 108)) := balloc (Below.refl _ w)
  have b4 : Blk (w.alloc (.cells (Ln.mk 0 0 0 0).cells 108)) w.heap.size 108 (Ln.mk 0 0 0 0).cells := Blk.new w _ _
  have hl := fun (w' : World) (hb : Below w.heap.size w w') => len_any D g enc ds w' (h.below hb)
  have hb := fun (w' : World) (hb : Below w.heap.size w w') => breaksT_any D g enc ds (ds.length : Int) w' (h.below hb)
  have hs := fun (w' : World) (hb : Below w.heap.size w w') => seek_any D g enc ds (i : Int) w' (h.below hb)
  rw [bF_tot hp] at hb
  have hc0 := sk_cnt hp hi
  rw [hc0.1] at hs
  have hlen := h.len
  have hT1 : totE ds ≤ 1073741824 := Nat.le_trans (cntE_le _ _) hlen
  obtain ⟨R, hR⟩ : ∃ R, lineF ds i = R := ⟨_, rfl⟩
  rw [hR]
  obtain ⟨p, hpp⟩ : ∃ p, sk ds i = p := ⟨_, rfl⟩
  have hple : p ≤ ds.length := by rw [← hpp]; exact hc0.2.2
  rw [hpp] at hs
  by_cases hlt : i < totE ds
  · have hlt2 := sk_lt hp hlt
    have hc1 := sk_cnt hp (k := i + 1) hlt
    have hs2 := fun (w' : World) (hb : Below w.heap.size w w') => seek_any D g enc ds ((i + 1 : Nat) : Int) w' (h.below hb)
    rw [hc1.1] at hs2
    have hcl := fun (w' : World) (hb : Below w.heap.size w w') => closed_any D g enc ds (sk ds i) (sk ds (i + 1)) w' (h.below hb) hlt2 hc1.2.2
    have hRR : closedF (ds.map Prod.fst) (sk ds i) (sk ds (i + 1)) = R := by rw [← hR]; unfold lineF; rw [if_pos hlt]
    rw [hRR, hpp] at hcl
    obtain ⟨n, hn⟩ : ∃ n, ds.length = n := ⟨_, rfl⟩
    obtain ⟨T, hT⟩ : ∃ T, totE ds = T := ⟨_, rfl⟩
    obtain ⟨p2, hp2⟩ : ∃ p, sk ds (i + 1) = p := ⟨_, rfl⟩
    rw [hn] at hl hb hlen hple
    rw [hT] at hb hT1 hlt
    rw [hp2] at hs2 hcl
    have hcast : ((i + 1 : Nat) : Int) = (i : Int) + 1 := by omega
    rw [hcast] at hs2
    simp only [Ln.cells] at hcl
    have HL := Lib.hid hl
    have HB := Lib.hid hb
    have HS := Lib.hid hs
    have HS2 := Lib.hid hs2
    have HCL := Lib.hid hcl
    clear hl hb hs hs2 hcl hRR hR hp hpp hc0 hc1 hn hT hp2 hi hlt2 hcast
    have hpi : (0 : Int) ≤ (p : Int) := by omega
    go_enter Tryz.func34, Tryz.ntmps34
    go_wp2_with fail
    refine (HS.out _ hW).mono ?_
    rintro e w1 ⟨rfl, hb1⟩
    have hW1 := bseq hW hb1
    go_wp2_with fail
    refine (HL.out _ hW1).mono ?_
    rintro e w2 ⟨rfl, hb2⟩
    have hW2 := bseq hW1 hb2
    go_wp2_with fail
    refine (HB.out _ hW2).mono ?_
    rintro e w3 ⟨rfl, hb3⟩
    have hW3 := bseq hW2 hb3
    go_wp2_with fail
    refine (HS2.out _ hW3).mono ?_
    rintro e w4 ⟨rfl, hb4⟩
    have hW4 := bseq hW3 hb4
    go_wp2_with fail
    refine (HCL.out _ hW4).mono ?_
    rintro e w5 ⟨rfl, hb5⟩
    have hW5 := bseq hW4 hb5
    obtain ⟨⟨z0, z1, z2, z3⟩, u0, u1, u2, u3⟩ := line_facts (b4.below (bseq (bseq (bseq (bseq hb1 hb2) hb3) hb4) hb5))
    go_wp2_with fail
    refine bodyPost_ret (v := .tuple #[.agg R.cells, .int .i64 0]) (by simp [results, Tryz.results34, go_sem, Ln.cells, z0, z1, z2, z3]) rfl ⟨rfl, ?_⟩
    exact below_set4 hW5 (Nat.le_refl _)
  · have hRR : R = ⟨p, ds.length, ds.length, 0⟩ := by rw [← hR]; unfold lineF; rw [if_neg hlt, hpp]
    obtain ⟨n, hn⟩ : ∃ n, ds.length = n := ⟨_, rfl⟩
    obtain ⟨T, hT⟩ : ∃ T, totE ds = T := ⟨_, rfl⟩
    rw [hn] at hl hb hlen hple hRR
    rw [hT] at hb hT1 hlt
    have HL := Lib.hid hl
    have HB := Lib.hid hb
    have HS := Lib.hid hs
    have HRR := Lib.hid hRR
    clear hl hb hs hRR hR hp hpp hc0 hn hT hi
    have hpi : (0 : Int) ≤ (p : Int) := by omega
    go_enter Tryz.func34, Tryz.ntmps34
    go_wp2_with fail
    refine (HS.out _ hW).mono ?_
    rintro e w1 ⟨rfl, hb1⟩
    have hW1 := bseq hW hb1
    go_wp2_with fail
    refine (HL.out _ hW1).mono ?_
    rintro e w2 ⟨rfl, hb2⟩
    have hW2 := bseq hW1 hb2
    go_wp2_with fail
    refine (HB.out _ hW2).mono ?_
    rintro e w3 ⟨rfl, hb3⟩
    have hW3 := bseq hW2 hb3
    go_wp2_with fail
    refine (HL.out _ hW3).mono ?_
    rintro e w4 ⟨rfl, hb4⟩
    have hW4 := bseq hW3 hb4
    go_wp2_with fail
    refine (HL.out _ hW4).mono ?_
    rintro e w5 ⟨rfl, hb5⟩
    have hW5 := bseq hW4 hb5
    obtain ⟨⟨z0, z1, z2, z3⟩, u0, u1, u2, u3⟩ := line_facts (b4.below (bseq (bseq (bseq (bseq hb1 hb2) hb3) hb4) hb5))
    go_wp2_with fail
    refine bodyPost_ret (v := .tuple #[.agg (Ln.mk p n n 0).cells, .int .i64 0]) (by simp [results, Tryz.results34, go_sem, Ln.cells, z0, z1, z2, z3]) rfl ⟨by rw [HRR.out], ?_⟩
    exact below_set4 hW5 (Nat.le_refl _)
end Go.Proofs.YtcdhfmkfkhhnoaaGreat
