/-
  The document's lines (package copyistref6), in plain words: the kind of a text's first break.
-/
import Derived.Test.YtkoakanpaehkmaaGreatDoorLLines
import Derived.Test.YtkoakanpaehkmaaGreatDoorLGrow3
import Derived.Test.YtkoakanpaehkmaaGreatDoorLCluster4
import Derived.Test.YtkoakanpaehkmaaGreatDoorLEncode
import Derived.Test.YtkoakanpaehkmaaGreatDoorLHeavy
import Derived.Test.YtkoakanpaehkmaaGreatDoorLEnds
set_option linter.unusedSimpArgs false
set_option linter.unusedVariables false
set_option maxRecDepth 100000
set_option maxHeartbeats 32000000
namespace Go.Proofs.YtkoakanpaehkmaaGreatDoor
open Go.RowKit
def totE (ds : List (Int × Int)) : Nat := cntE (ds.map Prod.fst) ds.length
def sk (ds : List (Int × Int)) (k : Nat) : Nat := (sF ds k).toNat
theorem sk_zero (ds : List (Int × Int)) : sk ds 0 = 0 := rfl
theorem isE_le {A : List Int} {p : Nat} (h : isE A p = true) : 0 < p /\ p <= A.length := by
 unfold isE at h
 simp only [decide_eq_true_eq] at h
 exact ⟨h.1, h.2.1⟩
section
variable {ds : List (Int × Int)} (hp : PosD ds)
include hp
theorem sk_spec {k : Nat} (h0 : 0 < k) (h1 : k <= totE ds) : sF ds (k : Int) = (sk ds k : Int) /\ isE (ds.map Prod.fst) (sk ds k) = true /\ cntE (ds.map Prod.fst) (sk ds k) = k := by
 obtain ⟨p, e1, e2, e3⟩ := sF_spec hp (k := (k : Int)) (by omega) (by unfold totE at h1; omega)
 have : sk ds k = p := by unfold sk; rw [e1]; rfl
 rw [this]
 exact ⟨e1, e2, by omega⟩
theorem sk_cnt {k : Nat} (h1 : k <= totE ds) : sF ds (k : Int) = (sk ds k : Int) /\ cntE (ds.map Prod.fst) (sk ds k) = k /\ sk ds k <= ds.length := by
 rcases Nat.eq_zero_or_pos k with h | h
 ·subst h; exact ⟨rfl, rfl, Nat.zero_le _⟩
 ·have := sk_spec hp h h1
  have h2 := (isE_le this.2.1).2
  rw [List.length_map] at h2
  exact ⟨this.1, this.2.2, h2⟩
theorem sk_lt {k : Nat} (h1 : k < totE ds) : sk ds k < sk ds (k + 1) := by
 have h2 := sk_cnt hp (Nat.le_of_lt h1)
 have h3 := sk_cnt hp (k := k + 1) h1
 rcases Nat.lt_or_ge (sk ds k) (sk ds (k + 1)) with h | h
 ·exact h
 ·have := cntE_mono (ds.map Prod.fst) h
  omega
theorem bF_tot : bF ds (ds.length : Int) = totE ds := by
 rw [bF_cnt hp, Int.toNat_natCast, Nat.min_self]
 rfl
end
def ofF (ds : List (Int × Int)) (at_ : Int) : Nat := cntE (ds.map Prod.fst) (min at_.toNat ds.length)
theorem of_line (D : Nat -> Prop) (g : Nat) (enc : Int) (ds : List (Int × Int)) (at_ : Int) (w : World) (h : TextAt w D g enc ds) :
  Calls Tryz.prog 80 #[.pointer (some ⟨g, 0, none⟩), .int .i64 at_] w fun e w' => e = .returned (.int .i64 (ofF ds at_ : Nat)) /\ Below w.heap.size w w' := by
 have hp := h.pos
 have hl := len_any D g enc ds w h
 have hb := fun (w' : World) (hb : Below w.heap.size w w') (v : Int) => breaksT_any D g enc ds v w' (h.below hb)
 obtain ⟨V, hV⟩ : ∃ V, ofF ds at_ = V := ⟨_, rfl⟩
 have hv : ∀ v : Int, min v.toNat ds.length = min at_.toNat ds.length -> bF ds v = (V : Int) := fun v hv => by rw [bF_cnt hp, hv, <- hV]; rfl
 have hlen := h.len
 obtain ⟨n, hn⟩ : ∃ n, ds.length = n := ⟨_, rfl⟩
 rw [hV]
 rw [hn] at hl hv hlen
 have HL := Lib.hid hl
 have HB := Lib.hid hb
 have HV := Lib.hid hv
 clear hl hb hv hV hn hp
 by_cases h0 : at_ < 0
 ·have h1 : ¬ (n : Int) < 0 := by omega
  have e := HV.out 0 (by omega)
  have hb0 := HB.out
  have HE := Lib.hid e
  clear e hb0
  go_enter Tryz.func80, Tryz.ntmps80
  go_wp2_with fail
  refine (HL.out).mono ?_
  rintro e w1 ⟨rfl, hb1⟩
  go_wp2_with fail
  all_goals
   refine (HB.out _ hb1 _).mono ?_
   rintro e w2 ⟨rfl, hb2⟩
   go_wp2_with fail
   go_ret
   exact ⟨ret_i (HV.out _ (by omega)), bseq hb1 hb2⟩
 ·by_cases h1 : at_ <= (n : Int)
  ·go_enter Tryz.func80, Tryz.ntmps80
   go_wp2_with fail
   refine (HL.out).mono ?_
   rintro e w1 ⟨rfl, hb1⟩
   go_wp2_with fail
   all_goals
    refine (HB.out _ hb1 _).mono ?_
    rintro e w2 ⟨rfl, hb2⟩
    go_wp2_with fail
    go_ret
    exact ⟨ret_i (HV.out _ (by omega)), bseq hb1 hb2⟩
  ·go_enter Tryz.func80, Tryz.ntmps80
   go_wp2_with fail
   refine (HL.out).mono ?_
   rintro e w1 ⟨rfl, hb1⟩
   go_wp2_with fail
   all_goals
    refine (HB.out _ hb1 _).mono ?_
    rintro e w2 ⟨rfl, hb2⟩
    go_wp2_with fail
    go_ret
    exact ⟨ret_i (HV.out _ (by omega)), bseq hb1 hb2⟩
def endB (ds : List (Int × Int)) : Bool := decide (0 < ds.length /\ sk ds (totE ds) = ds.length)
theorem ended_any (D : Nat -> Prop) (g : Nat) (enc : Int) (ds : List (Int × Int)) (w : World) (h : TextAt w D g enc ds) :
  Calls Tryz.prog 126 #[.pointer (some ⟨g, 0, none⟩)] w fun e w' => e = .returned (.bool (endB ds)) /\ Below w.heap.size w w' := by
 have hp := h.pos
 have hl := len_any D g enc ds w h
 have hb := fun (w' : World) (hb : Below w.heap.size w w') => breaksT_any D g enc ds (ds.length : Int) w' (h.below hb)
 have hs := fun (w' : World) (hb : Below w.heap.size w w') => seek_any D g enc ds (totE ds : Int) w' (h.below hb)
 rw [bF_tot hp] at hb
 rw [(sk_cnt hp (Nat.le_refl _)).1] at hs
 obtain ⟨B, hB⟩ : ∃ B, endB ds = B := ⟨_, rfl⟩
 have hlen := h.len
 obtain ⟨n, hn⟩ : ∃ n, ds.length = n := ⟨_, rfl⟩
 obtain ⟨T, hT⟩ : ∃ T, totE ds = T := ⟨_, rfl⟩
 obtain ⟨q, hq⟩ : ∃ q, sk ds T = q := ⟨_, rfl⟩
 have hBB : B = decide (0 < n /\ q = n) := by rw [<- hB]; unfold endB; rw [hn, hT, hq]
 rw [hB]
 rw [hT] at hb hs
 rw [hq] at hs
 rw [hn] at hl hb hlen
 have HL := Lib.hid hl
 have HB := Lib.hid hb
 have HS := Lib.hid hs
 have HBB := Lib.hid hBB
 clear hl hb hs hB hn hT hq hp hBB
 by_cases h0 : 0 < n
 ·have ht : decide (0 < n) = true := by simpa using h0
  have ht2 : decide ((0 : Int) < (n : Int)) = true := by simpa using h0
  by_cases hqn : q = n
  ·subst hqn
   go_enter Tryz.func126, Tryz.ntmps126
   go_wp2_with fail
   refine (HL.out).mono ?_
   rintro e w1 ⟨rfl, hb1⟩
   go_wp2_with fail
   refine (HB.out _ hb1).mono ?_
   rintro e w2 ⟨rfl, hb2⟩
   have hb12 := bseq hb1 hb2
   go_wp2_with fail
   refine (HS.out _ hb12).mono ?_
   rintro e w3 ⟨rfl, hb3⟩
   go_wp2_with fail
   go_ret
   refine ⟨ret_b ?_, bseq hb12 hb3⟩
   have := HBB.out
   simp [h0] at this
   simp [this]
  ·have hne : ((q : Int) == (n : Int)) = false := by rw [beq_eq_false_iff_ne]; omega
   have HNE := Lib.hid hqn
   clear hqn
   go_enter Tryz.func126, Tryz.ntmps126
   go_wp2_with fail
   refine (HL.out).mono ?_
   rintro e w1 ⟨rfl, hb1⟩
   go_wp2_with fail
   refine (HB.out _ hb1).mono ?_
   rintro e w2 ⟨rfl, hb2⟩
   have hb12 := bseq hb1 hb2
   go_wp2_with fail
   refine (HS.out _ hb12).mono ?_
   rintro e w3 ⟨rfl, hb3⟩
   go_wp2_with fail
   go_ret
   refine ⟨ret_b ?_, bseq hb12 hb3⟩
   have := HBB.out
   rw [this]
   have hn := HNE.out
   first | rfl | (simp [hn]; done) | (rw [eq_comm]; simp [hn])
 ·have ht : decide (0 < n) = false := by simpa using h0
  have ht2 : decide ((0 : Int) < (n : Int)) = false := by simpa using h0
  go_enter Tryz.func126, Tryz.ntmps126
  go_wp2_with fail
  refine (HL.out).mono ?_
  rintro e w1 ⟨rfl, hb1⟩
  go_wp2_with fail
  go_ret
  refine ⟨ret_b ?_, hb1⟩
  have := HBB.out
  rw [this]
  simp [h0]
def countF (ds : List (Int × Int)) : Nat := totE ds + (if endB ds = true then 0 else 1)
theorem count_line (D : Nat -> Prop) (g : Nat) (enc : Int) (ds : List (Int × Int)) (w : World) (h : TextAt w D g enc ds) :
  Calls Tryz.prog 79 #[.pointer (some ⟨g, 0, none⟩)] w fun e w' => e = .returned (.int .i64 (countF ds : Nat)) /\ Below w.heap.size w w' := by
 have hp := h.pos
 have hl := len_any D g enc ds w h
 have hb := fun (w' : World) (hb : Below w.heap.size w w') => breaksT_any D g enc ds (ds.length : Int) w' (h.below hb)
 have he := fun (w' : World) (hb : Below w.heap.size w w') => ended_any D g enc ds w' (h.below hb)
 rw [bF_tot hp] at hb
 have hlen := h.len
 have hT1 : totE ds <= 1073741824 := Nat.le_trans (cntE_le _ _) hlen
 unfold countF
 obtain ⟨B, hB⟩ : ∃ B, endB ds = B := ⟨_, rfl⟩
 obtain ⟨n, hn⟩ : ∃ n, ds.length = n := ⟨_, rfl⟩
 obtain ⟨T, hT⟩ : ∃ T, totE ds = T := ⟨_, rfl⟩
 rw [hB] at he ⊢
 rw [hT] at hb hT1 ⊢
 rw [hn] at hl hb hlen
 have HL := Lib.hid hl
 have HB := Lib.hid hb
 have HE := Lib.hid he
 clear hl hb he hB hn hT hp
 cases B
 ·rw [if_neg (by simp)]
  go_enter Tryz.func79, Tryz.ntmps79
  go_wp2_with fail
  refine (HL.out).mono ?_
  rintro e w1 ⟨rfl, hb1⟩
  go_wp2_with fail
  refine (HB.out _ hb1).mono ?_
  rintro e w2 ⟨rfl, hb2⟩
  have hb12 := bseq hb1 hb2
  go_wp2_with fail
  refine (HE.out _ hb12).mono ?_
  rintro e w3 ⟨rfl, hb3⟩
  go_wp2_with fail
  go_ret
  exact ⟨ret_i (by omega), bseq hb12 hb3⟩
 ·rw [if_pos rfl]
  go_enter Tryz.func79, Tryz.ntmps79
  go_wp2_with fail
  refine (HL.out).mono ?_
  rintro e w1 ⟨rfl, hb1⟩
  go_wp2_with fail
  refine (HB.out _ hb1).mono ?_
  rintro e w2 ⟨rfl, hb2⟩
  have hb12 := bseq hb1 hb2
  go_wp2_with fail
  refine (HE.out _ hb12).mono ?_
  rintro e w3 ⟨rfl, hb3⟩
  go_wp2_with fail
  go_ret
  exact ⟨rfl, bseq hb12 hb3⟩
def lineF (ds : List (Int × Int)) (i : Nat) : Ln := if i < totE ds then closedF (ds.map Prod.fst) (sk ds i) (sk ds (i + 1)) else ⟨sk ds i, ds.length, ds.length, 0⟩
theorem at_line (D : Nat -> Prop) (g : Nat) (enc : Int) (ds : List (Int × Int)) (i : Nat) (w : World) (h : TextAt w D g enc ds) (hi : i <= totE ds) :
  Calls Tryz.prog 81 #[.pointer (some ⟨g, 0, none⟩), .int .i64 (i : Int)] w fun e w' => e = .returned (.tuple #[.agg (lineF ds i).cells, .int .i64 0]) /\ Below w.heap.size w w' := by
 have hp := h.pos
 have hW : Below w.heap.size w (w.alloc (.cells (Ln.mk 0 0 0 0).cells 75)) := balloc (Below.refl _ w)
 have b4 : Blk (w.alloc (.cells (Ln.mk 0 0 0 0).cells 75)) w.heap.size 75 (Ln.mk 0 0 0 0).cells := Blk.new w _ _
 have hl := fun (w' : World) (hb : Below w.heap.size w w') => len_any D g enc ds w' (h.below hb)
 have hb := fun (w' : World) (hb : Below w.heap.size w w') => breaksT_any D g enc ds (ds.length : Int) w' (h.below hb)
 have hs := fun (w' : World) (hb : Below w.heap.size w w') => seek_any D g enc ds (i : Int) w' (h.below hb)
 rw [bF_tot hp] at hb
 have hc0 := sk_cnt hp hi
 rw [hc0.1] at hs
 have hlen := h.len
 have hT1 : totE ds <= 1073741824 := Nat.le_trans (cntE_le _ _) hlen
 obtain ⟨R, hR⟩ : ∃ R, lineF ds i = R := ⟨_, rfl⟩
 rw [hR]
 obtain ⟨p, hpp⟩ : ∃ p, sk ds i = p := ⟨_, rfl⟩
 have hple : p <= ds.length := by rw [<- hpp]; exact hc0.2.2
 rw [hpp] at hs
 by_cases hlt : i < totE ds
 ·have hlt2 := sk_lt hp hlt
  have hc1 := sk_cnt hp (k := i + 1) hlt
  have hs2 := fun (w' : World) (hb : Below w.heap.size w w') => seek_any D g enc ds ((i + 1 : Nat) : Int) w' (h.below hb)
  rw [hc1.1] at hs2
  have hcl := fun (w' : World) (hb : Below w.heap.size w w') => closed_any D g enc ds (sk ds i) (sk ds (i + 1)) w' (h.below hb) hlt2 hc1.2.2
  have hRR : closedF (ds.map Prod.fst) (sk ds i) (sk ds (i + 1)) = R := by rw [<- hR]; unfold lineF; rw [if_pos hlt]
  rw [hRR, hpp] at hcl
  obtain ⟨n, hn⟩ : ∃ n, ds.length = n := ⟨_, rfl⟩
  obtain ⟨T, hT⟩ : ∃ T, totE ds = T := ⟨_, rfl⟩
  obtain ⟨p2, hp2⟩ : ∃ p, sk ds (i + 1) = p := ⟨_, rfl⟩
  rw [hn] at hl hb hlen hple
  rw [hT] at hb hT1 hlt
  rw [hp2] at hs2 hcl
  have hcast : ((i + 1 : Nat) : Int) = (i : Int) + 1 := by omega
  rw [hcast] at hs2
  simp only [Ln.cells] at hcl
  have HL := Lib.hid hl
  have HB := Lib.hid hb
  have HS := Lib.hid hs
  have HS2 := Lib.hid hs2
  have HCL := Lib.hid hcl
  clear hl hb hs hs2 hcl hRR hR hp hpp hc0 hc1 hn hT hp2 hi hlt2 hcast
  have hpi : (0 : Int) <= (p : Int) := by omega
  go_enter Tryz.func81, Tryz.ntmps81
  go_wp2_with fail
  refine (HS.out _ hW).mono ?_
  rintro e w1 ⟨rfl, hb1⟩
  have hW1 := bseq hW hb1
  go_wp2_with fail
  refine (HL.out _ hW1).mono ?_
  rintro e w2 ⟨rfl, hb2⟩
  have hW2 := bseq hW1 hb2
  go_wp2_with fail
  refine (HB.out _ hW2).mono ?_
  rintro e w3 ⟨rfl, hb3⟩
  have hW3 := bseq hW2 hb3
  go_wp2_with fail
  refine (HS2.out _ hW3).mono ?_
  rintro e w4 ⟨rfl, hb4⟩
  have hW4 := bseq hW3 hb4
  go_wp2_with fail
  refine (HCL.out _ hW4).mono ?_
  rintro e w5 ⟨rfl, hb5⟩
  have hW5 := bseq hW4 hb5
  obtain ⟨⟨z0, z1, z2, z3⟩, u0, u1, u2, u3⟩ := line_facts (b4.below (bseq (bseq (bseq (bseq hb1 hb2) hb3) hb4) hb5))
  go_wp2_with fail
  refine bodyPost_ret (v := .tuple #[.agg R.cells, .int .i64 0]) (by simp [results, Tryz.results81, go_sem, Ln.cells, z0, z1, z2, z3]) rfl ⟨rfl, ?_⟩
  exact below_set4 hW5 (Nat.le_refl _)
 ·have hRR : R = ⟨p, ds.length, ds.length, 0⟩ := by rw [<- hR]; unfold lineF; rw [if_neg hlt, hpp]
  obtain ⟨n, hn⟩ : ∃ n, ds.length = n := ⟨_, rfl⟩
  obtain ⟨T, hT⟩ : ∃ T, totE ds = T := ⟨_, rfl⟩
  rw [hn] at hl hb hlen hple hRR
  rw [hT] at hb hT1 hlt
  have HL := Lib.hid hl
  have HB := Lib.hid hb
  have HS := Lib.hid hs
  have HRR := Lib.hid hRR
  clear hl hb hs hRR hR hp hpp hc0 hn hT hi
  have hpi : (0 : Int) <= (p : Int) := by omega
  go_enter Tryz.func81, Tryz.ntmps81
  go_wp2_with fail
  refine (HS.out _ hW).mono ?_
  rintro e w1 ⟨rfl, hb1⟩
  have hW1 := bseq hW hb1
  go_wp2_with fail
  refine (HL.out _ hW1).mono ?_
  rintro e w2 ⟨rfl, hb2⟩
  have hW2 := bseq hW1 hb2
  go_wp2_with fail
  refine (HB.out _ hW2).mono ?_
  rintro e w3 ⟨rfl, hb3⟩
  have hW3 := bseq hW2 hb3
  go_wp2_with fail
  refine (HL.out _ hW3).mono ?_
  rintro e w4 ⟨rfl, hb4⟩
  have hW4 := bseq hW3 hb4
  go_wp2_with fail
  refine (HL.out _ hW4).mono ?_
  rintro e w5 ⟨rfl, hb5⟩
  have hW5 := bseq hW4 hb5
  obtain ⟨⟨z0, z1, z2, z3⟩, u0, u1, u2, u3⟩ := line_facts (b4.below (bseq (bseq (bseq (bseq hb1 hb2) hb3) hb4) hb5))
  go_wp2_with fail
  refine bodyPost_ret (v := .tuple #[.agg (Ln.mk p n n 0).cells, .int .i64 0]) (by simp [results, Tryz.results81, go_sem, Ln.cells, z0, z1, z2, z3]) rfl ⟨by rw [HRR.out], ?_⟩
  exact below_set4 hW5 (Nat.le_refl _)
theorem byte_info : (Tryz.prog.info? 5).map (fun i => (i.zero, i.size, i.bytes)) = some (some (.int .u8 0), 1, 1) := by kernel_rfl
def partZ : Value := .agg #[.slice none 0 0, .int .i64 0, .int .i64 0, .int .i64 0, .int .i64 0, .bool false, .bool false]
theorem part_info : (Tryz.prog.info? 142).map (fun i => (i.zero, i.size, i.bytes)) = some (some partZ, 7, 64) := by kernel_rfl
theorem part_row : ∃ i z, Tryz.prog.info? 142 = some i /\ i.zero = some z /\ i.size = 7 /\ i.bytes = 64 /\ z.cells.size = 7 := by
 obtain ⟨i, h1, h2, h3, h4⟩ := info_parts part_info
 exact ⟨i, partZ, h1, h2, h3, h4, rfl⟩
theorem ownsRow_below {w w' : World} {B e size n : Nat} {v : Value} {xs : List Value} (h : w.ownsRow B e size v n xs) (hb : Below w.heap.size w w') : w'.ownsRow B e size v n xs := by
 refine ⟨h.1, ?_⟩
 rcases h.2 with hn | ⟨g, cap, cur, rfl, hg, hgg, rest⟩
 ·exact .inl hn
 ·exact .inr ⟨g, cap, cur, rfl, hg, by rw [hb.block g (Array.getElem?_eq_some_iff.1 hgg).1]; exact hgg, rest⟩
theorem part_one (A : Option Addr) (n c : Nat) (t a b d : Int) (x y : Bool) : ∀ u ∈ [Value.slice A n c, .int .i64 t, .int .i64 a, .int .i64 b, .int .i64 d, .bool x, .bool y], u.oneCell' = true := by
 intro u hu
 simp at hu
 rcases hu with rfl | rfl | rfl | rfl | rfl | rfl | rfl <;> rfl
theorem below_grown2 {B : Nat} {w w1 w2 : World} {row : Option Nat} (hb : Below B w w1) (hg : w1.grownBy w2 row) (hr : ∀ k, row = some k -> B <= k) (hB : B <= w.heap.size := by omega) : Below B w w2 :=
 ⟨hg.os.trans hb.os, hg.tape.trans hb.tape, hg.output.trans hb.output, Nat.le_trans hb.size hg.size, fun k hk => (hg.block k (Nat.lt_of_lt_of_le hk (Nat.le_trans hB hb.size)) (fun e => by have := hr k e.symm; omega)).trans (hb.block k hk)⟩
theorem own_slice {w : World} {B e size n : Nat} {v : Value} {xs : List Value} (h : w.ownsRow B e size v n xs) : ∃ A c, v = .slice A n c /\ n <= c := by
 rcases h.2 with ⟨rfl, h0⟩ | ⟨g, cap, cur, rfl, _, _, hc, _⟩
 ·exact ⟨none, 0, by rw [h0], by omega⟩
 ·exact ⟨_, cap, rfl, hc⟩
theorem own_full {w : World} {g n : Nat} {e : TypeId} {xs : List Value} (h : w.ownsRow g e 1 (.slice (some ⟨g, 0, none⟩) n n) n xs) : Blk w g e xs.toArray := by
 rcases h.2 with ⟨e0, _⟩ | ⟨g', cap, cur, e1, _, e3, _, _, e5, e6⟩
 ·cases e0
 ·injection e1 with e1 e1' e1''
  injection e1 with e1
  injection e1 with e1
  subst e1
  have hl := h.1
  unfold Blk
  rw [e3, <- e6, List.take_of_length_le (by simp [e5]; omega)]
theorem below_grown {w w' : World} (h : w.grownBy w' none) : Below w.heap.size w w' := ⟨h.os, h.tape, h.output, h.size, fun k hk => h.block k hk (by simp)⟩
theorem copy_all {D : Nat -> Prop} (A : Option Addr) (n c : Nat) (l : List Int) (w w1 : World) (xs : List Value) (hle : l.length = n) (hxl : xs.length = n) (hB1 : Blk w1 w.heap.size 5 xs.toArray) (hW1 : Below w.heap.size w w1) (hl1 : Reads w1 D 1 A n (l.map (Value.int .u8))) :
  ∃ w2, (Builtin.copy_ #[22, 22] 3 #[.slice (some ⟨w.heap.size, 0, none⟩) n n, .slice A n c]).run Tryz.prog w1 = .ok (.int .i64 (n : Int)) w2 /\ Blk w2 w.heap.size 5 (l.map (Value.int .u8)).toArray /\ Below w.heap.size w w2 := by
 have hsz : (Tryz.prog.info? 5).map (·.size) = some 1 := by kernel_rfl
 by_cases h0 : n = 0
 ·subst h0
  have e1 : l = [] := List.eq_nil_of_length_eq_zero hle
  have e2 : xs = [] := List.eq_nil_of_length_eq_zero hxl
  subst e1
  subst e2
  exact ⟨w1, run_copy_none (P := Tryz.prog) w1 22 22 3 5 _ _ 0 0 0 c Tryz.underlying22 hsz rfl, hB1, hW1⟩
 ·obtain ⟨ad, rfl, _, hc⟩ := hl1.2 (by omega)
  have hd : xs.drop n = [] := List.drop_eq_nil_of_le (by omega)
  have hrun := run_copy_row (P := Tryz.prog) w1 22 22 3 5 w.heap.size 0 n n ad n c xs.toArray 5 (l.map (Value.int .u8)) Tryz.underlying22 hsz hB1 (by simp [hle]) hc (by simp [hle, hxl]) (by
   intro v hv
   obtain ⟨x, _, rfl⟩ := List.mem_map.1 hv
   rfl)
  rw [show (l.map (Value.int .u8)).length = n by simp [hle]] at hrun
  refine ⟨_, hrun, ?_, below_setRow hW1 (Nat.le_refl _) _⟩
  have := setRow_heap w1 w.heap.size xs.toArray (xs.toArray.toList.take 0 ++ (l.map (Value.int .u8) ++ xs.toArray.toList.drop (0 + n))).toArray 5 _ hB1
  simp only [List.take_zero, List.nil_append, Nat.zero_add] at this
  rw [hd, List.append_nil] at this
  simp only [List.take_zero, List.nil_append, Nat.zero_add]
  rw [hd, List.append_nil]
  exact this
theorem bts_blk {w : World} {g n : Nat} {T : TypeId} {l : List Int} (hb : Blk w g T (l.map (Value.int .u8)).toArray) (hn : l.length = n) : Bts w (· = g) (some ⟨g, 0, none⟩) n l := by
 have := PcIn.bts (p := ⟨some ⟨g, 0, none⟩, n, n, 0, zeroS, l⟩) (w := w) (T := T) (g := g) (l := l) ⟨0, rfl, by rw [List.drop_zero, List.take_of_length_le (by show l.length <= n; omega)], by show 0 + n <= _; omega⟩ hb
 exact this
def textC (enc lim : Int) (a : Option Addr) : Array Value := #[.int .i64 enc, .int .i64 lim, .pointer a, .slice none 0 0]
def OpenR (enc lim : Int) (l : List Int) (w w2 : World) (n k : Nat) (q10 q11 : Value) (wr : World) : Prop :=
 ∃ (p : Nat) (ps : List Pc) (v : Value), q10 = v /\ q11 = .int .i64 (p : Int) /\ OpenOk enc l w.heap.size p ps /\ wr.ownsRow (w2.heap.size + 1) 142 7 v ps.length (ps.flatMap fun p => p.cells.toList) /\
  Blk wr w.heap.size 5 (l.map (Value.int .u8)).toArray /\ Blk wr w2.heap.size 139 (textC enc lim none) /\ Below w.heap.size w wr /\ n - p <= k /\ w2.heap.size + 1 <= wr.heap.size
def OpenI (enc : Int) (l : List Int) (p n : Nat) (w0 : World) (k : Nat) (q12 q13 : Value) (wr : World) : Prop :=
 ∃ m j : Nat, q12 = .int .i64 ((p + m : Nat) : Int) /\ q13 = .int .i64 (j : Int) /\ Hid ((m : Int) = szs enc (l.drop p) j) /\ p + m <= n /\ j <= 128 /\ Hid (0 < j -> 0 < m) /\ Below w0.heap.size w0 wr /\ n - (p + m) <= k
def OpenPost (enc lim : Int) (l : List Int) (w : World) (e : Ending) (w' : World) : Prop :=
 ∃ g, e = .returned (.tuple #[.pointer (some ⟨g, 0, none⟩), .int .i64 0]) /\ TextL w' (fun b => w.heap.size <= b) g enc lim (dec enc l) (tagF 0 0 (dec enc l)) /\ w.heap.size <= g /\ Below w.heap.size w w'
theorem open_any (enc lim : Int) (D : Nat -> Prop) (A : Option Addr) (n c : Nat) (l : List Int) (w : World) (he : enc = 1 \/ enc = 2 \/ enc = 3 \/ enc = 4) (hl : Bts w D A n l) (hb : Byt l) (hlim : (n : Int) <= lim /\ lim <= 65536) (hcap : n <= c) :
  Calls Tryz.prog 115 #[.int .i64 enc, .slice A n c, .int .i64 lim] w fun e w' => OpenPost enc lim l w e w' := by
 have hle := hl.len
 have hn : n <= 65536 := by omega
 have q2 : (lim < 0) = False := by simp; omega
 have q3 : (65536 < lim) = False := by simp; omega
 have q4 : (lim < (n : Int)) = False := by simp; omega
 have q0 : (enc < 1) = False := by simp; omega
 have q1 : (4 < enc) = False := by simp; omega
 obtain ⟨ib, hib, hb0, hb1, hb2⟩ := info_parts byte_info
 have HE := Lib.hid he
 clear he
 go_enter Tryz.func115, Tryz.ntmps115
 go_wp2_with (at_make; refine wpList_make_full _ rfl _ _ 22 rfl w.heap.size 5 ib (.int .u8 0) 1 Tryz.underlying22 hib hb0 hb1 _ _ _ _ n rfl rfl rfl rfl (by rw [hb2]; omega) (by unfold maxLen; omega) (Nat.le_refl _) ?_)
 intro w1 ho1 hg1
 obtain ⟨xs, hxs⟩ : ∃ xs, (madeCells #[Value.int .u8 0] n).toList = xs := ⟨_, rfl⟩
 rw [hxs] at ho1
 have hxl : xs.length = n := by have := ho1.1; omega
 have hB1 : Blk w1 w.heap.size 5 xs.toArray := own_full ho1
 have hW1 : Below w.heap.size w w1 := below_grown hg1
 have hl1 := Reads.below hl hW1
 clear hxs ho1 hg1 hib hb0 hb1 hb2 ib
 obtain ⟨w2, hr, hB2, hW2⟩ := copy_all A n c l w w1 xs hle hxl hB1 hW1 hl1
 clear hB1 hW1 hxl xs
 go_wp2_with fail
 clear hr hl1 w1
 go_loopg [10, 11] n (fun k q10 q11 wr => OpenR enc lim l w w2 n k q10 q11 wr)
 case atStart =>
  refine ⟨0, [], .slice none 0 0, rfl, rfl, OpenOk.start enc l _, World.ownsRow_nil _ _ _ _, hB2.alloc _, Blk.new w2 _ _, hW2.alloc hW2.size _, by omega, by simp⟩
 case round =>
  obtain ⟨w1, hw1⟩ : ∃ x, x = wr := ⟨_, rfl⟩
  subst hw1
  obtain ⟨k1, hk1⟩ : ∃ x, x = gk := ⟨_, rfl⟩
  subst hk1
  obtain ⟨p, ps, v, rfl, rfl, hok, ho, hB, hT, hW, hk, hsz⟩ := hrel
  have HO := Lib.hid ho
  clear ho
  by_cases hlt : p < n
  ·go_wp2_with fail
   go_loopg [12, 13] (n - p) (fun k a b w' => OpenI enc l p n w1 k a b w')
   case atStart => exact ⟨0, 0, rfl, rfl, Lib.hid rfl, by omega, by omega, Lib.hid (fun h => absurd h (by omega)), Below.refl _ _, by omega⟩
   case round =>
    obtain ⟨wi, hwi⟩ : ∃ x, x = wr := ⟨_, rfl⟩
    subst hwi
    have hrel2 := hrel
    clear hrel
    obtain ⟨m, j, rfl, rfl, hm, hle2, hj, hjm, hbi, hki⟩ := hrel2
    have hBi := hB.below hbi
    have hbt := bts_blk hBi hle
    by_cases hgo : p + m < n /\ j < 128
    ·obtain ⟨hg1, hg2⟩ := hgo
     have hz := sizeAt_bd enc (l.drop (p + m)) (by rw [List.length_drop]; omega)
     have hst := szs_step enc j (l.drop p) (by rw [<- hm.out, List.length_drop]; omega)
     rw [<- hm.out, Int.toNat_natCast, List.drop_drop] at hst
     obtain ⟨a, ha⟩ : ∃ a, atomAt enc (l.drop (p + m)) = a := ⟨_, rfl⟩
     obtain ⟨z, hzz⟩ : ∃ z : Nat, sizeAt enc (l.drop (p + m)) = (z : Int) := ⟨(sizeAt enc (l.drop (p + m))).toNat, by omega⟩
     have hcn := cnext_any enc (· = w.heap.size) (some ⟨w.heap.size, 0, none⟩) n n (p + m) l wi HE.out hbt hb (by omega) (Nat.le_refl _) hg1
     rw [ha, hzz] at hcn
     rw [hzz, List.length_drop] at hz
     rw [hzz] at hst
     have HC := Lib.hid hcn
     have HS := Lib.hid hst
     clear hcn ha hzz hst
     go_wp2_with fail
     refine (HC.out).mono ?_
     rintro e w3 ⟨rfl, hb3⟩
     go_wp2_with fail
     go_roundg (n - (p + (m + z)))
     case measure => omega
     case rel =>
      refine ⟨m + z, j + 1, by go_num, by go_num, Lib.hid ?_, by omega, by omega, Lib.hid (fun _ => by omega), bseq hbi hb3, by omega⟩
      rw [HS.out]
      omega
    ·have h0 : 0 < m := by
      rcases Nat.eq_zero_or_pos m with h | h
      ·subst h
       have := hjm.out
       omega
      ·exact h
     have hx' : ((p : Int) + (m : Int) < (n : Int)) = False \/ (((p : Int) + (m : Int) < (n : Int)) = True /\ ((j : Int) < 128) = False) := by simp; omega
     have hpc : PcIn w.heap.size l (pcOf enc l w.heap.size p m) := ⟨p, rfl, rfl, Nat.le_trans hle2 (Nat.le_of_eq hle.symm)⟩
     have hpsl := hok.len
     have hpsn := hok.le
     obtain ⟨ip, zp, hip, hp0, hp1, hp2, hp3⟩ := part_row
     have hnp := newPart_any enc (· = w.heap.size) (some ⟨w.heap.size, p, none⟩) m m (p : Int) ((l.drop p).take m) wi HE.out (hpc.bts hBi) ((hb.drop _).take _) (by omega) (Nat.le_refl _)
     obtain ⟨S, hS⟩ : ∃ S, sumsOf (dec enc ((l.drop p).take m)) = S := ⟨_, rfl⟩
     rw [hS] at hnp
     have HSS := Lib.hid hS
     have HNP := Lib.hid hnp
     clear hS hnp
     rcases hx' with hx | ⟨hx0, hx⟩
     all_goals
      go_wp2_with fail
      refine (HNP.out).mono ?_
      rintro e w3 ⟨rfl, hb3⟩
      unfold partC
      have hs3 : w2.heap.size + 1 <= w3.heap.size := by have := hbi.size; have := hb3.size; omega
      have hwb : Below w.heap.size w w3 := bseq (bseq hW hbi) hb3
      have ho3 := ownsRow_below HO.out (bseq hbi hb3)
      have HO3 := Lib.hid ho3
      clear ho3
      go_wp2_with (at_builtin; go_loud (refine wpList_append_own _ rfl (.tmp 70) (.tmp 79) 225 rfl (w2.heap.size + 1) 142 ip zp 7 64 Tryz.underlying225 hip hp0 hp1 hp2 hp3 (by decide) u10 ps.length _ rfl (HO3.out.alloc _) ⟨w3.heap.size, 0, none⟩ 1 1 [.slice (some ⟨w.heap.size, p, none⟩) m m, .int .i64 (p : Int), .int .i64 S.atoms, .int .i64 S.bytes, .int .i64 S.breaks, .bool S.lf, .bool S.cr] rfl rfl (cells_new _ _ _) (part_one _ _ _ _ _ _ _ _ _) (by unfold maxLen; omega) (by omega) (by simp; omega) ?_))
      intro v1 w4 hown4 hgr _
      have hA := HO3.out.alloc (.cells #[.slice (some ⟨w.heap.size, p, none⟩) m m, .int .i64 (p : Int), .int .i64 S.atoms, .int .i64 S.bytes, .int .i64 S.breaks, .bool S.lf, .bool S.cr] 142)
      have hB4 : Blk w4 w.heap.size 5 (l.map (Value.int .u8)).toArray := ((hBi.below hb3).alloc _).grown hgr (fun e => own_blk_ne hA ((hBi.below hb3).alloc _) (by decide) e.symm)
      have hT4 : Blk w4 w2.heap.size 139 (textC enc lim none) := (((hT.below hbi).below hb3).alloc _).grown hgr (fun e => own_blk_ne hA (((hT.below hbi).below hb3).alloc _) (by decide) e.symm)
      have hW4 : Below w.heap.size w w4 := below_grown2 (hwb.alloc hwb.size _) hgr (fun k hk => by have := own_ge hA hk; have := hW2.size; omega)
      have hz4 : w2.heap.size + 1 <= w4.heap.size := by have := hgr.size; simp at this; omega
      have H4 := Lib.hid hown4
      clear hown4 hgr hA
      go_wp2_with fail
      go_roundg (n - (p + m))
      case measure => omega
      case rel =>
       have hstp := hok.step hb hm.out h0 (by omega) (by omega)
       refine ⟨p + m, _, v1, rfl, by go_num, hstp, ?_, hB4, hT4, hW4, Nat.le_refl _, hz4⟩
       have := H4.out
       rw [List.length_append, List.flatMap_append]
       simp only [pcOf, HSS.out]
       exact this
  ·have hpn : p = l.length := by have := hok.le; omega
   subst hpn
   obtain ⟨A', c', rfl, hc'⟩ := own_slice HO.out
   have hto := treeOf_any (fun b => w2.heap.size + 1 <= b) A' ps.length c' ps w1 (Reads.of_own HO.out) hok.good (by rw [hok.tot]; omega) (by have := hok.len; omega) hc'
   have HTO := Lib.hid hto
   clear hto HO
   go_wp2_with fail
   refine (HTO.out).mono ?_
   rintro e w3 ⟨a, rfl, hn3, hb3⟩
   have hT3 := hT.below hb3
   have c2 := hT3.cell 2
   have f2 := hT3.frozen 2
   simp [textC] at c2
   go_wp2_with fail
   go_ret2
   refine ⟨w2.heap.size, rfl, ?_, hW2.size, ?_⟩
   ·exact hok.text (by omega) HE.out ((hB.below hb3).far (by have := hB2.lt; simp; omega) _) (Nat.le_refl _) ((hT3.set_ 2 _).eq_ rfl) (NodeAt.keepBut (KeepBut.of_fr ((Fr.refl _ _).set1 2 _) hT3) (by decide) _ _ hn3)
   ·exact (bseq hW hb3).setCell hW2.size _
def cont (ds : List (Int × Int)) (i : Nat) : List Int := seg (lineF ds i).from_ (lineF ds i).to_ (ds.map Prod.fst)
def rowV (L : Ln) (i : Int) (A1 : Option Addr) (n1 c1 : Nat) (A2 : Option Addr) (n2 c2 : Nat) : Array Value := #[.int .i64 L.from_, .int .i64 L.to_, .int .i64 L.next, .int .i64 L.brk, .int .i64 i, .slice A1 n1 c1, .slice A2 n2 c2]
def RowC (w : World) (D : Nat -> Prop) (L : Ln) (i : Int) (C : List Int) (v : Array Value) : Prop :=
 ∃ A1 n1 c1 A2 n2 c2, v = rowV L i A1 n1 c1 A2 n2 c2 /\ Ints w D A1 n1 C /\ n1 <= c1 /\ Ints w D A2 n2 (allB C) /\ n2 <= c2
theorem RowC.below {w w' : World} {D : Nat -> Prop} {L : Ln} {i : Int} {C : List Int} {v : Array Value} (h : RowC w D L i C v) (hb : Below w.heap.size w w') : RowC w' D L i C v := by
 obtain ⟨A1, n1, c1, A2, n2, c2, e, h1, h2, h3, h4⟩ := h
 exact ⟨A1, n1, c1, A2, n2, c2, e, Reads.below h1 hb, h2, Reads.below h3 hb, h4⟩
def RowPost (L : Ln) (i : Int) (C : List Int) (w : World) (e : Ending) (w' : World) : Prop := ∃ v, e = .returned (.agg v) /\ RowC w' (fun b => w.heap.size <= b) L i C v /\ Below w.heap.size w w'
theorem lineF_bd {ds : List (Int × Int)} (hp : PosD ds) {i : Nat} (hi : i <= totE ds) : 0 <= (lineF ds i).from_ /\ (lineF ds i).from_ <= (lineF ds i).to_ /\ (lineF ds i).to_ <= (lineF ds i).next /\ (lineF ds i).next <= ds.length := by
 have h0 := sk_cnt hp hi
 unfold lineF
 split
 ·rename_i hlt
  have h1 := sk_lt hp hlt
  have h2 := sk_cnt hp (k := i + 1) hlt
  unfold closedF
  split
  ·dsimp only; omega
  ·split
   ·dsimp only; omega
   ·dsimp only; omega
 ·dsimp only; omega
theorem cont_len {ds : List (Int × Int)} (hp : PosD ds) {i : Nat} (hi : i <= totE ds) : ((cont ds i).length : Int) = (lineF ds i).to_ - (lineF ds i).from_ := by
 have h := lineF_bd hp hi
 unfold cont seg
 simp
 omega
theorem line_keep {w w1 : World} {b : Nat} {u0 u1 u2 u3 : Value} (hb : Below w.heap.size w w1) (h : w.cell? ⟨b, 0, none⟩ = some u0 /\ w.cell? ⟨b, 1, none⟩ = some u1 /\ w.cell? ⟨b, 2, none⟩ = some u2 /\ w.cell? ⟨b, 3, none⟩ = some u3) :
  w1.cell? ⟨b, 0, none⟩ = some u0 /\ w1.cell? ⟨b, 1, none⟩ = some u1 /\ w1.cell? ⟨b, 2, none⟩ = some u2 /\ w1.cell? ⟨b, 3, none⟩ = some u3 :=
 ⟨cell_keep hb h.1, cell_keep hb h.2.1, cell_keep hb h.2.2.1, cell_keep hb h.2.2.2⟩
theorem line_alloc {w : World} {b : Nat} {u0 u1 u2 u3 : Value} (o : Obj) (h : w.cell? ⟨b, 0, none⟩ = some u0 /\ w.cell? ⟨b, 1, none⟩ = some u1 /\ w.cell? ⟨b, 2, none⟩ = some u2 /\ w.cell? ⟨b, 3, none⟩ = some u3) :
  (w.alloc o).cell? ⟨b, 0, none⟩ = some u0 /\ (w.alloc o).cell? ⟨b, 1, none⟩ = some u1 /\ (w.alloc o).cell? ⟨b, 2, none⟩ = some u2 /\ (w.alloc o).cell? ⟨b, 3, none⟩ = some u3 := line_keep (balloc (Below.refl _ _)) h
theorem line_set {w : World} {p : Addr} {u : Value} {b : Nat} {u0 u1 u2 u3 : Value} (hp : b ≠ p.block) (h : w.cell? ⟨b, 0, none⟩ = some u0 /\ w.cell? ⟨b, 1, none⟩ = some u1 /\ w.cell? ⟨b, 2, none⟩ = some u2 /\ w.cell? ⟨b, 3, none⟩ = some u3) :
  (w.setCell p u).cell? ⟨b, 0, none⟩ = some u0 /\ (w.setCell p u).cell? ⟨b, 1, none⟩ = some u1 /\ (w.setCell p u).cell? ⟨b, 2, none⟩ = some u2 /\ (w.setCell p u).cell? ⟨b, 3, none⟩ = some u3 := by
 have hh := Below.heap_setCell w p u b hp
 exact ⟨(World.cell?_of_block (w := w) hh).trans h.1, (World.cell?_of_block (w := w) hh).trans h.2.1, (World.cell?_of_block (w := w) hh).trans h.2.2.1, (World.cell?_of_block (w := w) hh).trans h.2.2.2⟩
theorem line_allocd {w : World} {b : Nat} {u0 u1 u2 u3 : Value} (o : Obj) (h : w.drew.cell? ⟨b, 0, none⟩ = some u0 /\ w.drew.cell? ⟨b, 1, none⟩ = some u1 /\ w.drew.cell? ⟨b, 2, none⟩ = some u2 /\ w.drew.cell? ⟨b, 3, none⟩ = some u3) :
  (w.alloc o).drew.cell? ⟨b, 0, none⟩ = some u0 /\ (w.alloc o).drew.cell? ⟨b, 1, none⟩ = some u1 /\ (w.alloc o).drew.cell? ⟨b, 2, none⟩ = some u2 /\ (w.alloc o).drew.cell? ⟨b, 3, none⟩ = some u3 := line_keep (w := w) (w1 := (w.alloc o).drew) (Below.drew (balloc (Below.refl _ w))) h
theorem row_facts {w : World} {b : Nat} {L : Ln} {i : Int} {A1 A2 : Option Addr} {n1 c1 n2 c2 : Nat} (h : Blk w b 94 (rowV L i A1 n1 c1 A2 n2 c2)) :
  (w.cell? ⟨b, 0, none⟩ = some (.int .i64 L.from_) /\ w.cell? ⟨b, 1, none⟩ = some (.int .i64 L.to_) /\ w.cell? ⟨b, 2, none⟩ = some (.int .i64 L.next) /\ w.cell? ⟨b, 3, none⟩ = some (.int .i64 L.brk) /\ w.cell? ⟨b, 4, none⟩ = some (.int .i64 i) /\
   w.cell? ⟨b, 5, none⟩ = some (.slice A1 n1 c1) /\ w.cell? ⟨b, 6, none⟩ = some (.slice A2 n2 c2)) /\
  w.frozen? ⟨b, 0, none⟩ = false /\ w.frozen? ⟨b, 1, none⟩ = false /\ w.frozen? ⟨b, 2, none⟩ = false /\ w.frozen? ⟨b, 3, none⟩ = false /\ w.frozen? ⟨b, 4, none⟩ = false /\ w.frozen? ⟨b, 5, none⟩ = false /\ w.frozen? ⟨b, 6, none⟩ = false :=
 ⟨⟨h.cell 0, h.cell 1, h.cell 2, h.cell 3, h.cell 4, h.cell 5, h.cell 6⟩, h.frozen 0, h.frozen 1, h.frozen 2, h.frozen 3, h.frozen 4, h.frozen 5, h.frozen 6⟩
theorem row_new (w1 : World) {w3 : World} (o : Obj) (hb : Below ((w1.alloc o).alloc (.cells (rowV ⟨0, 0, 0, 0⟩ 0 none 0 0 none 0 0) 94)).drew.heap.size ((w1.alloc o).alloc (.cells (rowV ⟨0, 0, 0, 0⟩ 0 none 0 0 none 0 0) 94)).drew w3) :
  Blk w3 (w1.heap.size + 1) 94 (rowV ⟨0, 0, 0, 0⟩ 0 none 0 0 none 0 0) := by
 have h := (Blk.new (w1.alloc o) 94 (rowV ⟨0, 0, 0, 0⟩ 0 none 0 0 none 0 0)).drew
 simp only [World.size_alloc] at h
 exact h.below hb
def setR (w : World) (b : Nat) (x0 x1 x2 x3 x4 : Int) (v5 v6 : Value) : World :=
 ((((((w.setCell ⟨b, 0, none⟩ (.int .i64 x0)).setCell ⟨b, 1, none⟩ (.int .i64 x1)).setCell ⟨b, 2, none⟩ (.int .i64 x2)).setCell ⟨b, 3, none⟩ (.int .i64 x3)).setCell ⟨b, 4, none⟩ (.int .i64 x4)).setCell ⟨b, 5, none⟩ v5).setCell ⟨b, 6, none⟩ v6
theorem setR_fr (w : World) (b : Nat) (x0 x1 x2 x3 x4 : Int) (v5 v6 : Value) : Fr (· = b) w (setR w b x0 x1 x2 x3 x4 v5 v6) :=
 (((((((Fr.refl _ w).set1 0 _).set1 1 _).set1 2 _).set1 3 _).set1 4 _).set1 5 _).set1 6 _
theorem setR_own {w : World} {b : Nat} {T : TypeId} {L L' : Ln} {i i' : Int} {A1 A2 A1' A2' : Option Addr} {n1 c1 n2 c2 n1' c1' n2' c2' : Nat} (h : Blk w b T (rowV L i A1 n1 c1 A2 n2 c2)) :
  Blk (setR w b L'.from_ L'.to_ L'.next L'.brk i' (.slice A1' n1' c1') (.slice A2' n2' c2')) b T (rowV L' i' A1' n1' c1' A2' n2' c2') :=
 (((((((h.set_ 0 _).set_ 1 _).set_ 2 _).set_ 3 _).set_ 4 _).set_ 5 _).set_ 6 _).eq_ (by simp [rowV])
def NrCut (L : Ln) (i : Int) (C : List Int) (w : World) (s7 : Value) (wx : World) : Prop :=
 ∃ b A n c, s7 = .pointer (some ⟨b, 0, none⟩) /\ Blk wx b 94 (rowV L i A n c none 0 0) /\ Ints wx (fun k => w.heap.size < k /\ k ≠ b) A n C /\ n <= c /\ Below w.heap.size w wx /\ w.heap.size < b /\ Blk wx w.heap.size 94 (rowV ⟨0, 0, 0, 0⟩ 0 none 0 0 none 0 0)
theorem nr_two {w w3 : World} {b B n c : Nat} {i : Int} {L : Ln} {A : Option Addr} {C : List Int} {L0 : Ln} {i0 : Int} {A1 A2 : Option Addr} {n1 c1 n2 c2 : Nat} (hbz : Blk w3 b 94 (rowV L0 i0 A1 n1 c1 A2 n2 c2)) (ho : w3.ownsRow B 3 1 (.slice A n c) n (C.map (Value.int .i64))) (hc : n <= c) (hw : Below w.heap.size w w3) (hwb : w.heap.size < b) (hr : Blk w3 w.heap.size 94 (rowV ⟨0, 0, 0, 0⟩ 0 none 0 0 none 0 0))
  (hfr : Fr (· = b) w3 (setR w3 b L.from_ L.to_ L.next L.brk i (.slice A n c) (.slice none 0 0))) (hB : ∀ k, B <= k -> b < k) : NrCut L i C w (.pointer (some ⟨b, 0, none⟩)) (setR w3 b L.from_ L.to_ L.next L.brk i (.slice A n c) (.slice none 0 0)) := by
 refine ⟨b, A, n, c, rfl, setR_own hbz, ?_, hc, bfr hw hfr (fun k hk => by rw [hk]; exact Nat.le_of_lt hwb), hwb, hr.fr hfr (Nat.ne_of_lt hwb)⟩
 refine Reads.more (D := fun k => b < k) ?_ (fun k hk _ => ⟨Nat.lt_trans hwb hk, Nat.ne_of_gt hk⟩) (by decide)
 exact Reads.fr (Reads.more (Reads.of_own ho) (fun k hk _ => hB k hk) (by decide)) hfr (fun k hk _ e => by rw [e] at hk; exact Nat.lt_irrefl _ hk)
theorem row_fin {w w4 : World} {b B n c c2 : Nat} {i : Int} {L : Ln} {A A2 : Option Addr} {C : List Int} (hwb : w.heap.size < b) (hi : Ints w4 (fun k => w.heap.size < k /\ k ≠ b) A n C) (hnc : n <= c)
  (ho : w4.ownsRow B 3 1 (.slice A2 (allB C).length c2) (allB C).length ((allB C).map (Value.int .i64))) (hB : b < B) (hc2 : (allB C).length <= c2) (hw : Below w.heap.size w w4) :
  RowPost L i C w (.returned (.agg (rowV L i A n c A2 (allB C).length c2))) (setR (w4.setCell ⟨b, 6, none⟩ (.slice A2 (allB C).length c2)) w.heap.size L.from_ L.to_ L.next L.brk i (.slice A n c) (.slice A2 (allB C).length c2)) := by
 have h1 : Fr (fun k => k = b \/ k = w.heap.size) w4 (w4.setCell ⟨b, 6, none⟩ (.slice A2 (allB C).length c2)) := (Fr.refl _ _).setCell (.inl (.inl rfl)) _
 have hfr := h1.call (setR_fr _ w.heap.size L.from_ L.to_ L.next L.brk i (.slice A n c) (.slice A2 (allB C).length c2)) (fun k _ hk => .inr hk)
 refine ⟨_, rfl, ⟨A, n, c, A2, _, c2, rfl, ?_, hnc, ?_, hc2⟩, bfr hw hfr (fun k hk => by rcases hk with rfl | rfl; exact Nat.le_of_lt hwb; exact Nat.le_refl _)⟩
 ·exact Reads.more (Reads.fr hi hfr (fun k hk _ e => by rcases e with rfl | rfl; exact hk.2 rfl; exact Nat.lt_irrefl _ hk.1)) (fun k hk _ => Nat.le_of_lt hk.1) (by decide)
 ·exact Reads.more (Reads.fr (Reads.of_own ho) hfr (fun k hk _ e => by rcases e with rfl | rfl <;> omega)) (fun k hk _ => by omega) (by decide)
theorem newRow_any (D : Nat -> Prop) (g : Nat) (enc : Int) (ds : List (Int × Int)) (i : Nat) (w : World) (h : TextAt w D g enc ds) (hi : i <= totE ds) :
    Calls Tryz.prog 111 #[.pointer (some ⟨g, 0, none⟩), .int .i64 (i : Int)] w fun e w' => RowPost (lineF ds i) i (cont ds i) w e w' := by
  have hp := h.pos
  have hlen := h.len
  have hbd := lineF_bd hp hi
  have hcl := cont_len hp hi
  have ha := fun (w' : World) (hb : Below w.heap.size w w') => at_line D g enc ds i w' (h.below hb) hi
  have hs := fun (w' : World) (hb : Below w.heap.size w w') => tatoms_any D g enc ds (lineF ds i).from_ (lineF ds i).to_ w' (h.below hb) (by omega) (by omega)
  have hc : seg (lineF ds i).from_ (lineF ds i).to_ (ds.map Prod.fst) = cont ds i := rfl
  rw [hc] at hs
  obtain ⟨C, hC⟩ : ∃ C, cont ds i = C := ⟨_, rfl⟩
  rw [hC] at hs hcl ⊢
  obtain ⟨⟨x0, x1, x2, x3⟩, hL⟩ : ∃ L, lineF ds i = L := ⟨_, rfl⟩
  rw [hL] at ha hs hbd hcl ⊢
  dsimp only at hbd hcl hs
  simp only [Ln.cells] at ha
  have HA := Lib.hid ha
  have HS := Lib.hid hs
  have HCL := Lib.hid hcl
  clear ha hs hc hC hL hi hcl
  go_enter Tryz.func111, Tryz.ntmps111
  go_wp2_with fail
  refine (HA.out _ (balloc (Below.refl _ w))).mono ?_
  rintro e w1 ⟨rfl, hb1⟩
  have hW1 := bseq (balloc (Below.refl _ w)) hb1
  have hR1 : Blk w1 w.heap.size 94 (rowV ⟨0, 0, 0, 0⟩ 0 none 0 0 none 0 0) := (Blk.new w _ _).below hb1
  have hz1 : w.heap.size + 1 <= w1.heap.size := by have := hb1.size; simp only [World.size_alloc] at this; omega
  go_upto_region 2 with fail
  have hbl := Blk.new w1 75 (Ln.mk x0 x1 x2 x3).cells
  obtain ⟨⟨z0, z1, z2, z3⟩, _⟩ := line_facts hbl
  have hW2 := balloc (o := .cells (Ln.mk x0 x1 x2 x3).cells 75) hW1
  simp only [Ln.cells] at hbl z0 z1 z2 z3 hW2
  have HBL := Lib.hid hbl
  have HW2 := Lib.hid hW2
  clear hbl hW2
  go_cut [7] (fun s7 wx => NrCut ⟨x0, x1, x2, x3⟩ i C w s7 wx)
  case first =>
    have s0 : (w1.alloc (.cells #[.int .i64 x0, .int .i64 x1, .int .i64 x2, .int .i64 x3] 75)).drew.cell? ⟨w1.heap.size, 0, none⟩ = some (.int .i64 x0) /\ (w1.alloc (.cells #[.int .i64 x0, .int .i64 x1, .int .i64 x2, .int .i64 x3] 75)).drew.cell? ⟨w1.heap.size, 1, none⟩ = some (.int .i64 x1) /\
        (w1.alloc (.cells #[.int .i64 x0, .int .i64 x1, .int .i64 x2, .int .i64 x3] 75)).drew.cell? ⟨w1.heap.size, 2, none⟩ = some (.int .i64 x2) /\ (w1.alloc (.cells #[.int .i64 x0, .int .i64 x1, .int .i64 x2, .int .i64 x3] 75)).drew.cell? ⟨w1.heap.size, 3, none⟩ = some (.int .i64 x3) := ⟨z0, z1, z2, z3⟩
    go_region_held3 (fun w' => w'.cell? ⟨w1.heap.size, 0, none⟩ = some (.int .i64 x0) /\ w'.cell? ⟨w1.heap.size, 1, none⟩ = some (.int .i64 x1) /\ w'.cell? ⟨w1.heap.size, 2, none⟩ = some (.int .i64 x2) /\ w'.cell? ⟨w1.heap.size, 3, none⟩ = some (.int .i64 x3)) (first | (with_reducible assumption) | ((with_reducible refine line_alloc _ ?_); with_reducible assumption) | ((repeat (with_reducible refine line_set (by dsimp only; omega) ?_)); (first | (with_reducible assumption) | ((with_reducible refine line_alloc _ ?_); with_reducible assumption))) | ((with_reducible refine line_allocd _ ?_); with_reducible assumption)) (first | (go_at_call 27; (with_reducible refine (HS.out _ (Below.drew HW2.out)).mono ?_); rintro e w3 ⟨v, rfl, ho, hb3⟩; obtain ⟨A, c, rfl, hc⟩ := own_slice ho; have hx3 := bdrew hb3; have hlt3 : w1.heap.size + 1 <= w3.heap.size := (by have := hx3.size; simp at this; omega); have s3 := line_keep hx3 s0; have hx4 := balloc (o := .cells (rowV ⟨0, 0, 0, 0⟩ 0 none 0 0 none 0 0) 94) hx3) | (go_at_call 27; (with_reducible refine (HS.out _ (Below.drew (balloc HW2.out))).mono ?_); rintro e w3 ⟨v, rfl, ho, hb3⟩; obtain ⟨A, c, rfl, hc⟩ := own_slice ho; have hx4 := bseq (Below.drew (balloc (Below.refl _ _))) hb3; have s3 := line_keep hx4 ⟨z0, z1, z2, z3⟩; have hbz := row_new w1 _ hb3; obtain ⟨⟨g0, g1, g2, g3, g4, g5, g6⟩, u0, u1, u2, u3, u4, u5, u6⟩ := row_facts hbz))
    · go_wp2_with fail
      go_meet
      have hw : Below w.heap.size w w3 := bseq HW2.out hx3
      exact ⟨w3.heap.size, A, C.length, c, rfl, Blk.new w3 _ _, Reads.below (Reads.more (Reads.of_own ho) (fun k hk hk2 => ⟨by simp at hk; omega, Nat.ne_of_lt hk2⟩) (by decide)) (balloc (Below.refl _ _)), hc, balloc hw, by omega, ((hR1.alloc _).below hx3).alloc _⟩
    · go_wp2_with fail
      go_meet
      have hw : Below w.heap.size w w3 := bseq HW2.out hx4
      have hz := HW2.out.size
      simp only [World.size_alloc] at hz
      have hfr : Fr (· = w1.heap.size + 1) w3 (setR w3 (w1.heap.size + 1) x0 x1 x2 x3 i (.slice A C.length c) (.slice none 0 0)) := setR_fr _ _ _ _ _ _ _ _ _
      have hfin := nr_two (w := w) (w3 := w3) (i := (i : Int)) (L := ⟨x0, x1, x2, x3⟩) hbz ho hc hw (by omega) ((hR1.alloc _).below hx4) hfr (by intro b hb; simp at hb; omega)
      unfold setR at hfin
      with_reducible exact hfin
  case rest =>
    obtain ⟨b, A, n, c, rfl, hb, hi, hnc, hw, hwb, hr⟩ := hcut
    clear hR1 hz1 hb1 hW1 HW2 HBL z0 z1 z2 z3 HA HS
    have hbr := fun (wy : World) (hy : Below wc.heap.size wc wy) => breaks_any (fun k => w.heap.size < k /\ k ≠ b) A n c C wy (Reads.below hi hy) (by have := hi.len; have := HCL.out; omega)
    have HBR := Lib.hid hbr
    clear hbr
    obtain ⟨⟨g0, g1, g2, g3, g4, g5, g6⟩, u0, u1, u2, u3, u4, u5, u6⟩ := row_facts hb
    go_wp2_with fail
    refine (HBR.out _ (Below.refl _ _)).mono ?_
    rintro e w4 ⟨v, rfl, ho4, hb4⟩
    obtain ⟨A2, c2, rfl, hc2⟩ := own_slice ho4
    have HO4 := Lib.hid ho4
    clear ho4 HBR g0 g1 g2 g3 g4 g5 g6 u0 u1 u2 u3 u4 u5 u6
    have hb5 := hb.below hb4
    have hw4 := bseq hw hb4
    obtain ⟨⟨g0, g1, g2, g3, g4, g5, g6⟩, u0, u1, u2, u3, u4, u5, u6⟩ := row_facts hb5
    have hr5 := hr.below hb4
    obtain ⟨⟨j0, j1, j2, j3, j4, j5, j6⟩, v0, v1, v2, v3, v4, v5, v6⟩ := row_facts hr5
    have hlt := hb.lt
    have hfin := row_fin (w := w) (w4 := w4) (L := ⟨x0, x1, x2, x3⟩) (i := (i : Int)) hwb (Reads.below hi hb4) hnc HO4.out hlt hc2 hw4
    unfold setR at hfin
    have HF := Lib.hid hfin
    clear hfin
    go_wp2_with fail
    refine bodyPost_ret (v := .agg (rowV ⟨x0, x1, x2, x3⟩ i A n c A2 (allB C).length c2)) (by simp [results, Tryz.results111, go_sem, rowV, j0, j1, j2, j3, j4, j5, j6]) rfl ?_
    with_reducible exact HF.out
def ReplPost (ls : List Pc) (w : World) (e : Ending) (w' : World) : Prop := ∃ t a, e = .returned (.tuple #[.agg #[.pointer a], .int .i64 0]) /\ NodeAt w' t a /\ t.list = ls /\ Below w.heap.size w w'
theorem replace_tree (t : Tr) (a : Option Addr) (f k : Nat) (D : Nat -> Prop) (A : Option Addr) (n c : Nat) (ps : List Pc) (w : World) (h : NodeAt w t a) (hk : LstOk t.list) (hp : Parts w D A n ps) (hfk : f <= k) (hks : k <= t.list.length) (hc : n <= c)
  (hL : LstOk (t.list.take f ++ ps ++ t.list.drop k)) :
  Calls Tryz.prog 177 #[.agg #[.pointer a], .int .i64 (f : Int), .int .i64 (k : Int), .slice A n c] w fun e w' => ReplPost (t.list.take f ++ ps ++ t.list.drop k) w e w' := by
 have hlen := hp.len
 have hlp := hL.left.right
 obtain ⟨W, hWe⟩ : ∃ W, (w.alloc (.cells #[.pointer a] 137)).alloc (.cells #[.pointer none] 137) = W := ⟨_, rfl⟩
 have hW : Below w.heap.size w W := by rw [<- hWe]; exact balloc (balloc (Below.refl _ _))
 have hb1 : Blk W w.heap.size 137 #[.pointer a] := by rw [<- hWe]; exact (Blk.new w _ _).alloc _
 have hb2 : Blk W (w.heap.size + 1) 137 #[.pointer none] := by
  rw [<- hWe]
  have := Blk.new (w.alloc (.cells #[.pointer a] 137)) 137 #[.pointer none]
  simpa using this
 have hn := NodeAt.below hW t a h
 have fb := fun (w' : World) (hb : Below W.heap.size W w') => (And.intro ((hb1.below hb).cell 0) (And.intro ((hb2.below hb).cell 0) ((hb2.below hb).frozen 0)))
 have ks := tsize_any t a W hn
 have k1 := fun (w' : World) (hb : Below W.heap.size W w') => tcut_any t a (f : Int) w' (NodeAt.below hb _ _ hn) hk (by omega) (by have := hk.len; omega)
 have k2 := fun (w' : World) (hb : Below W.heap.size W w') => tcut_any t a (k : Int) w' (NodeAt.below hb _ _ hn) hk (by omega) (by have := hk.len; omega)
 have k3 := fun (w' : World) (hb : Below W.heap.size W w') => build_any ps.length D A n c ps w' (by omega) (Parts.below (Parts.below hp hW) hb) hlp.good hlp.tot (by have := hlp.len; omega) hc
 simp only [Int.toNat_natCast] at k1 k2
 rw [Tr.size_list] at ks
 obtain ⟨c1, c2, c3⟩ := fb W (Below.refl _ _)
 have q1 : ((f : Int) < 0) = False := by simp
 have q2 : ((k : Int) < (f : Int)) = False := by simp; omega
 have q3 : (((t.list.length : Nat) : Int) < (k : Int)) = False := by simp; omega
 obtain ⟨N, hN⟩ : ∃ N, t.list.length = N := ⟨_, rfl⟩
 rw [hN] at ks q3
 have HWE := Lib.hid hWe
 have FB := Lib.hid fb
 have KS := Lib.hid ks
 have K1 := Lib.hid k1
 have K2 := Lib.hid k2
 have K3 := Lib.hid k3
 have HL := Lib.hid hL
 have HB2 := Lib.hid hb2
 simp at c1 c2
 clear hWe fb ks k1 k2 k3 hL hb1 hb2 hn h hp hN hlen hks hfk
 go_enter Tryz.func177, Tryz.ntmps177
 go_wp2_with fail
 rw [HWE.out]
 refine (KS.out).mono ?_
 rintro e w1 ⟨rfl, hb1⟩
 obtain ⟨c1', -, -⟩ := FB.out _ hb1
 simp at c1'
 go_wp2_with fail
 refine (K1.out _ hb1).mono ?_
 rintro e w2 ⟨t1, a1, t2, a2, rfl, h1, h2, h3, h4, hb2⟩
 have hb2' := bseq hb1 hb2
 obtain ⟨c2', -, -⟩ := FB.out _ hb2'
 simp at c2'
 have H1 := Lib.hid h1
 have H3 := Lib.hid h3
 clear c1' h1 h2 h3 h4
 go_wp2_with fail
 refine (K2.out _ hb2').mono ?_
 rintro e w3 ⟨t3, a3, t4, a4, rfl, h5, h6, h7, h8, hb3⟩
 have hb3' := bseq hb2' hb3
 have H6 := Lib.hid h6
 have H8 := Lib.hid h8
 clear c2' h5 h6 h7 h8
 go_wp2_with fail
 refine (K3.out _ hb3').mono ?_
 rintro e w4 ⟨a5, rfl, h9, hb4⟩
 have hb4' := bseq hb3' hb4
 have e5 : (btF ps.length ps).list = ps := btF_list _ _ (Nat.le_refl _)
 have hk1 := both_tree t1 (btF ps.length ps) a1 a5 w4 (NodeAt.below hb4 _ _ (NodeAt.below hb3 _ _ H1.out)) h9 (by rw [H3.out, e5]; exact HL.out.left)
 rw [H3.out, e5] at hk1
 have HK1 := Lib.hid hk1
 clear hk1 h9 e5
 go_wp2_with fail
 refine (HK1.out).mono ?_
 rintro e w5 ⟨t6, a6, rfl, h10, h11, hb5⟩
 have hb5' := bseq hb4' hb5
 have hk2 := both_tree t6 t4 a6 a4 w5 h10 (NodeAt.below hb5 _ _ (NodeAt.below hb4 _ _ H6.out)) (by rw [h11, H8.out]; exact HL.out)
 rw [h11, H8.out] at hk2
 have HK2 := Lib.hid hk2
 clear hk2 h10 h11
 go_wp2_with fail
 refine (HK2.out).mono ?_
 rintro e w6 ⟨t7, a7, rfl, h12, h13, hb6⟩
 have hb6' := bseq hb5' hb6
 obtain ⟨-, d2, d3⟩ := FB.out _ hb6'
 have hB2 := HB2.out.below hb6'
 simp at d2
 have H12 := Lib.hid h12
 have H13 := Lib.hid h13
 have HBB := Lib.hid hB2
 clear h12 h13 hB2
 go_wp2_with fail
 have d4 : (w6.setCell ⟨w.heap.size + 1, 0, none⟩ (.pointer a7)).cell? ⟨w.heap.size + 1, 0, none⟩ = some (.pointer a7) := (HBB.out.set_ 0 _).cell 0
 refine bodyPost_ret (v := .tuple #[.agg #[.pointer a7], .int .i64 0]) (by simp [results, Tryz.results177, go_sem, d4]) rfl ⟨t7, a7, rfl, ?_, H13.out, (bseq hW hb6').setCell (by simp) _⟩
 exact NodeAt.keepBut (KeepBut.of_fr ((Fr.refl _ _).set1 0 _) HBB.out) (by decide) _ _ H12.out
theorem cell_spot {w : World} {p : Addr} {v : Value} (h : w.cell? p = some v) : p = ⟨p.block, p.off, none⟩ := by
 obtain ⟨b, o, s⟩ := p
 cases s with
 | none => rfl
 | some s =>
  unfold World.cell? at h
  split at h
  ·simp at h
  ·cases h
theorem add_cell (b o j : Nat) : (⟨b, o, none⟩ : Addr).add j = ⟨b, o + j, none⟩ := by
 unfold Addr.add
 split
 ·rename_i h; rw [h]; rfl
 ·rfl
section
variable {P : Program} (w : World)
theorem run_append_kept (base : Nat) (t ty e : TypeId) (i : TypeInfo) (z : Value) (size bytes : Nat) (ht : P.underlying t = some (.slice e)) (hi : P.info? e = some i) (hz : i.zero = some z)
  (hsize : i.size = size) (hby : i.bytes = bytes) (hzs : z.cells.size = size) (hsz : 0 < size)
  (v : Value) (n : Nat) (xs : List Value) (hown : w.ownsRow base e size v n xs)
  (a : Addr) (m c : Nat) (news : List Value) (hl : news.length = m * size) (hnews : ∀ j u, news[j]? = some u -> w.cell? (a.add j) = some u) (h1 : ∀ u ∈ news, u.oneCell' = true)
  (h63 : n + m <= maxLen) (hbytes : (n + m) * bytes <= 140737488355328) (hbase : base <= w.heap.size) :
  ∃ v' w', (Builtin.append_ #[t, t] ty #[v, .slice (some a) m c]).run P w = .ok v' w' /\ w'.ownsRow base e size v' (n + m) (xs ++ news) /\ w.grownBy w' v.ownBlock /\
   (v'.ownBlock = v.ownBlock \/ v'.ownBlock = some w.heap.size) /\ (∀ b o, v.ownBlock = some b -> o < n * size -> w'.cell? ⟨b, o, none⟩ = w.cell? ⟨b, o, none⟩) /\ (∀ b, v.ownBlock = some b -> ∃ cs, Blk w' b e cs) := by
 obtain ⟨v', w', hr, h2, h3, _, h5⟩ := run_append_own_at (P := P) w base t ty e i z size bytes ht hi hz hsize hby hzs hsz v n xs hown a m c news hl hnews h1 h63 hbytes hbase
 have hshape : ∀ b, v.ownBlock = some b -> ∃ cs, Blk w' b e cs := by
  intro b hb
  subst hsize
  subst hby
  rcases hown.2 with ⟨rfl, rfl⟩ | ⟨g, cap, cur, rfl, hbg, hg, hnc, hcm, hcs, htake⟩
  ·simp [Value.ownBlock] at hb
  ·have hgb : g = b := by simpa [Value.ownBlock] using hb
   subst hgb
   by_cases hroom : n + m <= cap
   ·have hfit : n * i.size + news.length <= cur.size := by rw [hl, hcs, <- Nat.add_mul]; exact Nat.mul_le_mul_right _ hroom
    have hr2 := run_append_room (P := P) w t ty e i ht hi g n cap cur hg a m c news hl hnews h1 hroom hfit
    rw [hr2] at hr
    injection hr with hv hw
    rcases h2.2 with ⟨hv', _⟩ | ⟨g', cap', cur', hv', _, hg', _⟩
    ·rw [hv'] at hv; cases hv
    ·rw [hv'] at hv
     injection hv with hv
     injection hv with hv
     injection hv with hv
     subst hv
     exact ⟨cur', hg'⟩
   ·have holds : ∀ j u, xs[j]? = some u -> w.cell? ((⟨g, 0, none⟩ : Addr).add j) = some u := hown.cells (g := g) rfl
    have hr2 := run_append_grow (P := P) w t ty e i z ht hi hz ⟨g, 0, none⟩ n cap xs hown.1 holds a m c news hl hnews (by omega) (by simp only [maxLen] at h63; omega) (growslice_fits (by omega) hbytes)
    rw [hr2] at hr
    injection hr with _ hw
    rw [<- hw]
    exact ⟨cur, (heap_alloc_old w.drew _ (Array.getElem?_eq_some_iff.1 hg).1).trans hg⟩
 refine ⟨v', w', hr, h2, h3, h5, fun b o hb ho => ?_, hshape⟩
 subst hsize
 subst hby
 have hlen := hown.1
 have hsmall : n + m <= 9223372036854775807 := by simp only [maxLen] at h63; omega
 obtain ⟨u, hu⟩ : ∃ u, xs[o]? = some u := ⟨xs[o], List.getElem?_eq_getElem (by omega)⟩
 have hold := hown.cells hb o u hu
 rw [add_cell, Nat.zero_add] at hold
 rcases hown.2 with ⟨rfl, rfl⟩ | ⟨g, cap, cur, rfl, hbg, hg, hnc, hcm, hcs, htake⟩
 ·simp [Value.ownBlock] at hb
 ·have hgb : g = b := by simpa [Value.ownBlock] using hb
  subst hgb
  by_cases hroom : n + m <= cap
  ·have hfit : n * i.size + news.length <= cur.size := by rw [hl, hcs, <- Nat.add_mul]; exact Nat.mul_le_mul_right _ hroom
   have hr2 := run_append_room (P := P) w t ty e i ht hi g n cap cur hg a m c news hl hnews h1 hroom hfit
   rw [hr2] at hr
   injection hr with hv hw
   have hnew := h2.cells (g := g) (by rw [<- hv]; rfl) o u (by rw [List.getElem?_append_left (by omega)]; exact hu)
   rw [add_cell, Nat.zero_add] at hnew
   rw [hnew, hold]
  ·have holds : ∀ j u, xs[j]? = some u -> w.cell? ((⟨g, 0, none⟩ : Addr).add j) = some u := hown.cells (g := g) rfl
   have hr2 := run_append_grow (P := P) w t ty e i z ht hi hz ⟨g, 0, none⟩ n cap xs hown.1 holds a m c news hl hnews (by omega) (by omega) (growslice_fits (by omega) hbytes)
   rw [hr2] at hr
   injection hr with _ hw
   rw [<- hw]
   exact World.cell?_of_block (heap_alloc_old w.drew _ (Array.getElem?_eq_some_iff.1 hg).1)
end
theorem hrun_append_kept {P : Program} {T : Value -> World -> Prop} {o : Oper} {a : Act} {s x : Operand} {w : World} (t : TypeId)
  (ho : o.op = .call { callee := .builtin .append, args := #[s, x], argTypes := #[t, t] })
  (base : Nat) (e : TypeId) (i : TypeInfo) (z : Value) (size bytes : Nat) (ht : P.underlying t = some (.slice e)) (hi : P.info? e = some i) (hz : i.zero = some z)
  (hsize : i.size = size) (hby : i.bytes = bytes) (hzs : z.cells.size = size) (hsz : 0 < size)
  (v : Value) (n : Nat) (xs : List Value) (hs : a.eval s = v) (hown : w.ownsRow base e size v n xs)
  (ad : Addr) (m c : Nat) (news : List Value) (hx : a.eval x = .slice (some ad) m c) (hl : news.length = m * size) (hnews : ∀ j u, news[j]? = some u -> w.cell? (ad.add j) = some u) (h1 : ∀ u ∈ news, u.oneCell' = true)
  (h63 : n + m <= maxLen) (hbytes : (n + m) * bytes <= 140737488355328) (hbase : base <= w.heap.size)
  (h : ∀ v' w', w'.ownsRow base e size v' (n + m) (xs ++ news) -> w.grownBy w' v.ownBlock -> (v'.ownBlock = v.ownBlock \/ v'.ownBlock = some w.heap.size) -> (∀ b o, v.ownBlock = some b -> o < n * size -> w'.cell? ⟨b, o, none⟩ = w.cell? ⟨b, o, none⟩) -> (∀ b, v.ownBlock = some b -> ∃ cs, Blk w' b e cs) -> T v' w') : HRun P T ((execOp a.eval o).run P w) := by
 obtain ⟨v', w', hr, h2, h3, h4, h5, h6⟩ := run_append_kept (P := P) w base t o.type e i z size bytes ht hi hz hsize hby hzs hsz v n xs hown ad m c news hl hnews h1 h63 hbytes hbase
 exact hrun_append ho hs hx hr (h v' w' h2 h3 h4 h5 h6)
def Low (add : Value) (n : Nat) (p : Pc) : Prop := ∀ ad, p.A = some ad -> add.ownBlock = some ad.block -> ad.off + p.n <= n
structure PsIn (w : World) (add : Value) (n : Nat) (enc : Int) (ps : List Pc) : Prop where
 ok : ∀ p ∈ ps, PcOk enc p
 bts : ∀ p ∈ ps, Bts w Any p.A p.n p.bytes
 low : ∀ p ∈ ps, Low add n p
 tgs : ∀ p ∈ ps, p.tag + p.n <= 1073741824
 u8 : U8s w ps
theorem PsIn.nil (w : World) (add : Value) (n : Nat) (enc : Int) : PsIn w add n enc [] := ⟨fun _ h => (by cases h), fun _ h => (by cases h), fun _ h => (by cases h), fun _ h => (by cases h), fun _ h => (by cases h)⟩
theorem PsIn.sub {w : World} {add : Value} {n : Nat} {enc : Int} {ps qs : List Pc} (h : PsIn w add n enc ps) (hs : ∀ q ∈ qs, q ∈ ps) : PsIn w add n enc qs :=
 ⟨fun p hp => h.ok p (hs p hp), fun p hp => h.bts p (hs p hp), fun p hp => h.low p (hs p hp), fun p hp => h.tgs p (hs p hp), fun p hp => h.u8 p (hs p hp)⟩
theorem PsIn.app {w : World} {add : Value} {n : Nat} {enc : Int} {ps qs : List Pc} (h : PsIn w add n enc ps) (k : PsIn w add n enc qs) : PsIn w add n enc (ps ++ qs) :=
 ⟨fun p hp => (List.mem_append.1 hp).elim (h.ok p) (k.ok p), fun p hp => (List.mem_append.1 hp).elim (h.bts p) (k.bts p), fun p hp => (List.mem_append.1 hp).elim (h.low p) (k.low p), fun p hp => (List.mem_append.1 hp).elim (h.tgs p) (k.tgs p), fun p hp => (List.mem_append.1 hp).elim (h.u8 p) (k.u8 p)⟩
structure TreeIn (w : World) (add : Value) (n : Nat) (enc : Int) (t : Tr) (a : Option Addr) : Prop where
 node : NodeAt w t a
 tot : totB t.list <= 16777216
 pcs : PsIn w add n enc t.list
structure TStep (g : Nat) (add add' : Value) (n n' : Nat) (w w' : World) : Prop where
 fr : Fr (fun b => b = g \/ add.ownBlock = some b) w w'
 low : ∀ b o, add.ownBlock = some b -> o < n -> w'.cell? ⟨b, o, none⟩ = w.cell? ⟨b, o, none⟩
 own : ∀ b, add'.ownBlock = some b -> add.ownBlock = some b \/ w.heap.size <= b
 le : n <= n'
 u8 : ∀ b cs, Blk w b 5 cs -> ∃ cs', Blk w' b 5 cs'
section
variable {g n n' k B : Nat} {add add' add2 : Value} {w w' w'' : World} {xs : List Value} {enc : Int}
theorem TStep.below (hr : w.ownsRow B 5 1 add n xs) (h : Below w.heap.size w w') : TStep g add add n n w w' :=
 ⟨Fr.of_below h, fun b o hb _ => World.cell?_of_block (w := w) (h.block b (hr.lt b hb).2), fun _ h => .inl h, Nat.le_refl _, fun _ cs hb => ⟨cs, hb.below h⟩⟩
theorem TStep.trans (h1 : TStep g add add' n n' w w') (h2 : TStep g add' add2 n' k w' w'') (hr : w.ownsRow B 5 1 add n xs) (hne : add.ownBlock ≠ some g) : TStep g add add2 n k w w'' := by
 refine ⟨h1.fr.call h2.fr (fun i hi hs => ?_), fun b o hb ho => ?_, fun b hb => ?_, Nat.le_trans h1.le h2.le, fun b cs hb => ?_⟩
 rotate_left 3
 ·obtain ⟨cs', hc⟩ := h1.u8 b cs hb
  exact h2.u8 b cs' hc
 ·rcases hs with hs | hs
  ·exact .inl hs
  ·rcases h1.own i hs with h | h
   ·exact .inr h
   ·omega
 ·have hlt := (hr.lt b hb).2
  refine Eq.trans ?_ (h1.low b o hb ho)
  by_cases hB : add'.ownBlock = some b
  ·exact h2.low b o hB (Nat.lt_of_lt_of_le ho h1.le)
  ·refine h2.fr.cell (Nat.lt_of_lt_of_le hlt h1.fr.size) ?_ o
   rintro (h | h)
   ·subst h; exact hne hb
   ·exact hB h
 ·rcases h2.own b hb with h | h
  ·exact h1.own b h
  ·exact .inr (Nat.le_trans h1.fr.size h)
theorem TStep.set {cs : Array Value} (hr : w.ownsRow B 5 1 add n xs) (hg : Blk w g 139 cs) (hne : add.ownBlock ≠ some g) (i : Nat) (u : Value) : TStep g add add n n w (w.setCell ⟨g, i, none⟩ u) := by
 refine ⟨(Fr.refl _ _).setCell (.inl (.inl rfl)) u, fun b o hb _ => ?_, fun _ h => .inl h, Nat.le_refl _, fun b cs' hb => ⟨cs', hb.far (fun e => Blk.ne_ hb hg (by decide) e) u⟩⟩
 refine World.cell?_of_block (w := w) (Below.heap_setCell w _ u b ?_)
 rintro rfl
 exact hne hb
theorem TStep.loc {S : Nat -> Prop} (h : TStep g add add' n n' w w') (hf : Fr S w' w'') (hS : ∀ b, S b -> w.heap.size <= b) (hr : w.ownsRow B 5 1 add n xs) : TStep g add add' n n' w w'' := by
 refine ⟨h.fr.call hf (fun i hi hs => absurd (hS i hs) (by omega)), fun b o hb ho => ?_, h.own, h.le, fun b cs hb => ?_⟩
 ·have hlt := (hr.lt b hb).2
  exact (hf.cell (Nat.lt_of_lt_of_le hlt h.fr.size) (fun hs => by have := hS b hs; omega) o).trans (h.low b o hb ho)
 ·obtain ⟨cs', hc⟩ := h.u8 b cs hb
  exact ⟨cs', hc.fr hf (fun hs => by have := hS b hs; have := hb.lt; omega)⟩
theorem TStep.grow {w1 : World} {m : Nat} {zs : List Value} (hr : w.ownsRow B 5 1 add n xs) (hf : Fr (fun b => b = g) w w1) (hne : add.ownBlock ≠ some g) (hown : w'.ownsRow B 5 1 add' (n + m) zs) (hg : w1.grownBy w' add.ownBlock) (hat : add'.ownBlock = add.ownBlock \/ add'.ownBlock = some w1.heap.size)
  (hk : ∀ b o, add.ownBlock = some b -> o < n * 1 -> w'.cell? ⟨b, o, none⟩ = w1.cell? ⟨b, o, none⟩) (hsh : ∀ b, add.ownBlock = some b -> ∃ cs, Blk w' b 5 cs) (hgb : ∀ cs, ¬ Blk w g 5 cs) : TStep g add add' n (n + m) w w' := by
 refine ⟨⟨hg.os.trans hf.os, hg.tape.trans hf.tape, hg.output.trans hf.output, Nat.le_trans hf.size hg.size, fun i hi hn => ?_⟩, fun b o hb ho => ?_, fun b hb => ?_, by omega, fun b cs hb => ?_⟩
 ·exact (hg.block i (Nat.lt_of_lt_of_le hi hf.size) (fun e => hn (.inr e.symm))).trans (hf.block i hi (fun e => hn (.inl e)))
 ·rw [hk b o hb (by omega)]
  exact hf.cell (hr.lt b hb).2 (fun e => hne (e ▸ hb)) o
 ·rcases hat with h | h
  ·exact .inl (by rw [<- h]; exact hb)
  ·rw [h] at hb
   injection hb with hb
   have := hf.size
   exact .inr (by omega)
 ·by_cases hB : add.ownBlock = some b
  ·exact hsh b hB
  ·have h1 := hb.fr hf (fun e => hgb cs (e ▸ hb))
   exact ⟨cs, h1.grown hg (fun e => hB e.symm)⟩
theorem NodeAt.keepS {w w' : World} (hk : ∀ b cs, Blk w b 196 cs -> w'.heap[b]? = w.heap[b]?) : ∀ (t : Tr) (a : Option Addr), NodeAt w t a -> NodeAt w' t a := by
 intro t
 induction t with
 | nil => intro a h; exact h
 | node l x r ihl ihr =>
  rintro a ⟨b, al, ar, e, h, hl, hr⟩
  exact ⟨b, al, ar, e, (hk b _ h).trans h, ihl al hl, ihr ar hr⟩
theorem Bts.keepS {D : Nat -> Prop} {A : Option Addr} {m : Nat} {l : List Int} (h : Bts w D A m l) (hk : ∀ ad j x, A = some ad -> j < m -> w.cell? ⟨ad.block, ad.off + j, none⟩ = some (.int .u8 x) -> w'.cell? ⟨ad.block, ad.off + j, none⟩ = w.cell? ⟨ad.block, ad.off + j, none⟩) : Bts w' D A m l := by
 refine ⟨h.1, fun hn => ?_⟩
 obtain ⟨ad, e, hd, hc⟩ := h.2 hn
 refine ⟨ad, e, hd, fun j u hj => ?_⟩
 have h0 : ∃ u0, (l.map (Value.int .u8))[0]? = some u0 := ⟨_, List.getElem?_eq_getElem (by have := h.1; omega)⟩
 obtain ⟨u0, h0⟩ := h0
 have hs := cell_spot (hc 0 u0 h0)
 rw [add_zero] at hs
 have hc1 := hc j u hj
 have hjm : j < m := by have := (List.getElem?_eq_some_iff.1 hj).1; have := h.1; omega
 rw [hs, add_cell] at hc1 ⊢
 rw [List.getElem?_map] at hj
 cases hl : l[j]? with
 | none => rw [hl] at hj; cases hj
 | some x =>
  rw [hl] at hj
  injection hj with hj
  rw [<- hj] at hc1 ⊢
  rw [hk ad j x e hjm hc1]
  exact hc1
theorem PsIn.step {ps : List Pc} {cs : Array Value} (h : PsIn w add n enc ps) (hs : TStep g add add' n n' w w') (hg : Blk w g 139 cs) : PsIn w' add' n' enc ps := by
 refine ⟨h.ok, fun p hp => Bts.keepS (h.bts p hp) (fun ad j x e hj hc => ?_), fun p hp ad e hB => ?_, h.tgs, fun p hp ad e => ?_⟩
 ·by_cases hB : add.ownBlock = some ad.block
  ·exact hs.low _ _ hB (by have := h.low p hp ad e hB; omega)
  ·refine hs.fr.cell (lt_of_cell hc) ?_ _
   obtain ⟨cs', hc'⟩ := h.u8 p hp ad e
   rintro (h1 | h1)
   ·exact Blk.ne_ hc' hg (by decide) h1
   ·exact hB h1
 ·obtain ⟨cs', hc'⟩ := h.u8 p hp ad e
  have hlt := hc'.lt
  rcases hs.own _ hB with h1 | h1
  ·exact Nat.le_trans (h.low p hp ad e h1) hs.le
  ·omega
 ·obtain ⟨cs', hc'⟩ := h.u8 p hp ad e
  exact hs.u8 _ _ hc'
theorem TreeIn.step {t : Tr} {a : Option Addr} {cs : Array Value} (h : TreeIn w add n enc t a) (hs : TStep g add add' n n' w w') (hr : w.ownsRow B 5 1 add n xs) (hg : Blk w g 139 cs) : TreeIn w' add' n' enc t a := by
 refine ⟨NodeAt.keepS (fun b cs' hb => hs.fr.block b hb.lt ?_) t a h.node, h.tot, h.pcs.step hs hg⟩
 rintro (h1 | h1)
 ·exact Blk.ne_ hb hg (by decide) h1
 ·exact own_blk_ne hr hb (by decide) h1
def Far (w : World) (k : Nat) : Prop := (∃ T cs, Blk w k T cs /\ T ≠ 139 /\ T ≠ 196 /\ T ≠ 5) \/ (∃ o, w.heap[k]? = some o /\ ∀ cs T f, o ≠ .cells cs T f)
theorem Far.blk {T : TypeId} {cs : Array Value} {k : Nat} (h : Blk w k T cs) (h1 : T ≠ 139 /\ T ≠ 196 /\ T ≠ 5) : Far w k := .inl ⟨T, cs, h, h1⟩
theorem Far.own {T : TypeId} {k base size m : Nat} {v : Value} {ys : List Value} (h : w.ownsRow base T size v m ys) (hk : v.ownBlock = some k) (h1 : T ≠ 139 /\ T ≠ 196 /\ T ≠ 5) : Far w k := by
 rcases h.2 with ⟨rfl, _⟩ | ⟨g, cap, cur, rfl, _, hg, _⟩
 ·cases hk
 ·have : g = k := by simpa [Value.ownBlock] using hk
  subst this
  exact .inl ⟨T, cur, hg, h1⟩
theorem Far.ne {k b : Nat} {cs : Array Value} (h : Far w k) {T : TypeId} (hT : T = 139 \/ T = 196 \/ T = 5) (hb : Blk w b T cs) : b ≠ k := by
 rintro rfl
 rcases h with ⟨T', cs', h1, h2, h3, h4⟩ | ⟨o, h1, h2⟩
 ·unfold Blk at h1 hb
  rw [h1] at hb
  injection hb with hb
  injection hb with _ hb
  rcases hT with rfl | rfl | rfl
  ·exact h2 hb
  ·exact h3 hb
  ·exact h4 hb
 ·unfold Blk at hb
  rw [h1] at hb
  injection hb with hb
  exact h2 _ _ _ hb
theorem PsIn.far {S : Nat -> Prop} {ps : List Pc} (h : PsIn w add n enc ps) (hf : Fr S w w') (hS : ∀ k, k < w.heap.size -> S k -> Far w k) : PsIn w' add n enc ps := by
 have key : ∀ p ∈ ps, ∀ ad, p.A = some ad -> ad.block < w.heap.size /\ ¬ S ad.block := fun p hp ad e => by
  obtain ⟨cs, hc⟩ := h.u8 p hp ad e
  exact ⟨hc.lt, fun hs => (hS _ hc.lt hs).ne (.inr (.inr rfl)) hc rfl⟩
 refine ⟨h.ok, fun p hp => Bts.keepS (h.bts p hp) (fun ad j x e hj hc => ?_), h.low, h.tgs, fun p hp ad e => ?_⟩
 ·exact hf.cell (key p hp ad e).1 (key p hp ad e).2 _
 ·obtain ⟨cs, hc⟩ := h.u8 p hp ad e
  exact ⟨cs, hc.fr hf (key p hp ad e).2⟩
theorem TreeIn.far {S : Nat -> Prop} {t : Tr} {a : Option Addr} (h : TreeIn w add n enc t a) (hf : Fr S w w') (hS : ∀ k, k < w.heap.size -> S k -> Far w k) : TreeIn w' add n enc t a :=
 ⟨NodeAt.keepS (fun b cs' hb => hf.block b hb.lt (fun hs => (hS b hb.lt hs).ne (.inr (.inl rfl)) hb rfl)) t a h.node, h.tot, h.pcs.far hf hS⟩
end
structure TextM (w : World) (B g : Nat) (enc lim : Int) (n : Nat) (add : Value) (t : Tr) (a : Option Addr) (xs : List Value) : Prop where
 blk : Blk w g 139 #[.int .i64 enc, .int .i64 lim, .pointer a, add]
 row : w.ownsRow B 5 1 add n xs
 enc4 : enc = 1 \/ enc = 2 \/ enc = 3 \/ enc = 4
 base : B <= w.heap.size
 tree : TreeIn w add n enc t a
section
variable {w w' : World} {B g n n' : Nat} {enc lim : Int} {add : Value} {t : Tr} {a : Option Addr} {xs : List Value}
theorem TextM.ne (h : TextM w B g enc lim n add t a xs) : add.ownBlock ≠ some g := own_blk_ne h.row h.blk (by decide)
theorem totB_len {enc : Int} : ∀ {ps : List Pc}, (∀ p ∈ ps, PcOk enc p) -> (ps.length : Int) <= totB ps := by
 intro ps
 induction ps with
 | nil => intro _; simp [totB]
 | cons p ps ih =>
  intro h
  have h1 := ih (fun q hq => h q (List.mem_cons_of_mem _ hq))
  have hp := h p List.mem_cons_self
  have h2 : 0 < p.sum.bytes := by
   rw [hp.sum, sumsOf_bytes, hp.len]
   have := hp.pos
   omega
  rw [totB_cons, List.length_cons]
  omega
theorem TextM.text (h : TextM w B g enc lim n add t a xs) : TextIn w Any g enc lim t a add :=
 ⟨h.blk, h.enc4, h.tree.node, by have := totB_len h.tree.pcs.ok; have := h.tree.tot; omega, by have := h.tree.tot; omega, h.tree.pcs.ok, h.tree.pcs.bts⟩
theorem TextM.below (h : TextM w B g enc lim n add t a xs) (hb : Below w.heap.size w w') : TextM w' B g enc lim n add t a xs :=
 ⟨h.blk.below hb, own_bel h.row hb, h.enc4, Nat.le_trans h.base hb.size, h.tree.step (g := g) (TStep.below h.row hb) h.row h.blk⟩
theorem TextL.textM {D : Nat -> Prop} {ds ats : List (Int × Int)} (h : TextL w D g enc lim ds ats) (hs : (ds.map Prod.snd).sum <= 65536) : ∃ t a, TextM w 0 g enc lim 0 (.slice none 0 0) t a [] /\ decL enc t.list = ds /\ atsL enc t.list = ats := by
 obtain ⟨t, a, add, h, hu, hd, ha, rfl, htg⟩ := h
 refine ⟨t, a, ⟨h.blk, World.ownsRow_nil _ _ _ _, h.enc4, Nat.zero_le _, h.node, ?_, h.ok, fun p hp => Reads.more (h.bts p hp) (fun _ _ _ => trivial) (by decide), fun p _ ad _ hb => (by cases hb), htg, hu⟩, hd, ha⟩
 have h1 := (sumL_good h.good).2
 rw [sumL_dec h.ok, (sumsOf_good' (decL_pos enc _)).2.2, hd] at h1
 omega
end
def cutL (enc : Int) (x : Pc) (n : Nat) : Pc := ⟨x.A, (szs enc x.bytes n).toNat, (szs enc x.bytes n).toNat, x.tag, sumsOf ((dec enc x.bytes).take n), x.bytes.take (szs enc x.bytes n).toNat⟩
def cutR (enc : Int) (x : Pc) (n : Nat) : Pc :=
 ⟨if x.c = (szs enc x.bytes n).toNat then x.A else x.A.map (·.add (szs enc x.bytes n).toNat), x.n - (szs enc x.bytes n).toNat, x.c - (szs enc x.bytes n).toNat, if 0 <= x.tag then x.tag + szs enc x.bytes n else x.tag, sumsOf ((dec enc x.bytes).drop n), x.bytes.drop (szs enc x.bytes n).toNat⟩
theorem cutV_eq (enc : Int) (x : Pc) (n : Nat) : CutV enc x (n : Int) = .tuple #[.agg (cutL enc x n).cells, .agg (cutR enc x n).cells] := rfl
theorem szs_pos (enc : Int) (l : List Int) (n : Nat) (hn : 0 < n) (hl : 0 < l.length) : 1 <= szs enc l n := by
 obtain ⟨k, rfl⟩ : ∃ k, n = k + 1 := ⟨n - 1, by omega⟩
 rw [szs_succ enc l k hl]
 have h1 := sizeAt_bd enc l hl
 have h2 := szs_bd enc k (l.drop (sizeAt enc l).toNat)
 omega
theorem szs_lt (enc : Int) (l : List Int) (n : Nat) (h : n < (dec enc l).length) : szs enc l n < l.length := by
 have h1 := szs_bd enc n l
 have h2 := dec_drop enc n l
 have h3 : 0 < (l.drop (szs enc l n).toNat).length := by
  rcases Nat.eq_zero_or_pos (l.drop (szs enc l n).toNat).length with h0 | h0
  ·rw [List.eq_nil_of_length_eq_zero h0, dec_nil] at h2
   have := congrArg List.length h2
   rw [List.length_drop, List.length_nil] at this
   omega
  ·exact h0
 rw [List.length_drop] at h3
 omega
section
variable {enc : Int} {x : Pc} {n : Nat}
theorem cutL_dec : dec enc (cutL enc x n).bytes = (dec enc x.bytes).take n := dec_take enc n x.bytes
theorem cutR_dec : dec enc (cutR enc x n).bytes = (dec enc x.bytes).drop n := dec_drop enc n x.bytes
theorem cutL_ok (h : PcOk enc x) (hn : 0 < n) : PcOk enc (cutL enc x n) := by
 have h1 := szs_bd enc n x.bytes
 have h2 := szs_pos enc x.bytes n hn (by rw [h.len]; exact h.pos)
 have h3 := h.len
 have h4 := h.nle
 exact ⟨h.byt.take _, by simp only [cutL, List.length_take]; omega, by simp only [cutL]; omega, by simp only [cutL]; omega, Nat.le_refl _, h.tag0, h.tag1, by rw [cutL_dec]; rfl⟩
theorem cutR_ok (h : PcOk enc x) (hn : n < (dec enc x.bytes).length) (ht : x.tag + x.n <= 1073741824) : PcOk enc (cutR enc x n) := by
 have h1 := szs_bd enc n x.bytes
 have h2 := szs_lt enc x.bytes n hn
 have h3 := h.len
 have h4 := h.nle
 have h5 := h.cap
 have h6 := h.tag0
 refine ⟨h.byt.drop _, by simp only [cutR, List.length_drop]; omega, by simp only [cutR]; omega, by simp only [cutR]; omega, by simp only [cutR]; omega, ?_, ?_, by rw [cutR_dec]; rfl⟩
 ·simp only [cutR]; split <;> omega
 ·simp only [cutR]; split <;> omega
theorem cutL_ats : atsP enc (cutL enc x n) = (atsP enc x).take n := by
 unfold atsP
 rw [cutL_dec]
 show tagF x.tag 0 _ = _
 rcases Nat.le_total n (dec enc x.bytes).length with hle | hle
 ·conv => rhs; rw [<- List.take_append_drop n (dec enc x.bytes), tagF_app]
  exact (List.take_left' (by rw [tagF_len, List.length_take]; omega)).symm
 ·have h1 : (dec enc x.bytes).take n = dec enc x.bytes := List.take_of_length_le hle
  have h2 : (tagF x.tag 0 (dec enc x.bytes)).take n = tagF x.tag 0 (dec enc x.bytes) := List.take_of_length_le (by rw [tagF_len]; exact hle)
  rw [h1, h2]
theorem tagF_neg {p q : Int} (hp : p < 0) (hq : q < 0) (ds : List (Int × Int)) : ∀ o o', tagF p o ds = tagF q o' ds := by
 induction ds with
 | nil => intro _ _; rfl
 | cons d ds ih => intro o o'; simp only [tagF, if_pos hp, if_pos hq, ih (o + d.2) (o' + d.2)]
theorem cutR_ats : atsP enc (cutR enc x n) = (atsP enc x).drop n := by
 unfold atsP
 rw [cutR_dec]
 show tagF (if 0 <= x.tag then x.tag + szs enc x.bytes n else x.tag) 0 _ = _
 rcases Nat.le_total n (dec enc x.bytes).length with hle | hle
 ·conv => rhs; rw [<- List.take_append_drop n (dec enc x.bytes), tagF_app]
  refine Eq.trans ?_ (List.drop_left' (by rw [tagF_len, List.length_take]; omega)).symm
  split
  ·rename_i h0
   have h1 := (szs_bd enc n x.bytes).1
   rw [tagF_shift _ (by omega), tagF_shift _ h0]
   show tagF 0 (x.tag + szs enc x.bytes n + 0) _ = tagF 0 (x.tag + (0 + szs enc x.bytes n)) _
   rw [Int.add_zero, Int.zero_add]
  ·exact tagF_neg (by omega) (by omega) _ _ _
 ·have h1 : (dec enc x.bytes).drop n = [] := List.drop_eq_nil_of_le hle
  have h2 : (tagF x.tag 0 (dec enc x.bytes)).drop n = [] := List.drop_eq_nil_of_le (by rw [tagF_len]; exact hle)
  rw [h1, h2]
  rfl
theorem cutL_bts {w : World} {D : Nat -> Prop} (h : Bts w D x.A x.n x.bytes) (hk : PcOk enc x) : Bts w D (cutL enc x n).A (cutL enc x n).n (cutL enc x n).bytes := by
 have h1 := szs_bd enc n x.bytes
 have h3 := hk.len
 have := Reads.take h (k := (szs enc x.bytes n).toNat) (by omega)
 unfold Bts cutL
 rw [Nat.mul_one, <- List.map_take] at this
 exact this
theorem cutR_bts {w : World} {D : Nat -> Prop} (h : Bts w D x.A x.n x.bytes) (hk : PcOk enc x) : Bts w D (cutR enc x n).A (cutR enc x n).n (cutR enc x n).bytes := by
 have h1 := szs_bd enc n x.bytes
 have h3 := hk.len
 have := Reads.cut h (k := (szs enc x.bytes n).toNat) (by omega) hk.cap
 unfold Bts cutR
 rw [Nat.mul_one, <- List.map_drop] at this
 exact this
theorem cutL_low {add : Value} {m : Nat} (h : Low add m x) (hk : PcOk enc x) : Low add m (cutL enc x n) := by
 intro ad e hb
 have h1 := szs_bd enc n x.bytes
 have h3 := hk.len
 have := h ad e hb
 simp only [cutL]
 omega
theorem cutR_low {add : Value} {m : Nat} (h : Low add m x) (hk : PcOk enc x) : Low add m (cutR enc x n) := by
 intro ad e hb
 have h1 := szs_bd enc n x.bytes
 have h3 := hk.len
 have h5 := hk.cap
 simp only [cutR] at e ⊢
 split at e
 ·have := h ad e hb
  omega
 ·cases hA : x.A with
  | none => rw [hA] at e; cases e
  | some ad0 =>
   rw [hA] at e
   injection e with e
   have hb0 : add.ownBlock = some ad0.block := by rw [hb, <- e, block_of_add]
   have := h ad0 hA hb0
   have ho : ad.off = ad0.off + (szs enc x.bytes n).toNat := by
    rw [<- e]
    unfold Addr.add
    split
    ·rename_i h0; rw [h0]; rfl
    ·rfl
   omega
end
theorem found_split {enc : Int} {ps : List Pc} {at_ : Int} {i n : Nat} (hf : Found enc ps at_ i n) {p : Pc} (hp : ps[i]? = some p) (h0 : 0 <= at_) :
  n <= (dec enc p.bytes).length /\ (decL enc ps).take at_.toNat = decL enc (ps.take i) ++ (dec enc p.bytes).take n /\ (decL enc ps).drop at_.toNat = (dec enc p.bytes).drop n ++ decL enc (ps.drop (i + 1)) /\
  (atsL enc ps).take at_.toNat = atsL enc (ps.take i) ++ (atsP enc p).take n /\ (atsL enc ps).drop at_.toNat = (atsP enc p).drop n ++ atsL enc (ps.drop (i + 1)) := by
 obtain ⟨h1, h2, h3⟩ := hf
 have hlt : i < ps.length := by
  rcases Nat.lt_or_ge i ps.length with h | h
  ·exact h
  ·rw [List.getElem?_eq_none h] at hp; cases hp
 have hsp : ps = ps.take i ++ p :: ps.drop (i + 1) := by
  rw [List.getElem?_eq_getElem hlt] at hp
  injection hp with hp
  rw [<- hp, <- List.drop_eq_getElem_cons hlt, List.take_append_drop]
 have hn : n <= (dec enc p.bytes).length := by
  rcases Nat.lt_or_ge 0 n with h0 | h0
  ·obtain ⟨_, _, h5⟩ := h3 (by omega)
   have : ps.take (i + 1) = ps.take i ++ [p] := by rw [List.take_add_one, hp]; rfl
   rw [this, decL_app, List.length_append] at h5
   simp [decL] at h5 ⊢
   simp [decL] at h2
   omega
  ·omega
 have e0 : at_.toNat = (decL enc (ps.take i)).length + n := by omega
 have e1 : atsL enc [p] = atsP enc p := atsL_one enc p
 have e2 : (atsL enc (ps.take i)).length = (decL enc (ps.take i)).length := atsL_len enc _
 have e3 : (atsP enc p).length = (dec enc p.bytes).length := tagF_len _ _ _
 have d1 : decL enc ps = decL enc (ps.take i) ++ (dec enc p.bytes ++ decL enc (ps.drop (i + 1))) := by conv => lhs; rw [hsp, decL_app, decL_cons]
 have d2 : atsL enc ps = atsL enc (ps.take i) ++ (atsP enc p ++ atsL enc (ps.drop (i + 1))) := by
  conv => lhs; rw [hsp, atsL_app, show p :: ps.drop (i + 1) = [p] ++ ps.drop (i + 1) from rfl, atsL_app, e1]
 refine ⟨hn, ?_, ?_, ?_, ?_⟩
 ·rw [d1, e0, List.take_length_add_append, List.take_append_of_le_length hn]
 ·rw [d1, e0, List.drop_length_add_append, List.drop_append_of_le_length hn]
 ·rw [d2, e0, <- e2, List.take_length_add_append, List.take_append_of_le_length (by omega)]
 ·rw [d2, e0, <- e2, List.drop_length_add_append, List.drop_append_of_le_length (by omega)]
def headP (enc : Int) (ps : List Pc) (i n : Nat) : List Pc := match ps[i]? with | some p => if 0 < n then [cutL enc p n] else [] | none => []
def tailP (enc : Int) (ps : List Pc) (j m : Nat) : List Pc := match ps[j]? with | some p => if 0 < (sumsOf ((dec enc p.bytes).drop m)).atoms then [cutR enc p m] else [] | none => []
theorem head_law {enc : Int} {ps : List Pc} {at_ : Int} {i n : Nat} (hf : Found enc ps at_ i n) (h0 : 0 <= at_) :
  decL enc (ps.take i ++ headP enc ps i n) = (decL enc ps).take at_.toNat /\ atsL enc (ps.take i ++ headP enc ps i n) = (atsL enc ps).take at_.toNat := by
 unfold headP
 cases hp : ps[i]? with
 | none =>
  have hge : ps.length <= i := by
   rcases Nat.lt_or_ge i ps.length with h | h
   ·rw [List.getElem?_eq_getElem h] at hp; cases hp
   ·exact h
  obtain ⟨h1, h2, h3⟩ := hf
  have hz : at_ = 0 := by
   rcases Int.lt_or_le 0 at_ with h | h
   ·have := (h3 h).1; omega
   ·omega
  subst hz
  have hd : (decL enc (ps.take i)).length = 0 := by omega
  have hd2 : (atsL enc (ps.take i)).length = 0 := by rw [atsL_len]; exact hd
  simp only [List.append_nil, Int.toNat_zero, List.take_zero]
  exact ⟨List.eq_nil_of_length_eq_zero hd, List.eq_nil_of_length_eq_zero hd2⟩
 | some p =>
  obtain ⟨_, h1, _, h3, _⟩ := found_split hf hp h0
  rw [h1, h3]
  dsimp only
  split
  ·rw [decL_app, atsL_app, decL_cons, atsL_one, cutL_dec, cutL_ats]
   simp [decL]
  ·have hn : n = 0 := by omega
   subst hn
   simp
theorem tail_law {enc : Int} {ps : List Pc} {at_ : Int} {j m : Nat} (hf : Found enc ps at_ j m) (h0 : 0 <= at_) :
  decL enc (tailP enc ps j m ++ ps.drop (min (j + 1) ps.length)) = (decL enc ps).drop at_.toNat /\ atsL enc (tailP enc ps j m ++ ps.drop (min (j + 1) ps.length)) = (atsL enc ps).drop at_.toNat := by
 unfold tailP
 cases hp : ps[j]? with
 | none =>
  have hge : ps.length <= j := by
   rcases Nat.lt_or_ge j ps.length with h | h
   ·rw [List.getElem?_eq_getElem h] at hp; cases hp
   ·exact h
  obtain ⟨h1, h2, h3⟩ := hf
  have hz : at_ = 0 := by
   rcases Int.lt_or_le 0 at_ with h | h
   ·have := (h3 h).1; omega
   ·omega
  subst hz
  have he : ps.take j = ps := List.take_of_length_le hge
  rw [he] at h2
  have hd : (decL enc ps).length = 0 := by omega
  have hd2 : (atsL enc ps).length = 0 := by rw [atsL_len]; exact hd
  rw [Nat.min_eq_right (by omega), List.drop_length, List.eq_nil_of_length_eq_zero hd, List.eq_nil_of_length_eq_zero hd2]
  simp [decL, atsL]
 | some p =>
  obtain ⟨_, _, h2, _, h4⟩ := found_split hf hp h0
  have hlt : j < ps.length := (List.getElem?_eq_some_iff.1 hp).1
  rw [h2, h4, Nat.min_eq_left (by omega)]
  have hatoms : (sumsOf ((dec enc p.bytes).drop m)).atoms = (((dec enc p.bytes).drop m).length : Int) := (sumsOf_good' ((dec_pos enc _).drop m)).2.1
  have e3 : (atsP enc p).length = (dec enc p.bytes).length := tagF_len _ _ _
  dsimp only
  rw [hatoms]
  split
  ·rw [decL_app, atsL_app, decL_cons, atsL_one, cutR_dec, cutR_ats]
   simp [decL]
  ·have hz : ((dec enc p.bytes).drop m).length = 0 := by omega
   have hz2 : ((atsP enc p).drop m).length = 0 := by rw [List.length_drop, e3, <- List.length_drop]; exact hz
   rw [List.eq_nil_of_length_eq_zero hz, List.eq_nil_of_length_eq_zero hz2]
   simp
theorem head_mem {enc : Int} {ps : List Pc} {i n : Nat} {q : Pc} (h : q ∈ headP enc ps i n) : ∃ p, ps[i]? = some p /\ 0 < n /\ q = cutL enc p n := by
 unfold headP at h
 split at h
 ·rename_i p hp
  split at h
  ·rename_i h0
   exact ⟨p, hp, h0, List.mem_singleton.1 h⟩
  ·cases h
 ·cases h
theorem tail_mem {enc : Int} {ps : List Pc} {j m : Nat} {q : Pc} (h : q ∈ tailP enc ps j m) : ∃ p, ps[j]? = some p /\ m < (dec enc p.bytes).length /\ q = cutR enc p m := by
 unfold tailP at h
 split at h
 ·rename_i p hp
  split at h
  ·rename_i h0
   rw [(sumsOf_good' ((dec_pos enc p.bytes).drop m)).2.1, List.length_drop] at h0
   exact ⟨p, hp, by omega, List.mem_singleton.1 h⟩
  ·cases h
 ·cases h
structure FreshS (w0 : World) (B g bt bf bp bn : Nat) (enc lim : Int) (n0 : Nat) (add0 : Value) (a : Option Addr) (xs : List Value) (dn pd : List Int) (m : Nat) (ps : List Pc) (v add : Value) (w : World) : Prop where
 tx : Blk w g 139 #[.int .i64 enc, .int .i64 lim, .pointer a, add]
 row : w.ownsRow B 5 1 add (n0 + (putL enc dn).length + (putL enc pd).length) (xs ++ (putL enc dn ++ putL enc pd).map (Value.int .u8))
 step : TStep g add0 add n0 (n0 + (putL enc dn).length + (putL enc pd).length) w0 w
 tb : Blk w bt 59 #[.pointer (some ⟨g, 0, none⟩)]
 fb : Blk w bf 3 #[.int .i64 ((n0 + (putL enc dn).length : Nat) : Int)]
 pb : Blk w bp 225 #[v]
 nb : Blk w bn 3 #[.int .i64 ((m : Nat) : Int)]
 prow : w.ownsRow w0.heap.size 142 7 v ps.length (ps.flatMap fun p => p.cells.toList)
 pcs : PsIn w add (n0 + (putL enc dn).length + (putL enc pd).length) enc ps
 tag : ∀ p ∈ ps, p.tag = -1
 all : decL enc ps = withSz enc dn
 ge : w0.heap.size <= bt /\ w0.heap.size <= bf /\ w0.heap.size <= bp /\ w0.heap.size <= bn /\ bf ≠ bn
def newP (enc : Int) (ba F : Nat) (pd : List Int) : Pc := ⟨some ⟨ba, F, none⟩, (putL enc pd).length, (putL enc pd).length, -1, sumsOf (dec enc (putL enc pd)), putL enc pd⟩
def ShutPost (w0 : World) (B g bt bf bp bn : Nat) (enc lim : Int) (n0 : Nat) (add0 : Value) (a : Option Addr) (xs : List Value) (dn pd : List Int) (add : Value) (w : World) (e : Ending) (w' : World) : Prop :=
 e = .returned (.tuple #[]) /\ ∃ ps v, FreshS w0 B g bt bf bp bn enc lim n0 add0 a xs (dn ++ pd) [] 0 ps v add w'
section
variable {w0 w : World} {B g bt bf bp bn n0 : Nat} {enc lim : Int} {add0 add v : Value} {a : Option Addr} {xs : List Value} {dn pd : List Int} {m : Nat} {ps : List Pc}
theorem FreshS.shut {w1 : World} {ba cap : Nat} {v' : Value} (h : FreshS w0 B g bt bf bp bn enc lim n0 add0 a xs dn pd m ps v add w) (hr0 : w0.ownsRow B 5 1 add0 n0 xs) (hadd : add = .slice (some ⟨ba, 0, none⟩) (n0 + (putL enc dn).length + (putL enc pd).length) cap)
  (hd : dec enc (putL enc pd) = withSz enc pd) (hf : Fit enc pd) (hp : 0 < (putL enc pd).length) (hn : (putL enc pd).length <= 1048576)
  (hfr : Fr (OwnB v) w w1) (hown : w1.ownsRow w0.heap.size 142 7 v' (ps.length + 1) ((ps.flatMap fun p => p.cells.toList) ++ (newP enc ba (n0 + (putL enc dn).length) pd).cells.toList)) :
  FreshS w0 B g bt bf bp bn enc lim n0 add0 a xs (dn ++ pd) [] 0 (ps ++ [newP enc ba (n0 + (putL enc dn).length) pd]) v' add
   (((w1.setCell ⟨bp, 0, none⟩ v').setCell ⟨bf, 0, none⟩ (.int .i64 ((n0 + (putL enc dn).length + (putL enc pd).length : Nat) : Int))).setCell ⟨bn, 0, none⟩ (.int .i64 0)) := by
 obtain ⟨g1, g2, g3, g4, g5⟩ := h.ge
 have eL : (putL enc (dn ++ pd)).length = (putL enc dn).length + (putL enc pd).length := by rw [putL_app, List.length_append]
 have eN : n0 + (putL enc (dn ++ pd)).length + (putL enc ([] : List Int)).length = n0 + (putL enc dn).length + (putL enc pd).length := by rw [eL, putL_nil]; simp; omega
 have ov : ∀ {T : TypeId} {cs : Array Value} {b : Nat}, Blk w b T cs -> 142 ≠ T -> ¬ OwnB v b := fun hb hT => own_blk_ne h.prow hb hT
 have t1 := h.tx.fr hfr (ov h.tx (by decide))
 have t2 := h.tb.fr hfr (ov h.tb (by decide))
 have t3 := h.fb.fr hfr (ov h.fb (by decide))
 have t4 := h.pb.fr hfr (ov h.pb (by decide))
 have t5 := h.nb.fr hfr (ov h.nb (by decide))
 have n1 : g ≠ bp := Blk.ne_ t1 t4 (by decide)
 have n2 : g ≠ bf := Blk.ne_ t1 t3 (by decide)
 have n3 : g ≠ bn := Blk.ne_ t1 t5 (by decide)
 have n4 : bt ≠ bp := Blk.ne_ t2 t4 (by decide)
 have n5 : bt ≠ bf := Blk.ne_ t2 t3 (by decide)
 have n6 : bt ≠ bn := Blk.ne_ t2 t5 (by decide)
 have n7 : bp ≠ bf := Blk.ne_ t4 t3 (by decide)
 have n8 : bp ≠ bn := Blk.ne_ t4 t5 (by decide)
 have F : Fr (fun b => OwnB v b \/ b = bp \/ b = bf \/ b = bn) w (((w1.setCell ⟨bp, 0, none⟩ v').setCell ⟨bf, 0, none⟩ (.int .i64 ((n0 + (putL enc dn).length + (putL enc pd).length : Nat) : Int))).setCell ⟨bn, 0, none⟩ (.int .i64 0)) :=
  (((hfr.more (fun _ _ h => .inl h)).setCell (.inl (.inr (.inl rfl))) _).setCell (.inl (.inr (.inr (.inl rfl)))) _).setCell (.inl (.inr (.inr (.inr rfl)))) _
 have hva : ∀ b, add.ownBlock = some b -> ¬ (OwnB v b \/ b = bp \/ b = bf \/ b = bn) := by
  rintro b hb hs
  have hb1 : ∃ cs, Blk w b 5 cs := by
   rcases h.row.2 with ⟨rfl, _⟩ | ⟨q, c, cur, rfl, _, hq, _⟩
   ·cases hb
   ·have : q = b := by simpa [Value.ownBlock] using hb
    subst this
    exact ⟨cur, hq⟩
  obtain ⟨cs, hb1⟩ := hb1
  rcases hs with hs | rfl | rfl | rfl
  ·exact ov hb1 (by decide) hs
  ·exact Blk.ne_ hb1 h.pb (by decide) rfl
  ·exact Blk.ne_ hb1 h.fb (by decide) rfl
  ·exact Blk.ne_ hb1 h.nb (by decide) rfl
 have hfar : ∀ k, k < w.heap.size -> (OwnB v k \/ k = bp \/ k = bf \/ k = bn) -> Far w k := by
  rintro k _ (hk | rfl | rfl | rfl)
  ·exact Far.own h.prow hk (by decide)
  ·exact Far.blk h.pb (by decide)
  ·exact Far.blk h.fb (by decide)
  ·exact Far.blk h.nb (by decide)
 have hrow : World.ownsRow (((w1.setCell ⟨bp, 0, none⟩ v').setCell ⟨bf, 0, none⟩ (.int .i64 ((n0 + (putL enc dn).length + (putL enc pd).length : Nat) : Int))).setCell ⟨bn, 0, none⟩ (.int .i64 0)) B 5 1 add (n0 + (putL enc dn).length + (putL enc pd).length) (xs ++ (putL enc dn ++ putL enc pd).map (Value.int .u8)) := by
  refine ⟨h.row.1, ?_⟩
  rcases h.row.2 with h0 | ⟨r, c, cur, e, h1, h2, h3⟩
  ·exact .inl h0
  ·refine .inr ⟨r, c, cur, e, h1, ?_, h3⟩
   rw [F.block r (Array.getElem?_eq_some_iff.1 h2).1 (hva r (by rw [e]; rfl))]
   exact h2
 have hbts : Bts w Any (some ⟨ba, n0 + (putL enc dn).length, none⟩) (putL enc pd).length (putL enc pd) := by
  refine ⟨by simp, fun _ => ⟨_, rfl, trivial, fun j u hj => ?_⟩⟩
  rw [add_cell]
  have := h.row.cells (g := ba) (by rw [hadd]; rfl) (n0 + (putL enc dn).length + j) u (by
   have hx := hr0.1
   rw [List.getElem?_append_right (by omega), List.map_append, List.getElem?_append_right (by rw [List.length_map]; omega), List.length_map]
   rw [<- hj]
   congr 1
   omega)
  rw [add_cell, Nat.zero_add] at this
  exact this
 have hq : PsIn w add (n0 + (putL enc dn).length + (putL enc pd).length) enc [newP enc ba (n0 + (putL enc dn).length) pd] := by
  refine ⟨?_, ?_, ?_, ?_, ?_⟩
  all_goals
   intro p hp
   rw [List.mem_singleton] at hp
   subst hp
  ·exact ⟨putL_byt enc pd hf, rfl, hp, by simp only [newP]; omega, Nat.le_refl _, by simp [newP], by simp [newP], rfl⟩
  ·exact hbts
  ·intro ad e hb
   injection e with e
   subst e
   exact Nat.le_refl _
  ·simp only [newP]; omega
  ·intro ad e
   injection e with e
   subst e
   rcases h.row.2 with ⟨e0, _⟩ | ⟨q, c, cur, e0, _, hq, _⟩
   ·rw [e0] at hadd; cases hadd
   ·rw [hadd] at e0
    injection e0 with e0
    injection e0 with e0
    injection e0 with e0
    subst e0
    exact ⟨cur, hq⟩
 have hall : decL enc [newP enc ba (n0 + (putL enc dn).length) pd] = withSz enc pd := by
  rw [decL_cons, show decL enc [] = [] from rfl, List.append_nil]
  exact hd
 refine ⟨((t1.far n1 _).far n2 _).far n3 _, ?_, ?_, ((t2.far n4 _).far n5 _).far n6 _, ?_, ?_, ?_, ?_, ?_, ?_, ?_, h.ge⟩
 ·rw [eN, putL_app, putL_nil, List.append_nil]
  exact hrow
 ·rw [eN]
  exact h.step.loc F (by
   rintro b (hs | rfl | rfl | rfl)
   ·exact (h.prow.lt b hs).1
   all_goals assumption) hr0
 ·have := ((t3.far (p := ⟨bp, 0, none⟩) (Ne.symm n7) v').set_ 0 (.int .i64 ((n0 + (putL enc dn).length + (putL enc pd).length : Nat) : Int))).far (p := ⟨bn, 0, none⟩) g5 (.int .i64 0)
  refine this.eq_ ?_
  rw [eL, Nat.add_assoc]
  rfl
 ·exact (((t4.set_ 0 v').far n7 _).far n8 _).eq_ rfl
 ·exact (((t5.far (p := ⟨bp, 0, none⟩) (Ne.symm n8) v').far (p := ⟨bf, 0, none⟩) (Ne.symm g5) _).set_ 0 _).eq_ rfl
 ·have hne : ∀ {T : TypeId} {cs : Array Value} {b : Nat}, Blk w1 b T cs -> 142 ≠ T -> ∀ k, v'.ownBlock = some k -> b ≠ k := fun hb hT k hk e => own_blk_ne hown hb hT (e ▸ hk)
  rw [List.length_append, List.flatMap_append, List.flatMap_singleton]
  refine ⟨hown.1, ?_⟩
  rcases hown.2 with h0 | ⟨r, c, cur, e, h1, h2, h3⟩
  ·exact .inl h0
  ·refine .inr ⟨r, c, cur, e, h1, ?_, h3⟩
   have hk : v'.ownBlock = some r := by rw [e]; rfl
   rw [Below.heap_setCell _ _ _ r (Ne.symm (hne t5 (by decide) r hk)), Below.heap_setCell _ _ _ r (Ne.symm (hne t3 (by decide) r hk)), Below.heap_setCell _ _ _ r (Ne.symm (hne t4 (by decide) r hk))]
   exact h2
 ·rw [eN]
  exact (h.pcs.app hq).far F hfar
 ·intro p hp
  rcases List.mem_append.1 hp with hp | hp
  ·exact h.tag p hp
  ·rw [List.mem_singleton] at hp
   rw [hp]
   rfl
 ·rw [decL_app, h.all, hall]
  unfold withSz
  rw [List.map_append]
end
def brk1 : List Int -> Int
 | [] => 0
 | a :: r => if a = 10 then 1 else if a = 13 then (if r.head? = some 10 then 2 else 3) else brk1 r
theorem brk1_skip (pre r : List Int) (h : ∀ x ∈ pre, x ≠ 10 /\ x ≠ 13) : brk1 (pre ++ r) = brk1 r := by
 induction pre with
 | nil => rfl
 | cons a pre ih =>
  have ha := h a (by simp)
  rw [List.cons_append, brk1, if_neg ha.1, if_neg ha.2]
  exact ih (fun x hx => h x (by simp [hx]))
theorem brk1_split (A : List Int) : ∃ pre r, A = pre ++ r /\ (∀ x ∈ pre, x ≠ 10 /\ x ≠ 13) /\ (r = [] \/ ∃ b s, r = b :: s /\ (b = 10 \/ b = 13)) := by
 induction A with
 | nil => exact ⟨[], [], rfl, by simp, .inl rfl⟩
 | cons a A ih =>
  by_cases ha : a = 10 \/ a = 13
  ·exact ⟨[], a :: A, rfl, by simp, .inr ⟨a, A, rfl, ha⟩⟩
  ·obtain ⟨pre, r, h1, h2, h3⟩ := ih
   refine ⟨a :: pre, r, by rw [h1]; rfl, fun x hx => ?_, h3⟩
   rcases List.mem_cons.1 hx with rfl | hx
   ·omega
   ·exact h2 x hx
theorem getD_pre (pre r : List Int) (k : Nat) (h : k < pre.length) : (pre ++ r).getD k 0 ∈ pre := by
 rw [List.getD_eq_getElem?_getD, List.getElem?_append_left h, List.getElem?_eq_getElem h]
 exact List.getElem_mem _
theorem getD_app (pre r : List Int) (k : Nat) : (pre ++ r).getD (pre.length + k) 0 = r.getD k 0 := by
 rw [List.getD_eq_getElem?_getD, List.getElem?_append_right (by omega), List.getD_eq_getElem?_getD, Nat.add_sub_cancel_left]
theorem cntE_none (A : List Int) (m : Nat) (h : ∀ q, 0 < q -> q <= m -> isE A q = false) : cntE A m = 0 := by
 induction m with
 | zero => rfl
 | succ m ih =>
  rw [cntE_succ, ih (fun q h1 h2 => h q h1 (by omega)), h (m + 1) (by omega) (Nat.le_refl _)]
  simp
theorem sk_one {ds : List (Int × Int)} (hp : PosD ds) {p : Nat} (h0 : isE (ds.map Prod.fst) p = true) (h1 : ∀ q, 0 < q -> q < p -> isE (ds.map Prod.fst) q = false) : 0 < totE ds /\ sk ds 1 = p := by
 have hpl := isE_le h0
 rw [List.length_map] at hpl
 have c0 := cntE_none (ds.map Prod.fst) (p - 1) (fun q a b => h1 q a (by omega))
 have c1 : cntE (ds.map Prod.fst) p = 1 := by
  have := cntE_succ (ds.map Prod.fst) (p - 1)
  rw [show p - 1 + 1 = p by omega, c0, h0] at this
  simpa using this
 have ht : 1 <= totE ds := by
  unfold totE
  rw [<- c1]
  exact cntE_mono _ hpl.2
 obtain ⟨_, h2, h3⟩ := sk_spec hp (k := 1) (by omega) ht
 refine ⟨ht, ?_⟩
 rcases Nat.lt_trichotomy (sk ds 1) p with h | h | h
 ·have := cntE_mono (ds.map Prod.fst) (m := sk ds 1) (n := p - 1) (by omega)
  omega
 ·exact h
 ·have := cntE_lt (ds.map Prod.fst) h h2
  omega
theorem lineF_brk {ds : List (Int × Int)} (hp : PosD ds) : (lineF ds 0).brk = brk1 (ds.map Prod.fst) := by
 obtain ⟨pre, r, hA, hpre, hr⟩ := brk1_split (ds.map Prod.fst)
 have hno : ∀ q, 0 < q -> q <= pre.length -> isE (ds.map Prod.fst) q = false := by
  intro q h1 h2
  unfold isE
  rw [decide_eq_false_iff_not]
  rintro ⟨_, _, h3⟩
  have h4 := hpre _ (getD_pre pre r (q - 1) (by omega))
  rw [<- hA] at h4
  omega
 have key : ∀ p, isE (ds.map Prod.fst) p = true -> (∀ q, 0 < q -> q < p -> isE (ds.map Prod.fst) q = false) -> (lineF ds 0).brk = if (ds.map Prod.fst).getD (p - 1) 0 = 13 then 3 else if 2 <= p /\ (ds.map Prod.fst).getD (p - 2) 0 = 13 then 2 else 1 := by
  intro p h1 h2
  obtain ⟨h3, h4⟩ := sk_one hp h1 h2
  unfold lineF
  rw [if_pos h3, sk_zero, h4]
  unfold closedF
  rw [Nat.zero_add]
  split
  ·rfl
  ·split <;> rfl
 have hlen : (ds.map Prod.fst).length = pre.length + r.length := by rw [hA, List.length_append]
 rw [show brk1 (ds.map Prod.fst) = brk1 r by rw [hA]; exact brk1_skip pre r hpre]
 rcases hr with rfl | ⟨b, s, rfl, hb⟩
 ·have ht : totE ds = 0 := by
   unfold totE
   refine cntE_none _ _ (fun q h1 h2 => hno q h1 ?_)
   rw [List.length_map] at hlen
   simp at hlen
   omega
  unfold lineF
  rw [if_neg (by omega)]
  rfl
 ·have g0 : (ds.map Prod.fst).getD pre.length 0 = b := by
   have := getD_app pre (b :: s) 0
   rw [<- hA] at this
   exact this
  have g1 : (ds.map Prod.fst).getD (pre.length + 1) 0 = s.getD 0 0 := by
   have := getD_app pre (b :: s) 1
   rw [<- hA] at this
   exact this
  simp only [List.length_cons] at hlen
  have gp : ∀ k, k < pre.length -> (ds.map Prod.fst).getD k 0 ≠ 13 := fun k hk => by
   have := (hpre _ (getD_pre pre (b :: s) k hk)).2
   rw [<- hA] at this
   exact this
  rcases hb with rfl | rfl
  ·rw [key (pre.length + 1) (by
    unfold isE
    rw [decide_eq_true_eq]
    exact ⟨by omega, by omega, .inl (by rw [Nat.add_sub_cancel]; exact g0)⟩) (fun q h1 h2 => hno q h1 (by omega))]
   rw [Nat.add_sub_cancel, g0, if_neg (by omega), if_neg ?_]
   ·rfl
   ·rintro ⟨h1, h2⟩
    exact gp _ (by omega) h2
  ·by_cases hs : s.head? = some 10
   ·obtain ⟨t, rfl⟩ : ∃ t, s = 10 :: t := by
     cases s with
     | nil => cases hs
     | cons x t => simp at hs; exact ⟨t, by rw [hs]⟩
    simp only [List.getD_cons_zero, List.length_cons] at g1 hlen
    rw [key (pre.length + 2) (by
     unfold isE
     rw [decide_eq_true_eq]
     exact ⟨by omega, by omega, .inl (by rw [show pre.length + 2 - 1 = pre.length + 1 by omega]; exact g1)⟩) (fun q h1 h2 => by
      rcases Nat.lt_or_ge pre.length q with h3 | h3
      ·have e : q = pre.length + 1 := by omega
       rw [e]
       unfold isE
       rw [decide_eq_false_iff_not, Nat.add_sub_cancel, g0, g1]
       rintro ⟨_, _, h4 | h4⟩
       ·omega
       ·apply h4.2
        exact ⟨by omega, rfl⟩
      ·exact hno q h1 h3)]
    rw [show pre.length + 2 - 1 = pre.length + 1 by omega, g1, if_neg (by omega), Nat.add_sub_cancel, g0, if_pos ⟨by omega, rfl⟩]
    rfl
   ·rw [key (pre.length + 1) (by
     unfold isE
     rw [decide_eq_true_eq]
     refine ⟨by omega, by omega, .inr ⟨by rw [Nat.add_sub_cancel]; exact g0, ?_⟩⟩
     rintro ⟨h1, h2⟩
     rw [g1] at h2
     apply hs
     cases s with
     | nil =>
      rw [List.length_nil] at hlen
      omega
     | cons x t => simp at h2 ⊢; exact h2) (fun q h1 h2 => hno q h1 (by omega))]
    rw [Nat.add_sub_cancel, g0, if_pos rfl]
    unfold brk1
    rw [if_neg (by omega), if_pos rfl, if_neg hs]
end Go.Proofs.YtkoakanpaehkmaaGreatDoor
