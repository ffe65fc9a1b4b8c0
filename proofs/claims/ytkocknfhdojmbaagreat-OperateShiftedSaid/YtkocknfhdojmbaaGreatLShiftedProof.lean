/-
  What the statements' own functions have in common. Package operate: checked, rows, lead, fits, repeated; Text.Enc. Package operate: lead, fits, repeated. The edits of a shift, and what they make of a text (plain). A shift to the right, and the one back (plain). Package operate: fits, repeated. operate.Join's act, walked through. operate.Shift's act: the edits that shift lines. operate.Shift's act, walked through. operate.Shift on a desk whose book changes. copyistlaw12.OperateShifted, walked through. OperateShifted answers true at every input, and writes nothing that was there. Conditions: none. (The frame of the row's proof follows the kit's proof-skeleton.mjs; the walk is shifted_any of the text Shifted.)
-/
import Derived.Test.YtkocknfhdojmbaaGreatLBothTyped
import Derived.Test.YtkocknfhdojmbaaGreatLDeskOps2
import Derived.Test.YtkocknfhdojmbaaGreatLEncode
import Derived.Laws.MakeOwn
import Derived.Test.YtkocknfhdojmbaaGreatLShiftLaw
import Derived.Test.YtkocknfhdojmbaaGreatLSnip2
import Derived.Test.YtkocknfhdojmbaaGreatLPanic
import Derived.Test.YtkocknfhdojmbaaGreatLMove6
import Derived.Test.YtkocknfhdojmbaaGreatRows
import Derived.WalkKit
import Derived.ProofKit
import Derived.OpenShut
import Derived.ShutString
import Derived.ChangeOld
import Derived.Below
set_option linter.unusedSimpArgs false
set_option linter.unusedVariables false
set_option maxRecDepth 100000
set_option maxHeartbeats 32000000
namespace Go.Proofs.YtkocknfhdojmbaaGreat
open Go.RowKit
theorem IntsI.dfr {B gd : Nat} {w w' : World} {A : Option Addr} {n : Nat} {l : List Int} {dc : Array Value} (h : IntsI w A n l) (hf : DFr B (· = gd) w w') (hd : Blk w gd 41 dc) : IntsI w' A n l := h.fr hf (fun b _ hs ⟨cs, hc⟩ => by
 rcases hs with ⟨_, T, cs', hT, hB⟩ | hs
 ·have : T = 3 := by
   unfold Blk at hT hc
   rw [hT] at hc
   injection hc with hc
   injection hc with _ hc
  subst this
  exact absurd hB (by decide)
 ·exact Blk.ne_ hc hd (by decide) hs)
theorem start_bd (s : Start) : (s.E = 1 \/ s.E = 2 \/ s.E = 3 \/ s.E = 4) /\ s.l.length <= 4096 /\ (s.l.length : Int) <= s.lim /\ s.lim <= 65536 /\ 1 <= s.dep /\ s.dep <= 200 := by
 have h1 := withinF_bd s.room 4096 (by omega)
 have h3 := withinF_bd s.depth 199 (by omega)
 have h4 : s.l.length <= 4096 := by unfold Start.l; rw [List.length_take]; omega
 unfold Start.E Start.lim Start.dep
 omega
theorem tenc_any (D : Nat -> Prop) (g : Nat) (enc : Int) (ds : List (Int × Int)) (w : World) (h : TextAt w D g enc ds) :
  Calls Tryz.prog 43 #[.pointer (some ⟨g, 0, none⟩)] w fun e w' => e = .returned (.int .i64 enc) /\ w = w' := by
 obtain ⟨lim, t, a, add, h, rfl⟩ := h
 obtain ⟨c1, _⟩ := h.cells
 clear h
 go_enter Tryz.func43, Tryz.ntmps43
 go_wp2_with fail
 go_ret
 exact ⟨rfl, rfl⟩
section
variable {B gd gb g n : Nat} {enc lim : Int} {st : BkS} {dc : Array Value} {w : World}
theorem checked_ok (h : DeskIs w B gd gb g enc lim n st dc) (a b k : Int) (hk : k = 0 \/ k = 1) (ha : 0 <= a /\ a <= b /\ b <= (st.ats.length : Int)) :
  Calls Tryz.prog 39 #[.pointer (some ⟨gd, 0, none⟩), .agg #[.int .i64 a, .int .i64 b, .int .i64 k]] w fun e w' => e = .returned (.tuple #[]) /\ Below w.heap.size w w' := by
 have hle := fun (w' : World) (hb : Below w.heap.size w w') => len_any Any g enc (sizedA enc st.ats) w' (h.below hb).at_
 rw [sizedA_len] at hle
 obtain ⟨N, hN⟩ : ∃ N, st.ats.length = N := ⟨_, rfl⟩
 rw [hN] at hle ha
 have HLE := Lib.hid hle
 have HT := Lib.hid (fun (w' : World) (hb : Below w.heap.size w w') => text_desk (h.below hb))
 have hw1 : Below w.heap.size w (w.alloc (.cells #[.int .i64 a, .int .i64 b, .int .i64 k] 53)) := balloc (Below.refl _ _)
 have hB := Blk.new w 53 #[.int .i64 a, .int .i64 b, .int .i64 k]
 have p1 : (a < 0) = False := by simp; omega
 have p2 : (b < a) = False := by simp; omega
 have p3 : ((N : Int) < b) = False := by simp; omega
 clear h hle hN
 go_enter Tryz.func39, Tryz.ntmps39
 go_upto_region 1 with fail
 obtain ⟨w1, hw10⟩ : ∃ x, w.alloc (.cells #[.int .i64 a, .int .i64 b, .int .i64 k] 53) = x := ⟨_, rfl⟩
 rw [hw10] at hw1 hB ⊢
 clear hw10
 obtain ⟨c0, c1, c2⟩ := cells3 hB
 have hS : ∀ w', Below w1.heap.size w1 w' -> w'.cell? ⟨w.heap.size, 0, none⟩ = some (.int .i64 a) /\ w'.cell? ⟨w.heap.size, 1, none⟩ = some (.int .i64 b) := fun w' hb => ⟨(hB.below hb).cell 0, (hB.below hb).cell 1⟩
 have HS := Lib.hid hS
 clear hS hB
 rcases hk with rfl | rfl
 all_goals
  go_wp2_with fail
  refine wp_region_steady (fun w' => Below w1.heap.size w1 w') (by kernel_rfl) (by kernel_rfl) (Below.drew (Below.refl _ _)) ?_
  repeat ((first
   | (refine wpSt_read (v := ?_) (by rfl) (fun w6 hSw => ?_) ?_; rotate_left; (· (obtain ⟨y0, y1⟩ := HS.out _ hSw; go_simp; try with_reducible rfl)))
   | refine wpSt_not (by rfl) ?_
   | (refine wpSt_call (f := ?_) (args := ?_) (v := .pointer (some ⟨g, 0, none⟩)) (by rfl) (fun w6 hSw => ?_) (fun w6 hSw => ?_) ?_; rotate_left 2; (· (obtain ⟨y0, y1⟩ := HS.out _ hSw; go_simp; first | done | (constructor <;> with_reducible rfl) | with_reducible rfl)); (· (refine (HT.out _ (bseq hw1 hSw)).mono ?_; rintro e w5 ⟨rfl, rfl⟩; exact ⟨rfl, hSw⟩)))
   | (refine wpSt_call (f := ?_) (args := ?_) (v := .int .i64 (N : Int)) (by rfl) (fun w6 hSw => ?_) (fun w6 hSw => ?_) ?_; rotate_left 2; (· (obtain ⟨y0, y1⟩ := HS.out _ hSw; go_simp; first | done | (constructor <;> with_reducible rfl) | with_reducible rfl)); (· (refine (HLE.out _ (bseq hw1 hSw)).mono ?_; rintro e w5 ⟨rfl, hb5⟩; exact ⟨rfl, bseq hSw hb5⟩)))); (try simp only [Act.put, pA, pB, pC]))
  refine wpSt_nil ?_
  intro w2 hb2
  go_wp2_with fail
  show bodyPost _ _ _ _ _ _
  refine bodyPost_end (results_none rfl _ _ _) rfl ?_
  exact ⟨rfl, bseq hw1 hb2⟩
theorem rows_desk (h : DeskIs w B gd gb g enc lim n st dc) (a b k : Int) (ha : 0 <= a /\ a <= b /\ b <= (st.ats.length : Int)) :
  Calls Tryz.prog 40 #[.pointer (some ⟨gd, 0, none⟩), .agg #[.int .i64 a, .int .i64 b, .int .i64 k]] w fun e w' => e = .returned (.tuple #[.int .i64 (rowIx (sizedA enc st.ats) a false : Int), .int .i64 (rowIx (sizedA enc st.ats) (max a (b - 1)) false : Int)]) /\ Below w.heap.size w w' := by
 have hlen := h.len
 have hof := fun (x : Int) (w' : World) (hb : Below w.heap.size w w') => of_line Any g enc (sizedA enc st.ats) x w' (h.below hb).at_
 have hcn := fun (w' : World) (hb : Below w.heap.size w w') => count_line Any g enc (sizedA enc st.ats) w' (h.below hb).at_
 have hcp := @countF_pos (sizedA enc st.ats)
 have hte : totE (sizedA enc st.ats) <= 65536 := Nat.le_trans (cntE_le _ _) (by rw [sizedA_len]; exact hlen)
 have hR : ∀ x, rowIx (sizedA enc st.ats) x false = min (ofF (sizedA enc st.ats) x) (countF (sizedA enc st.ats) - 1) := fun x => rfl
 obtain ⟨m, hm⟩ : ∃ m, max a (b - 1) = m := ⟨_, rfl⟩
 rw [hR, hR, hm]
 obtain ⟨M, hM⟩ : ∃ M, countF (sizedA enc st.ats) = M := ⟨_, rfl⟩
 have hofa := hof a
 have hofm := hof m
 obtain ⟨V, hV⟩ : ∃ V, ofF (sizedA enc st.ats) a = V := ⟨_, rfl⟩
 obtain ⟨U, hU⟩ : ∃ U, ofF (sizedA enc st.ats) m = U := ⟨_, rfl⟩
 rw [hM] at hcn hcp ⊢
 rw [hV] at hofa ⊢
 rw [hU] at hofm ⊢
 obtain ⟨K, hK⟩ : ∃ K, M - 1 = K := ⟨_, rfl⟩
 rw [hK]
 have wm : IntKind.i64.wrap ((M : Int) - 1) = (K : Int) := by rw [IntWalk.i64_in _ (by omega)]; omega
 have wb : IntKind.i64.wrap (b - 1) = b - 1 := IntWalk.i64_in _ (by omega)
 have HCN := Lib.hid hcn
 have HOA := Lib.hid hofa
 have HOM := Lib.hid hofm
 have HT := Lib.hid (fun (w' : World) (hb : Below w.heap.size w w') => text_desk (h.below hb))
 have hw1 : Below w.heap.size w (w.alloc (.cells #[.int .i64 a, .int .i64 b, .int .i64 k] 53)) := balloc (Below.refl _ _)
 have hB := Blk.new w 53 #[.int .i64 a, .int .i64 b, .int .i64 k]
 have HMX := Lib.hid hm
 have HUV := Lib.hid (show m = a -> U = V from fun e => by rw [<- hU, <- hV, e])
 have hmab : (a < b - 1 /\ m = b - 1) \/ (¬ a < b - 1 /\ m = a) := by omega
 clear h hof hcn hofa hofm hM hV hU hm hK hR hlen hcp hte
 go_enter Tryz.func40, Tryz.ntmps40
 go_upto_region 1 with fail
 obtain ⟨w1, hw10⟩ : ∃ x, w.alloc (.cells #[.int .i64 a, .int .i64 b, .int .i64 k] 53) = x := ⟨_, rfl⟩
 rw [hw10] at hw1 hB ⊢
 clear hw10
 go_wp2_with fail
 refine (HT.out _ hw1).mono ?_
 rintro e w2 ⟨rfl, rfl⟩
 go_wp2_with fail
 refine (HCN.out _ hw1).mono ?_
 rintro e w2 ⟨rfl, hb2⟩
 have hw2 := bseq hw1 hb2
 have hS : ∀ w', Below w2.heap.size w2 w' -> w'.cell? ⟨w.heap.size, 0, none⟩ = some (.int .i64 a) /\ w'.cell? ⟨w.heap.size, 1, none⟩ = some (.int .i64 b) := fun w' hb => ⟨(hB.below (bseq hb2 hb)).cell 0, (hB.below (bseq hb2 hb)).cell 1⟩
 have HS := Lib.hid hS
 clear hS hB HCN HT
 go_upto_region 3 with fail
 have HMN := Lib.hid (show ∀ x : Nat, (K < x -> (min x K : Nat) = K) /\ (x <= K -> (min x K : Nat) = x) from fun x => ⟨fun h => by omega, fun h => by omega⟩)
 rcases hmab with ⟨q0, q1⟩ | ⟨q0, q1⟩
 ·subst q1
  have p0 : (a < b - 1) = True := by simp; omega
  clear q0
  rcases Nat.lt_or_ge K V with q2 | q2
  ·rcases Nat.lt_or_ge K U with q3 | q3
   ·have p1 : ((K : Int) < (V : Int)) = True := by simp; omega
    have p2 : (K < V) = True := by simp; omega
    have p3 : ((K : Int) < (U : Int)) = True := by simp; omega
    have p4 : (K < U) = True := by simp; omega
    have e1 := (HMN.out V).1 q2
    have e2 := (HMN.out U).1 q3
    have E1 := Lib.hid e1
    have E2 := Lib.hid e2
    clear e1 e2 q2 q3
    refine wp_region_steady (fun w' => Below w2.heap.size w2 w') (by kernel_rfl) (by kernel_rfl) (Below.drew (Below.refl _ _)) ?_
    repeat ((first
     | (refine wpSt_read (v := ?_) (by rfl) (fun w6 hSw => ?_) ?_; rotate_left; (· (obtain ⟨y0, y1⟩ := HS.out _ hSw; go_simp; try with_reducible rfl)))
     | refine wpSt_not (by rfl) ?_
     | (refine wpSt_call (f := ?_) (args := ?_) (v := .int .i64 (V : Int)) (by rfl) (fun w6 hSw => ?_) (fun w6 hSw => ?_) ?_; rotate_left 2; (· (obtain ⟨y0, y1⟩ := HS.out _ hSw; go_simp; first | done | (constructor <;> with_reducible rfl) | with_reducible rfl)); (· ((with_reducible refine (HOA.out _ (bseq hw2 hSw)).mono ?_); rintro e w5 ⟨rfl, hb5⟩; exact ⟨rfl, bseq hSw hb5⟩)))
     | (refine wpSt_call (f := ?_) (args := ?_) (v := .int .i64 (U : Int)) (by rfl) (fun w6 hSw => ?_) (fun w6 hSw => ?_) ?_; rotate_left 2; (· (obtain ⟨y0, y1⟩ := HS.out _ hSw; go_simp; first | done | (constructor <;> with_reducible rfl) | with_reducible rfl)); (· ((with_reducible refine (HOM.out _ (bseq hw2 hSw)).mono ?_); rintro e w5 ⟨rfl, hb5⟩; exact ⟨rfl, bseq hSw hb5⟩)))); (try simp only [Act.put, pA, pB, pC]))
    refine wpSt_nil ?_
    intro w3 hb3
    go_wp2_with fail
    exact bodyPost_ret (v := .tuple #[.int .i64 (K : Int), .int .i64 (K : Int)]) (by simp [results, Tryz.results40, go_sem]) rfl ⟨by rw [E1.out, E2.out], bseq hw2 hb3⟩
   ·have p1 : ((K : Int) < (V : Int)) = True := by simp; omega
    have p2 : (K < V) = True := by simp; omega
    have p3 : ((K : Int) < (U : Int)) = False := by simp; omega
    have p4 : (K < U) = False := by simp; omega
    have e1 := (HMN.out V).1 q2
    have e2 := (HMN.out U).2 q3
    have E1 := Lib.hid e1
    have E2 := Lib.hid e2
    clear e1 e2 q2 q3
    refine wp_region_steady (fun w' => Below w2.heap.size w2 w') (by kernel_rfl) (by kernel_rfl) (Below.drew (Below.refl _ _)) ?_
    repeat ((first
     | (refine wpSt_read (v := ?_) (by rfl) (fun w6 hSw => ?_) ?_; rotate_left; (· (obtain ⟨y0, y1⟩ := HS.out _ hSw; go_simp; try with_reducible rfl)))
     | refine wpSt_not (by rfl) ?_
     | (refine wpSt_call (f := ?_) (args := ?_) (v := .int .i64 (V : Int)) (by rfl) (fun w6 hSw => ?_) (fun w6 hSw => ?_) ?_; rotate_left 2; (· (obtain ⟨y0, y1⟩ := HS.out _ hSw; go_simp; first | done | (constructor <;> with_reducible rfl) | with_reducible rfl)); (· ((with_reducible refine (HOA.out _ (bseq hw2 hSw)).mono ?_); rintro e w5 ⟨rfl, hb5⟩; exact ⟨rfl, bseq hSw hb5⟩)))
     | (refine wpSt_call (f := ?_) (args := ?_) (v := .int .i64 (U : Int)) (by rfl) (fun w6 hSw => ?_) (fun w6 hSw => ?_) ?_; rotate_left 2; (· (obtain ⟨y0, y1⟩ := HS.out _ hSw; go_simp; first | done | (constructor <;> with_reducible rfl) | with_reducible rfl)); (· ((with_reducible refine (HOM.out _ (bseq hw2 hSw)).mono ?_); rintro e w5 ⟨rfl, hb5⟩; exact ⟨rfl, bseq hSw hb5⟩)))); (try simp only [Act.put, pA, pB, pC]))
    refine wpSt_nil ?_
    intro w3 hb3
    go_wp2_with fail
    exact bodyPost_ret (v := .tuple #[.int .i64 (K : Int), .int .i64 (U : Int)]) (by simp [results, Tryz.results40, go_sem]) rfl ⟨by rw [E1.out, E2.out], bseq hw2 hb3⟩
  ·rcases Nat.lt_or_ge K U with q3 | q3
   ·have p1 : ((K : Int) < (V : Int)) = False := by simp; omega
    have p2 : (K < V) = False := by simp; omega
    have p3 : ((K : Int) < (U : Int)) = True := by simp; omega
    have p4 : (K < U) = True := by simp; omega
    have e1 := (HMN.out V).2 q2
    have e2 := (HMN.out U).1 q3
    have E1 := Lib.hid e1
    have E2 := Lib.hid e2
    clear e1 e2 q2 q3
    refine wp_region_steady (fun w' => Below w2.heap.size w2 w') (by kernel_rfl) (by kernel_rfl) (Below.drew (Below.refl _ _)) ?_
    repeat ((first
     | (refine wpSt_read (v := ?_) (by rfl) (fun w6 hSw => ?_) ?_; rotate_left; (· (obtain ⟨y0, y1⟩ := HS.out _ hSw; go_simp; try with_reducible rfl)))
     | refine wpSt_not (by rfl) ?_
     | (refine wpSt_call (f := ?_) (args := ?_) (v := .int .i64 (V : Int)) (by rfl) (fun w6 hSw => ?_) (fun w6 hSw => ?_) ?_; rotate_left 2; (· (obtain ⟨y0, y1⟩ := HS.out _ hSw; go_simp; first | done | (constructor <;> with_reducible rfl) | with_reducible rfl)); (· ((with_reducible refine (HOA.out _ (bseq hw2 hSw)).mono ?_); rintro e w5 ⟨rfl, hb5⟩; exact ⟨rfl, bseq hSw hb5⟩)))
     | (refine wpSt_call (f := ?_) (args := ?_) (v := .int .i64 (U : Int)) (by rfl) (fun w6 hSw => ?_) (fun w6 hSw => ?_) ?_; rotate_left 2; (· (obtain ⟨y0, y1⟩ := HS.out _ hSw; go_simp; first | done | (constructor <;> with_reducible rfl) | with_reducible rfl)); (· ((with_reducible refine (HOM.out _ (bseq hw2 hSw)).mono ?_); rintro e w5 ⟨rfl, hb5⟩; exact ⟨rfl, bseq hSw hb5⟩)))); (try simp only [Act.put, pA, pB, pC]))
    refine wpSt_nil ?_
    intro w3 hb3
    go_wp2_with fail
    exact bodyPost_ret (v := .tuple #[.int .i64 (V : Int), .int .i64 (K : Int)]) (by simp [results, Tryz.results40, go_sem]) rfl ⟨by rw [E1.out, E2.out], bseq hw2 hb3⟩
   ·have p1 : ((K : Int) < (V : Int)) = False := by simp; omega
    have p2 : (K < V) = False := by simp; omega
    have p3 : ((K : Int) < (U : Int)) = False := by simp; omega
    have p4 : (K < U) = False := by simp; omega
    have e1 := (HMN.out V).2 q2
    have e2 := (HMN.out U).2 q3
    have E1 := Lib.hid e1
    have E2 := Lib.hid e2
    clear e1 e2 q2 q3
    refine wp_region_steady (fun w' => Below w2.heap.size w2 w') (by kernel_rfl) (by kernel_rfl) (Below.drew (Below.refl _ _)) ?_
    repeat ((first
     | (refine wpSt_read (v := ?_) (by rfl) (fun w6 hSw => ?_) ?_; rotate_left; (· (obtain ⟨y0, y1⟩ := HS.out _ hSw; go_simp; try with_reducible rfl)))
     | refine wpSt_not (by rfl) ?_
     | (refine wpSt_call (f := ?_) (args := ?_) (v := .int .i64 (V : Int)) (by rfl) (fun w6 hSw => ?_) (fun w6 hSw => ?_) ?_; rotate_left 2; (· (obtain ⟨y0, y1⟩ := HS.out _ hSw; go_simp; first | done | (constructor <;> with_reducible rfl) | with_reducible rfl)); (· ((with_reducible refine (HOA.out _ (bseq hw2 hSw)).mono ?_); rintro e w5 ⟨rfl, hb5⟩; exact ⟨rfl, bseq hSw hb5⟩)))
     | (refine wpSt_call (f := ?_) (args := ?_) (v := .int .i64 (U : Int)) (by rfl) (fun w6 hSw => ?_) (fun w6 hSw => ?_) ?_; rotate_left 2; (· (obtain ⟨y0, y1⟩ := HS.out _ hSw; go_simp; first | done | (constructor <;> with_reducible rfl) | with_reducible rfl)); (· ((with_reducible refine (HOM.out _ (bseq hw2 hSw)).mono ?_); rintro e w5 ⟨rfl, hb5⟩; exact ⟨rfl, bseq hSw hb5⟩)))); (try simp only [Act.put, pA, pB, pC]))
    refine wpSt_nil ?_
    intro w3 hb3
    go_wp2_with fail
    exact bodyPost_ret (v := .tuple #[.int .i64 (V : Int), .int .i64 (U : Int)]) (by simp [results, Tryz.results40, go_sem]) rfl ⟨by rw [E1.out, E2.out], bseq hw2 hb3⟩
 ·subst q1
  have huv := HUV.out rfl
  subst huv
  have p0 : (m < b - 1) = False := by simp; omega
  clear q0
  rcases Nat.lt_or_ge K U with q2 | q2
  ·have p1 : ((K : Int) < (U : Int)) = True := by simp; omega
   have p2 : (K < U) = True := by simp; omega
   have e1 := (HMN.out U).1 q2
   have E1 := Lib.hid e1
   clear e1 q2
   refine wp_region_steady (fun w' => Below w2.heap.size w2 w') (by kernel_rfl) (by kernel_rfl) (Below.drew (Below.refl _ _)) ?_
   repeat ((first
    | (refine wpSt_read (v := ?_) (by rfl) (fun w6 hSw => ?_) ?_; rotate_left; (· (obtain ⟨y0, y1⟩ := HS.out _ hSw; go_simp; try with_reducible rfl)))
    | refine wpSt_not (by rfl) ?_
    | (refine wpSt_call (f := ?_) (args := ?_) (v := .int .i64 (U : Int)) (by rfl) (fun w6 hSw => ?_) (fun w6 hSw => ?_) ?_; rotate_left 2; (· (obtain ⟨y0, y1⟩ := HS.out _ hSw; go_simp; first | done | (constructor <;> with_reducible rfl) | with_reducible rfl)); (· ((with_reducible refine (HOA.out _ (bseq hw2 hSw)).mono ?_); rintro e w5 ⟨rfl, hb5⟩; exact ⟨rfl, bseq hSw hb5⟩)))); (try simp only [Act.put, pA, pB, pC]))
   refine wpSt_nil ?_
   intro w3 hb3
   go_wp2_with fail
   exact bodyPost_ret (v := .tuple #[.int .i64 (K : Int), .int .i64 (K : Int)]) (by simp [results, Tryz.results40, go_sem]) rfl ⟨by rw [E1.out], bseq hw2 hb3⟩
  ·have p1 : ((K : Int) < (U : Int)) = False := by simp; omega
   have p2 : (K < U) = False := by simp; omega
   have e1 := (HMN.out U).2 q2
   have E1 := Lib.hid e1
   clear e1 q2
   refine wp_region_steady (fun w' => Below w2.heap.size w2 w') (by kernel_rfl) (by kernel_rfl) (Below.drew (Below.refl _ _)) ?_
   repeat ((first
    | (refine wpSt_read (v := ?_) (by rfl) (fun w6 hSw => ?_) ?_; rotate_left; (· (obtain ⟨y0, y1⟩ := HS.out _ hSw; go_simp; try with_reducible rfl)))
    | refine wpSt_not (by rfl) ?_
    | (refine wpSt_call (f := ?_) (args := ?_) (v := .int .i64 (U : Int)) (by rfl) (fun w6 hSw => ?_) (fun w6 hSw => ?_) ?_; rotate_left 2; (· (obtain ⟨y0, y1⟩ := HS.out _ hSw; go_simp; first | done | (constructor <;> with_reducible rfl) | with_reducible rfl)); (· ((with_reducible refine (HOA.out _ (bseq hw2 hSw)).mono ?_); rintro e w5 ⟨rfl, hb5⟩; exact ⟨rfl, bseq hSw hb5⟩)))); (try simp only [Act.put, pA, pB, pC]))
   refine wpSt_nil ?_
   intro w3 hb3
   go_wp2_with fail
   exact bodyPost_ret (v := .tuple #[.int .i64 (U : Int), .int .i64 (U : Int)]) (by simp [results, Tryz.results40, go_sem]) rfl ⟨by rw [E1.out], bseq hw2 hb3⟩
end
def spc (l : List Int) (n : Nat) : Nat -> Nat
 | 0 => 0
 | m + 1 => if n < l.length /\ l.getD n 0 = 32 then spc l (n + 1) m + 1 else 0
def ldStep (l : List Int) (n : Nat) : Nat := if n < l.length /\ l.getD n 0 = 9 then n + 1 else n + spc l n 4
def ldF (l : List Int) : Nat -> Nat -> Nat
 | 0, n => n
 | k + 1, n => if ldStep l n = n then n else ldF l k (ldStep l n)
theorem spc_le (l : List Int) : ∀ (m n : Nat), n <= l.length -> n + spc l n m <= l.length := by
 intro m
 induction m with
 | zero => intro n h; simpa [spc] using h
 | succ m ih =>
  intro n h
  unfold spc
  split
  ·rename_i h1
   have := ih (n + 1) (by omega)
   omega
  ·simpa using h
theorem ldStep_le (l : List Int) (n : Nat) (h : n <= l.length) : n <= ldStep l n /\ ldStep l n <= l.length := by
 unfold ldStep
 split
 ·omega
 ·have := spc_le l 4 n h
  omega
theorem ldF_le (l : List Int) : ∀ (k n : Nat), n <= l.length -> ldF l k n <= l.length := by
 intro k
 induction k with
 | zero => intro n h; exact h
 | succ k ih =>
  intro n h
  unfold ldF
  split
  ·exact h
  ·exact ih _ (ldStep_le l n h).2
def LeadR (l : List Int) (K : Nat) (w : World) (k : Nat) (q5 q8 : Value) (wr : World) : Prop :=
 ∃ r n : Nat, q5 = .int .i64 (n : Int) /\ q8 = .int .i64 (r : Int) /\ r <= K /\ K - r <= k /\ n <= l.length /\ Hid (ldF l (K - r) n = ldF l K 0) /\ wr = w
def LeadR2 (l : List Int) (n : Nat) (w : World) (k : Nat) (q5 : Value) (wr : World) : Prop :=
 ∃ J : Nat, q5 = .int .i64 (J : Int) /\ n <= J /\ J <= n + 4 /\ n + 4 - J <= k /\ J <= l.length /\ Hid (spc l n 4 = (J - n) + spc l J (n + 4 - J)) /\ wr = w
theorem lead_any (D : Nat -> Prop) (A : Option Addr) (N c K : Nat) (l : List Int) (w : World) (hl : Ints w D A N l) (hN : N <= 1073741824) (hK : K <= 1073741824) :
  Calls Tryz.prog 45 #[.slice A N c, .int .i64 (K : Int)] w fun e w' => e = .returned (.int .i64 (ldF l K 0 : Int)) /\ w' = w := by
 have hln := hl.len
 have HLN := Lib.hid hln
 obtain ⟨R, hR⟩ : ∃ R, ldF l K 0 = R := ⟨_, rfl⟩
 have HRR := Lib.hid hR
 rw [hR]
 clear hR hln
 go_enter Tryz.func45, Tryz.ntmps45
 go_wp2_with fail
 go_loopg [5, 8] K (fun k q5 q8 wr => LeadR l K w k q5 q8 wr)
 case atStart => exact ⟨0, 0, rfl, rfl, Nat.zero_le _, by omega, Nat.zero_le _, Lib.hid rfl, rfl⟩
 case round =>
  obtain ⟨r, n, rfl, rfl, hr, hk, hn, hinv, rfl⟩ := hrel
  rw [HLN.out] at hn
  by_cases hgo : r < K
  ·have q1 : ((r : Int) < (K : Int)) = True := by simp; omega
   have wr1 : IntKind.i64.wrap ((r : Int) + 1) = ((r + 1 : Nat) : Int) := by rw [IntWalk.i64_in _ (by omega)]; omega
   have hst : ldF l (K - r) n = if ldStep l n = n then n else ldF l (K - (r + 1)) (ldStep l n) := by
    rw [show K - r = (K - (r + 1)) + 1 by omega]
    rfl
   have HST := Lib.hid hst
   clear hst
   go_upto_block 2 with fail
   go_cut [5] (fun s wx => s = .int .i64 (ldStep l n : Int) /\ wx = wr)
   case first =>
    by_cases hnl : n < N
    ·obtain ⟨ad, rfl, _, cx⟩ := Ints.at_ hl hnl
     obtain ⟨x, hx⟩ : ∃ x, l.getD n 0 = x := ⟨_, rfl⟩
     rw [hx] at cx
     have HX := Lib.hid hx
     have q2 : ((n : Int) < (N : Int)) = True := by simp; omega
     have wn : IntKind.i64.wrap ((n : Int) + 1) = ((n + 1 : Nat) : Int) := by rw [IntWalk.i64_in _ (by omega)]; omega
     by_cases h9 : x = 9
     ·subst h9
      have hs : ldStep l n = n + 1 := by unfold ldStep; rw [if_pos ⟨by rw [HLN.out]; exact hnl, hx⟩]
      have HS := Lib.hid hs
      clear hx hs
      go_wp2_with fail
      go_meet
      exact ⟨by rw [HS.out]; simp, rfl⟩
     ·have q3 : (x == 9) = false := by rw [beq_eq_false_iff_ne]; exact h9
      have hs : ldStep l n = n + spc l n 4 := by unfold ldStep; rw [if_neg (fun h => h9 (hx ▸ h.2))]
      have HS := Lib.hid hs
      clear hx hs
      go_wp2_with fail
      go_loopg [5] 4 (fun k q5 wr' => LeadR2 l n wr k q5 wr')
      case atStart => exact ⟨n, rfl, Nat.le_refl _, by omega, by omega, by rw [HLN.out]; exact hn, Lib.hid (by rw [Nat.sub_self, show n + 4 - n = 4 by omega, Nat.zero_add]), rfl⟩
      case round =>
       obtain ⟨J, rfl, hJ1, hJ2, hk, hnj, hsp, rfl⟩ := hrel
       rw [HLN.out] at hnj
       have wn4 : IntKind.i64.wrap ((n : Int) + 4) = (n : Int) + 4 := IntWalk.i64_in _ (by omega)
       by_cases g1 : J < N
       ·have r1 : ((J : Int) < (N : Int)) = True := by simp; omega
        by_cases g2 : J < n + 4
        ·have r2 : ((J : Int) < (n : Int) + 4) = True := by simp; omega
         obtain ⟨ad', hA', _, cy⟩ := Ints.at_ hl g1
         injection hA' with hA'
         subst hA'
         obtain ⟨y, hy⟩ : ∃ y, l.getD J 0 = y := ⟨_, rfl⟩
         rw [hy] at cy
         have wj : IntKind.i64.wrap ((J : Int) + 1) = ((J + 1 : Nat) : Int) := by rw [IntWalk.i64_in _ (by omega)]; omega
         have hu : spc l J (n + 4 - J) = if y = 32 then spc l (J + 1) (n + 4 - (J + 1)) + 1 else 0 := by
          rw [show n + 4 - J = (n + 4 - (J + 1)) + 1 by omega]
          show (if J < l.length /\ l.getD J 0 = 32 then spc l (J + 1) (n + 4 - (J + 1)) + 1 else 0) = _
          rw [hy]
          by_cases h32 : y = 32
          ·rw [if_pos ⟨by rw [HLN.out]; exact g1, h32⟩, if_pos h32]
          ·rw [if_neg (fun h => h32 h.2), if_neg h32]
         have HU := Lib.hid hu
         by_cases h32 : y = 32
         ·subst h32
          clear hy hu
          go_wp2_with fail
          go_roundg (n + 4 - (J + 1))
          case measure => omega
          case rel =>
           refine ⟨J + 1, rfl, by omega, by omega, by omega, by rw [HLN.out]; omega, Lib.hid ?_, rfl⟩
           rw [hsp.out, HU.out, if_pos trivial]
           omega
         ·have q5 : (y == 32) = false := by rw [beq_eq_false_iff_ne]; exact h32
          have hval : ldStep l n = J := by
           rw [HS.out, hsp.out, HU.out, if_neg h32]
           omega
          have HVAL := Lib.hid hval
          clear hy hu hval
          go_wp2_with fail
          go_meet
          exact ⟨by rw [HVAL.out], rfl⟩
        ·have r2 : ((J : Int) < (n : Int) + 4) = False := by simp; omega
         have hval : ldStep l n = J := by
          rw [HS.out, hsp.out, show n + 4 - J = 0 by omega]
          show n + (J - n + 0) = J
          omega
         have HVAL := Lib.hid hval
         clear hval
         go_wp2_with fail
         go_meet
         exact ⟨by rw [HVAL.out], rfl⟩
       ·have r1 : ((J : Int) < (N : Int)) = False := by simp; omega
        have hz : ∀ m, spc l J m = 0 := fun m => by
         cases m with
         | zero => rfl
         | succ m =>
          unfold spc
          rw [if_neg (fun h => by have := HLN.out; omega)]
        have hval : ldStep l n = J := by
         rw [HS.out, hsp.out, hz]
         omega
        have HVAL := Lib.hid hval
        clear hz hval
        go_wp2_with fail
        go_meet
        exact ⟨by rw [HVAL.out], rfl⟩
    ·have q2 : ((n : Int) < (N : Int)) = False := by simp; omega
     have hs : ldStep l n = n := by
      have e0 : spc l n 4 = 0 := by
       unfold spc
       rw [if_neg (fun h => by have := HLN.out; omega)]
      unfold ldStep
      rw [if_neg (fun h => by have := HLN.out; omega), e0]
      rfl
     have HS := Lib.hid hs
     clear hs
     go_wp2_with fail
     go_loopg [5] 1 (fun k q5 wr' => q5 = .int .i64 (n : Int) /\ wr' = wr)
     case atStart => exact ⟨rfl, rfl⟩
     case round =>
      obtain ⟨rfl, rfl⟩ := hrel
      go_wp2_with fail
      go_meet
      exact ⟨by rw [HS.out], rfl⟩
   case rest =>
    obtain ⟨rfl, rfl⟩ := hcut
    have hle := ldStep_le l n (by rw [HLN.out]; exact hn)
    rw [HLN.out] at hle
    obtain ⟨n', hn'⟩ : ∃ n', ldStep l n = n' := ⟨_, rfl⟩
    rw [hn'] at HST hle ⊢
    clear hn'
    by_cases hs : n' = n
    ·subst hs
     have h1 := HST.out
     rw [if_pos rfl, hinv.out, HRR.out] at h1
     have HI := Lib.hid h1
     clear h1
     go_wp2_with fail
     go_ret
     exact ⟨ret_i (by rw [HI.out]), rfl⟩
    ·have q4 : ((n' : Int) == (n : Int)) = false := by rw [beq_eq_false_iff_ne]; omega
     have h1 := HST.out
     rw [if_neg hs, hinv.out] at h1
     have HI := Lib.hid h1
     clear h1
     go_wp2_with fail
     go_roundg (K - (r + 1))
     case measure => omega
     case rel => exact ⟨r + 1, n', rfl, by simp, by omega, by omega, by rw [HLN.out]; omega, Lib.hid HI.out.symm, rfl⟩
  ·have q1 : ((r : Int) < (K : Int)) = False := by simp; omega
   have hinv' := hinv.out
   rw [show K - r = 0 by omega, HRR.out] at hinv'
   have HI : n = R := hinv'
   have HI := Lib.hid HI
   clear hinv'
   go_wp2_with fail
   go_ret
   exact ⟨ret_i (by rw [HI.out]), rfl⟩
def tabs (s : Nat) : List Int := List.replicate s 9
theorem tabs_len (s : Nat) : (tabs s).length = s := List.length_replicate ..
theorem tabs_mem {s : Nat} {x : Int} (h : x ∈ tabs s) : x = 9 := List.eq_of_mem_replicate h
def shE (ds : List (Int × Int)) (k : Int) (i : Nat) : List (Int × Int × List Int) :=
 if k < 0 then (if 0 < ldF (cont ds i) (-k).toNat 0 then [((lineF ds i).from_, (lineF ds i).from_ + (ldF (cont ds i) (-k).toNat 0 : Int), [])] else [])
 else if (lineF ds i).from_ < (lineF ds i).to_ then [((lineF ds i).from_, (lineF ds i).from_, tabs k.toNat)] else []
def shL (ds : List (Int × Int)) (k : Int) (f m : Nat) : List (Int × Int × List Int) := (List.range' f m).flatMap (shE ds k)
theorem shL_succ (ds : List (Int × Int)) (k : Int) (f m : Nat) : shL ds k f (m + 1) = shL ds k f m ++ shE ds k (f + m) := by
 unfold shL
 rw [List.range'_1_concat, List.flatMap_append, List.flatMap_cons, List.flatMap_nil, List.append_nil]
theorem shL_cons (ds : List (Int × Int)) (k : Int) (f m : Nat) : shL ds k f (m + 1) = shE ds k f ++ shL ds k (f + 1) m := by
 unfold shL
 rw [List.range'_succ, List.flatMap_cons]
theorem shE_one {ds : List (Int × Int)} (hp : PosD ds) {k : Int} {i : Nat} (hi : i <= totE ds) : shE ds k i = [] \/ ∃ t v, shE ds k i = [((lineF ds i).from_, t, v)] /\ (lineF ds i).from_ <= t /\ t <= (lineF ds i).to_ /\ (v = [] \/ (0 <= k /\ t = (lineF ds i).from_ /\ v = tabs k.toNat)) := by
 have hbd := lineF_bd hp hi
 have hc := cont_len hp hi
 unfold shE
 by_cases hk : k < 0
 ·rw [if_pos hk]
  split
  ·have := ldF_le (cont ds i) (-k).toNat 0 (Nat.zero_le _)
   exact .inr ⟨_, _, rfl, by omega, by omega, .inl rfl⟩
  ·exact .inl rfl
 ·rw [if_neg hk]
  split
  ·exact .inr ⟨_, _, rfl, by omega, by omega, .inr ⟨by omega, rfl, rfl⟩⟩
  ·exact .inl rfl
theorem shL_right {ds : List (Int × Int)} {k : Int} (hk : 0 <= k) (f m : Nat) : shL ds k f m = (psF ds f m).map (fun p : Nat => ((p : Int), (p : Int), tabs k.toNat)) := by
 unfold shL psF
 rw [List.map_flatMap]
 congr 1
 funext i
 unfold shE
 rw [if_neg (by omega)]
 have := line_from ds i
 split
 ·rw [List.map_cons, List.map_nil, show (((lineF ds i).from_.toNat : Nat) : Int) = (lineF ds i).from_ by omega]
 ·rfl
theorem shL_len {ds : List (Int × Int)} (hp : PosD ds) (k : Int) (f : Nat) : ∀ m, f + m <= totE ds + 1 -> (shL ds k f m).length <= m := by
 intro m
 induction m with
 | zero => intro _; exact Nat.le_refl _
 | succ m ih =>
  intro h
  rw [shL_succ, List.length_append]
  have h1 := ih (by omega)
  rcases shE_one hp (k := k) (i := f + m) (by omega) with h2 | ⟨t, v, h2, _⟩
  ·rw [h2]; simp; omega
  ·rw [h2]; simp; omega
theorem sh_ord {ds : List (Int × Int)} (hp : PosD ds) (k : Int) : ∀ (m f : Nat) (a : Int) (es : List Ed), es.map abE = shL ds k f m -> f + m <= totE ds + 1 -> (0 < m -> a <= (lineF ds f).from_) -> ordF a ds.length es = true := by
 intro m
 induction m with
 | zero =>
  intro f a es he _ _
  have : es = [] := by simpa [shL] using he
  subst this
  rfl
 | succ m ih =>
  intro f a es he hm ha
  have hbd := lineF_bd hp (i := f) (by omega)
  have hnx : 0 < m -> (lineF ds f).to_ <= (lineF ds (f + 1)).from_ := fun h0 => by
   have := (line_form hp (i := f) (by omega)).2.2 (by omega)
   omega
  rw [shL_cons] at he
  rcases shE_one hp (k := k) (i := f) (by omega) with h2 | ⟨t, v, h2, h3, h4, _⟩
  ·rw [h2, List.nil_append] at he
   exact ih (f + 1) a es he (by omega) (fun h0 => by have := ha (by omega); have := hnx h0; omega)
  ·rw [h2, List.singleton_append] at he
   cases es with
   | nil => cases he
   | cons e es =>
    rw [List.map_cons] at he
    injection he with he1 he2
    unfold abE at he1
    injection he1 with e1 he1
    injection he1 with e2 e3
    have := ha (by omega)
    unfold ordF
    rw [e1, e2, if_neg (by omega)]
    exact ih (f + 1) t es he2 (by omega) (fun h0 => by have := hnx h0; omega)
theorem sh_mem {ds : List (Int × Int)} (hp : PosD ds) {k : Int} {f m : Nat} (hm : f + m <= totE ds + 1) {es : List Ed} (he : es.map abE = shL ds k f m) : ∀ e ∈ es, e.put = [] \/ (0 <= k /\ e.t = e.f /\ e.put = tabs k.toNat) := by
 intro e hin
 have h1 : abE e ∈ shL ds k f m := he ▸ List.mem_map_of_mem hin
 unfold shL at h1
 obtain ⟨i, hi, h2⟩ := List.mem_flatMap.1 h1
 rw [List.mem_range'_1] at hi
 rcases shE_one hp (k := k) (i := i) (by omega) with h3 | ⟨t, v, h3, _, _, h4⟩
 ·rw [h3] at h2; cases h2
 ·rw [h3, List.mem_singleton] at h2
  unfold abE at h2
  injection h2 with e1 h2
  injection h2 with e2 e3
  rcases h4 with h4 | ⟨h4, h5, h6⟩
  ·left; rw [e3, h4]
  ·right; exact ⟨h4, by omega, by rw [e3, h6]⟩
theorem szA_tab {enc : Int} (he : enc = 1 \/ enc = 2 \/ enc = 3 \/ enc = 4) : 1 <= szA enc 9 /\ szA enc 9 <= 2 := by
 rcases he with rfl | rfl | rfl | rfl <;> decide
theorem szL_tabs (enc : Int) (s : Nat) : szL_ enc (tabs s) = (s : Int) * szA enc 9 := by
 unfold szL_ tabs
 rw [List.map_replicate]
 induction s with
 | zero => simp
 | succ s ih =>
  rw [List.replicate_succ, List.sum_cons, ih, Int.natCast_add, Int.add_mul]
  omega
theorem sh_fit {enc : Int} (hE : enc = 1 \/ enc = 2 \/ enc = 3 \/ enc = 4) {ds : List (Int × Int)} (hp : PosD ds) {k : Int} {f m : Nat} (hm : f + m <= totE ds + 1) {es : List Ed} (he : es.map abE = shL ds k f m) : fitF enc es = true := by
 have ht := szA_tab hE
 unfold fitF
 rw [List.all_eq_true]
 intro e hin
 unfold fitP
 rw [List.all_eq_true]
 intro x hx
 rcases sh_mem hp hm he e hin with h | ⟨_, _, h⟩
 ·rw [h] at hx; cases hx
 ·rw [h] at hx
  rw [tabs_mem hx]
  simp
  omega
theorem sh_putB_left {enc : Int} {ds : List (Int × Int)} (hp : PosD ds) {k : Int} (hk : k < 0) {f m : Nat} (hm : f + m <= totE ds + 1) {es : List Ed} (he : es.map abE = shL ds k f m) : putB enc es = 0 /\ putN es = 0 := by
 have h1 := sh_mem hp hm he
 clear he
 induction es with
 | nil => exact ⟨rfl, rfl⟩
 | cons e r ih =>
  have h2 := ih (fun e he => h1 e (List.mem_cons_of_mem _ he))
  have h3 : e.put = [] := by
   rcases h1 e List.mem_cons_self with h | ⟨h, _⟩
   ·exact h
   ·omega
  rw [putB_cons, h2.1, h3]
  have h4 := h2.2
  unfold putN at h4 ⊢
  rw [List.map_cons, List.sum_cons, h4, h3]
  exact ⟨rfl, rfl⟩
theorem sh_right {enc : Int} {ds : List (Int × Int)} {s : Nat} {f m : Nat} {es : List Ed} (he : es.map abE = shL ds (s : Int) f m) : es.length = (psF ds f m).length /\ putB enc es = (es.length : Int) * ((s : Int) * szA enc 9) /\ remB ds es = 0 /\ putN es = es.length * s := by
 rw [shL_right (by omega)] at he
 have hl := congrArg List.length he
 rw [List.length_map, List.length_map] at hl
 have hall : ∀ e ∈ es, e.f = e.t /\ e.put = tabs s := fun e hin => by
  have h1 : abE e ∈ (psF ds f m).map (fun p : Nat => ((p : Int), (p : Int), tabs (s : Int).toNat)) := he ▸ List.mem_map_of_mem hin
  obtain ⟨p, _, h2⟩ := List.mem_map.1 h1
  unfold abE at h2
  injection h2 with e1 h2
  injection h2 with e2 e3
  exact ⟨by omega, by rw [<- e3]; rfl⟩
 refine ⟨hl, ?_⟩
 clear he hl
 induction es with
 | nil => exact ⟨by simp [putB], rfl, by simp [putN]⟩
 | cons e r ih =>
  have h2 := ih (fun e he => hall e (List.mem_cons_of_mem _ he))
  have h3 := hall e List.mem_cons_self
  refine ⟨?_, ?_, ?_⟩
  ·rw [putB_cons, h2.1, h3.2, szL_tabs, List.length_cons, Int.natCast_add, Int.add_mul]
   omega
  ·have h4 := h2.2.1
   unfold remB at h4 ⊢
   rw [List.map_cons, List.sum_cons, h4]
   unfold rem1
   rw [if_neg (by omega)]
   rfl
  ·have h4 := h2.2.2
   unfold putN at h4 ⊢
   rw [List.map_cons, List.sum_cons, h4, h3.2, tabs_len, List.length_cons, Nat.add_mul]
   omega
theorem sum_bytes {ds : List (Int × Int)} (hp : PosD ds) : (sumsOf ds).bytes = szS ds := by
 have := szS_bytes hp ds.length
 rwa [List.take_length] at this
theorem sh_ref_right {enc lim : Int} (hE : enc = 1 \/ enc = 2 \/ enc = 3 \/ enc = 4) {ds : List (Int × Int)} (hp : PosD ds) (hl : ds.length <= 65536) {s f m : Nat} (hm : f + m <= totE ds + 1) {es : List Ed} (he : es.map abE = shL ds (s : Int) f m) :
  refF enc lim ds es = if lim < szS ds + (psF ds f m).length * ((s : Int) * szA enc 9) then 50 else 0 := by
 have hte : totE ds <= 65536 := Nat.le_trans (cntE_le _ _) hl
 have h1 := shL_len hp (s : Int) f m hm
 have hlen := congrArg List.length he
 rw [List.length_map] at hlen
 obtain ⟨h2, h3, h4, _⟩ := sh_right (enc := enc) he
 unfold refF
 rw [if_neg (by omega), if_neg (by rw [sh_ord hp _ m f 0 es he hm (fun _ => by have := line_from ds f; omega)]; decide), if_neg (by rw [sh_fit hE hp hm he]; decide), h3, h4, h2, sum_bytes hp]
 simp only [Int.sub_zero]
theorem sh_ref_left {enc lim : Int} (hE : enc = 1 \/ enc = 2 \/ enc = 3 \/ enc = 4) {ds : List (Int × Int)} (hp : PosD ds) (hl : ds.length <= 65536) (hsz : szS ds <= lim) {k : Int} (hk : k < 0) {f m : Nat} (hm : f + m <= totE ds + 1) {es : List Ed} (he : es.map abE = shL ds k f m) :
  refF enc lim ds es = 0 := by
 have hte : totE ds <= 65536 := Nat.le_trans (cntE_le _ _) hl
 have h1 := shL_len hp k f m hm
 have hlen := congrArg List.length he
 rw [List.length_map] at hlen
 have hord := sh_ord hp k m f 0 es he hm (fun _ => by have := line_from ds f; omega)
 have h2 := (sh_putB_left (enc := enc) hp hk hm he).1
 have h3 := remB_ge hp es 0 hord (Int.le_refl _)
 unfold refF
 rw [if_neg (by omega), if_neg (by rw [hord]; decide), if_neg (by rw [sh_fit hE hp hm he]; decide), h2, sum_bytes hp, if_neg (by omega)]
theorem ofF_mono (ds : List (Int × Int)) {x y : Int} (h : x <= y) : ofF ds x <= ofF ds y := by
 unfold ofF
 exact cntE_mono _ (by omega)
theorem rowIx_mono (ds : List (Int × Int)) {x y : Int} (h : x <= y) : rowIx ds x false <= rowIx ds y false := by
 have := ofF_mono ds h
 unfold rowIx
 simp only [Bool.false_eq_true, if_false]
 omega
theorem next_sk {ds : List (Int × Int)} (hp : PosD ds) {i : Nat} (hi : i < totE ds) : (lineF ds i).next = (sk ds (i + 1) : Int) := by
 rw [((line_form hp (Nat.le_of_lt hi)).2.2 hi).2, line_from]
theorem last_line {ds : List (Int × Int)} {i : Nat} (hi : totE ds <= i) : (lineF ds i).to_ = ds.length /\ (lineF ds i).next = ds.length := by
 unfold lineF
 rw [if_neg (by omega)]
 exact ⟨rfl, rfl⟩
theorem rowIx_in {ds : List (Int × Int)} (hp : PosD ds) {i : Nat} (hi : i < countF ds) {x : Int} (h1 : (lineF ds i).from_ <= x) (h2 : x < (lineF ds i).next \/ x = (lineF ds i).from_) : rowIx ds x false = i := by
 have hct := @countF_pos ds
 have hit : i <= totE ds := by omega
 have hs := sk_cnt hp hit
 have hfr := line_from ds i
 have hbd := lineF_bd hp hit
 have h3 : ofF ds x = i := by
  unfold ofF
  have e : min x.toNat ds.length = x.toNat := by omega
  rw [e]
  have g1 := cntE_mono (ds.map Prod.fst) (show sk ds i <= x.toNat by omega)
  rw [hs.2.1] at g1
  rcases Nat.lt_or_ge i (totE ds) with h4 | h4
  ·have g2 := sk_spec hp (k := i + 1) (by omega) h4
   have g3 := next_sk hp h4
   have g4 := sk_lt hp h4
   have g5 := cntE_lt (ds.map Prod.fst) (show x.toNat < sk ds (i + 1) by omega) g2.2.1
   omega
  ·have g2 : cntE (ds.map Prod.fst) x.toNat <= totE ds := cntE_mono _ (by omega)
   omega
 unfold rowIx
 simp only [Bool.false_eq_true, if_false, h3]
 omega
theorem line_some {ds : List (Int × Int)} (hp : PosD ds) {i : Nat} (hi : i < countF ds) (h0 : 0 < i) : (lineF ds i).from_ < (lineF ds i).next := by
 have hct := @countF_pos ds
 rcases Nat.lt_or_ge i (totE ds) with h1 | h1
 ·have := sk_lt hp h1
  have := next_sk hp h1
  have := line_from ds i
  omega
 ·have hi2 : i = totE ds := by omega
  have h2 := last_line (ds := ds) h1
  have h3 := line_from ds i
  have h4 := sk_mono hp h0 (Nat.le_of_eq hi2)
  have h5 := sk_cnt hp (k := i) (by omega)
  rcases Nat.lt_or_ge (sk ds i) ds.length with h6 | h6
  ·omega
  ·exfalso
   have : endB ds = true := by
    unfold endB
    rw [decide_eq_true_eq, <- hi2]
    omega
   unfold countF at hi
   rw [if_pos this] at hi
   omega
theorem from_mono {ds : List (Int × Int)} (hp : PosD ds) {f l : Nat} (hfl : f <= l) (hl : l <= totE ds) : (lineF ds f).from_ <= (lineF ds l).from_ := by
 rw [line_from, line_from]
 rcases Nat.lt_or_ge f l with h | h
 ·have := sk_mono hp h hl
  omega
 ·rw [show f = l by omega]
  exact Int.le_refl _
theorem rows_right {ds : List (Int × Int)} (hp : PosD ds) {f l : Nat} (hfl : f <= l) (hl : l < countF ds) : rowIx ds (lineF ds f).from_ false = f /\ rowIx ds (max (lineF ds f).from_ ((lineF ds l).next - 1)) false = l := by
 have hct := @countF_pos ds
 refine ⟨rowIx_in hp (by omega) (Int.le_refl _) (.inr rfl), ?_⟩
 have hfm := from_mono hp hfl (by omega)
 have hbd := lineF_bd hp (i := l) (by omega)
 rcases ilt_or_ge (lineF ds l).from_ (lineF ds l).next with h1 | h1
 ·rw [show max (lineF ds f).from_ ((lineF ds l).next - 1) = (lineF ds l).next - 1 by omega]
  exact rowIx_in hp hl (by omega) (.inl (by omega))
 ·rcases Nat.eq_zero_or_pos l with h0 | h0
  ·have : f = l := by omega
   subst this
   rw [show max (lineF ds f).from_ ((lineF ds f).next - 1) = (lineF ds f).from_ by omega]
   exact rowIx_in hp hl (Int.le_refl _) (.inr rfl)
  ·have := line_some hp hl h0
   omega
theorem ldF_nil (k n : Nat) : ldF [] k n = n := by
 cases k with
 | zero => rfl
 | succ k =>
  have : ldStep [] n = n := by
   unfold ldStep
   rw [if_neg (by simp)]
   simp [spc]
  unfold ldF
  rw [this, if_pos rfl]
theorem shE_empty {ds : List (Int × Int)} (hp : PosD ds) {k : Int} {i : Nat} (hi : i <= totE ds) (h : (lineF ds i).to_ = (lineF ds i).from_) : shE ds k i = [] := by
 have hc := cont_len hp hi
 have hc0 : cont ds i = [] := List.eq_nil_of_length_eq_zero (by omega)
 unfold shE
 split
 ·rw [hc0, ldF_nil, if_neg (by omega)]
 ·rw [if_neg (by omega)]
theorem rows_left {ds : List (Int × Int)} (hp : PosD ds) {f l : Nat} (hfl : f <= l) (hl : l < countF ds) : ∃ L, rowIx ds (max (lineF ds f).from_ ((lineF ds l).to_ - 1)) false = L /\ f <= L /\ L <= l /\ ∀ k, shL ds k f (L + 1 - f) = shL ds k f (l + 1 - f) := by
 have hct := @countF_pos ds
 have hfm := from_mono hp hfl (by omega)
 have hbd := lineF_bd hp (i := l) (by omega)
 rcases ilt_or_ge (lineF ds l).from_ (lineF ds l).to_ with h1 | h1
 ·refine ⟨l, ?_, hfl, Nat.le_refl _, fun _ => rfl⟩
  rw [show max (lineF ds f).from_ ((lineF ds l).to_ - 1) = (lineF ds l).to_ - 1 by omega]
  exact rowIx_in hp hl (by omega) (.inl (by omega))
 ·rcases Nat.lt_or_ge f l with h2 | h2
  ·have h3 := (line_form hp (i := l - 1) (by omega)).2.2 (by omega)
   rw [show l - 1 + 1 = l by omega] at h3
   have h4 := from_mono hp (show f <= l - 1 by omega) (by omega)
   have h5 := lineF_bd hp (i := l - 1) (by omega)
   refine ⟨l - 1, ?_, by omega, by omega, ?_⟩
   ·rw [show max (lineF ds f).from_ ((lineF ds l).to_ - 1) = (lineF ds l).to_ - 1 by omega]
    exact rowIx_in hp (by omega) (by omega) (.inl (by omega))
   ·intro k
    rw [show l + 1 - f = (l - 1 + 1 - f) + 1 by omega, shL_succ, show f + (l - 1 + 1 - f) = l by omega, shE_empty hp (by omega) (by omega), List.append_nil]
  ·have : f = l := by omega
   subst this
   refine ⟨f, ?_, Nat.le_refl _, Nat.le_refl _, fun _ => rfl⟩
   rw [show max (lineF ds f).from_ ((lineF ds f).to_ - 1) = (lineF ds f).from_ by omega]
   exact rowIx_in hp hl (Int.le_refl _) (.inr rfl)
theorem ldF_tabs (C : List Int) (s : Nat) : ∀ (k n : Nat), n + k <= s -> ldF (tabs s ++ C) k n = n + k := by
 intro k
 induction k with
 | zero => intro n _; rfl
 | succ k ih =>
  intro n h
  have h1 : ldStep (tabs s ++ C) n = n + 1 := by
   unfold ldStep
   rw [if_pos]
   refine ⟨by rw [List.length_append, tabs_len]; omega, ?_⟩
   rw [List.getD_eq_getElem?_getD, List.getElem?_append_left (by rw [tabs_len]; omega)]
   unfold tabs
   rw [List.getElem?_replicate, if_pos (by omega)]
   rfl
  unfold ldF
  rw [h1, if_neg (by omega), ih (n + 1) (by omega)]
  omega
section
variable {ds ds' : List (Int × Int)} (hp : PosD ds) (hp' : PosD ds') {f l s : Nat} (hfl : f <= l) (hl : l <= totE ds) (hs : 0 < s)
include hp hl hs hfl in
theorem ins_ok : InsOk (fun q => decide (q ∈ psF ds f (l + 1 - f))) (tabs s) (ds.map Prod.fst) := by
 refine ⟨fun p h => ?_, fun x hx => ?_, by rw [tabs_len]; exact hs⟩
 ·have := psF_at hp (f := f) (m := l + 1 - f) (by omega) (of_decide_eq_true h)
  rw [List.length_map]
  exact this
 ·rw [tabs_mem hx]
  decide
variable (hd : ds'.map Prod.fst = insP (fun q => decide (q ∈ psF ds f (l + 1 - f))) (tabs s) 0 (ds.map Prod.fst))
include hp hp' hfl hl hs hd
theorem shift_back : ∀ m, f + m <= l + 1 -> shL ds' (-(s : Int)) f m = (psF ds f m).map (fun p => ((phi (fun q => decide (q ∈ psF ds f (l + 1 - f))) (tabs s) (ds.map Prod.fst) p : Int), ((phi (fun q => decide (q ∈ psF ds f (l + 1 - f))) (tabs s) (ds.map Prod.fst) p + (tabs s).length : Nat) : Int), [])) := by
 have ho := ins_ok hp hfl hl hs
 intro m
 induction m with
 | zero => intro _; rfl
 | succ m ih =>
  intro hm
  rw [shL_succ, psF_succ, List.map_append, ih (by omega)]
  congr 1
  have hi : f + m <= totE ds := by omega
  have hlp := line_phi hp hp' ho hd hi
  have hbd := lineF_bd hp hi
  have hbd' := lineF_bd hp' (i := f + m) (by rw [tot_phi ho hd]; exact hi)
  have hcl' := cont_len hp' (i := f + m) (by rw [tot_phi ho hd]; exact hi)
  have hlf := line_from ds (f + m)
  unfold shE
  rw [if_pos (by omega), show (-(-(s : Int))).toNat = s by omega]
  by_cases h1 : (lineF ds (f + m)).from_ < (lineF ds (f + m)).to_
  ·have hcp := cont_phi hp hp' ho hd hi (fun q h2 h3 => by
    rw [decide_eq_false_iff_not]
    intro h4
    obtain ⟨j, h5, h6, h7, h8⟩ := psF_mem.1 h4
    have h9 := line_from ds j
    rcases Nat.lt_or_ge (f + m) j with h10 | h10
    ·have h11 := from_mono hp (f := f + m + 1) (l := j) h10 (by omega)
     have h12 := (line_form hp hi).2.2 (by omega)
     omega
    ·have h11 := from_mono hp (f := j) (l := f + m) h10 hi
     omega)
   rw [if_pos (decide_eq_true (psF_mem.2 ⟨f + m, by omega, by omega, h1, rfl⟩))] at hcp
   rw [if_pos h1, hcp, ldF_tabs _ s s 0 (by omega), if_pos (by omega), hlp, tabs_len]
   simp
  ·have h2 : (lineF ds (f + m)).to_ = (lineF ds (f + m)).from_ := by omega
   have hc0 : cont ds' (f + m) = [] := by
    rw [hlp, h2] at hcl'
    dsimp only at hcl'
    exact List.eq_nil_of_length_eq_zero (by omega)
   rw [if_neg h1, hc0, ldF_nil, if_neg (by omega)]
   rfl
theorem shifted_gone {es : List Ed} (he : es.map abE = shL ds' (-(s : Int)) f (l + 1 - f)) : edL (fun x => x) es (ds'.map Prod.fst) = ds.map Prod.fst := by
 rw [shift_back hp hp' hfl hl hs hd (l + 1 - f) (by omega)] at he
 rw [hd, edL_del _ _ _ _ es 0 he (Nat.zero_le _) (fun q _ => decide_eq_true_iff) (psF_sorted hp f _ (by omega)) (fun q hq => ⟨Nat.zero_le _, by rw [List.length_map]; exact (psF_at hp (by omega) hq).1⟩)]
 rfl
end
theorem shifted_right {ds : List (Int × Int)} (hp : PosD ds) {f l s : Nat} (hfl : f <= l) (hl : l <= totE ds) {es : List Ed} (he : es.map abE = shL ds (s : Int) f (l + 1 - f)) :
  edL (fun x => x) es (ds.map Prod.fst) = insP (fun q => decide (q ∈ psF ds f (l + 1 - f))) (tabs s) 0 (ds.map Prod.fst) := by
 rw [shL_right (by omega)] at he
 rw [edL_ins _ (tabs s) _ _ es 0 he (Nat.zero_le _) (fun q _ => decide_eq_true_iff) (psF_sorted hp f _ (by omega)) (fun q hq => ⟨Nat.zero_le _, by rw [List.length_map]; exact (psF_at hp (by omega) hq).1⟩)]
 rfl
theorem insP_congr {P Q : Nat -> Bool} {u : List Int} : ∀ (A : List Int) (j : Nat), (∀ q, j <= q -> q < j + A.length -> P q = Q q) -> insP P u j A = insP Q u j A := by
 intro A
 induction A with
 | nil => intro j _; rfl
 | cons x r ih =>
  intro j h
  rw [List.length_cons] at h
  rw [insP_cons, insP_cons, h j (Nat.le_refl _) (by omega), ih (j + 1) (fun q h1 h2 => h q (by omega) (by omega))]
theorem edL_map {α β : Type} (f : Int -> α) (g : α -> β) : ∀ (es : List Ed) (l : List α), (edL f es l).map g = edL (fun x => g (f x)) es (l.map g) := by
 intro es
 induction es with
 | nil => intro l; rfl
 | cons e r ih =>
  intro l
  rw [edL_cons, edL_cons, <- ih l]
  unfold ed1
  rw [List.map_append, List.map_append, List.map_take, List.map_drop, List.map_map]
  rfl
theorem edA_edL (es : List Ed) (l : List (Int × Int)) : (edA es l).map Prod.fst = edL (fun x => x) es (l.map Prod.fst) := edL_map _ _ es l
theorem sizedA_ed (enc : Int) (es : List Ed) (ats : List (Int × Int)) : sizedA enc (edA es ats) = edD enc es (sizedA enc ats) := by
 have h1 : ∀ l : List (Int × Int), sizedA enc l = (l.map Prod.fst).map (fun x => (x, szA enc x)) := fun l => by
  unfold sizedA withSz
  first | rfl | simp
 rw [h1, h1, edA_edL, edL_map]
 rfl
theorem sized_fits {enc lim : Int} {es : List Ed} {ats : List (Int × Int)} (hp : PosD (sizedA enc ats)) (h : refF enc lim (sizedA enc ats) es = 0) (hl : lim <= 65536) (hs : szS (sizedA enc ats) <= 65536) : szS (sizedA enc (edA es ats)) <= lim := by
 rw [sizedA_ed]
 exact (refF_ok hp h hl hs).2.2.2.2
section
variable {enc : Int} {ats : List (Int × Int)} (hp : PosD (sizedA enc ats)) {f l s : Nat} (hfl : f <= l) (hl : l < countF (sizedA enc ats)) {es : List Ed} (he : es.map abE = shL (sizedA enc ats) (s : Int) f (l + 1 - f))
include hp hfl hl he
theorem shift_ins : (edA es ats).map Prod.fst = insP (fun q => decide (q ∈ psF (sizedA enc ats) f (l + 1 - f))) (tabs s) 0 (ats.map Prod.fst) := by
 have hct := @countF_pos (sizedA enc ats)
 have h1 := shifted_right hp hfl (by omega) he
 rw [sizedA_fst] at h1
 rw [edA_edL, h1]
theorem shift_there : (edA es ats).map Prod.fst = insP (bgnF (ats.map Prod.fst) (lineF (sizedA enc ats) f).from_ (lineF (sizedA enc ats) l).to_) (tabs s) 0 (ats.map Prod.fst) := by
 have hct := @countF_pos (sizedA enc ats)
 rw [shift_ins hp hfl hl he]
 refine insP_congr _ _ (fun q _ hq => ?_)
 have h1 := psF_bgn hp hfl (show l <= totE (sizedA enc ats) by omega) (q := q) (by rw [sizedA_len]; rw [List.length_map] at hq; omega)
 rw [sizedA_fst] at h1
 rw [Bool.eq_iff_iff, decide_eq_true_iff]
 exact h1.symm
theorem shift_home (hp' : PosD (sizedA enc (edA es ats))) (hs : 0 < s) : countF (sizedA enc (edA es ats)) = countF (sizedA enc ats) /\
  ∀ es2 : List Ed, es2.map abE = shL (sizedA enc (edA es ats)) (-(s : Int)) f (l + 1 - f) -> (edA es2 (edA es ats)).map Prod.fst = ats.map Prod.fst := by
 have hct := @countF_pos (sizedA enc ats)
 have hlt : l <= totE (sizedA enc ats) := by omega
 have hd : (sizedA enc (edA es ats)).map Prod.fst = insP (fun q => decide (q ∈ psF (sizedA enc ats) f (l + 1 - f))) (tabs s) 0 ((sizedA enc ats).map Prod.fst) := by
  rw [sizedA_fst, sizedA_fst]
  exact shift_ins hp hfl hl he
 refine ⟨count_phi hp hp' (ins_ok hp hfl hlt hs) hd, fun es2 he2 => ?_⟩
 have h1 := shifted_gone hp hp' hfl hlt hs hd he2
 rw [sizedA_fst, sizedA_fst] at h1
 rw [edA_edL, h1]
end
theorem bgnF_step {A : List Int} {F T : Int} {u : List Int} {i : Nat} {x : Int} (hi : i < A.length) (hx : A.getD i 0 = x) : insP (bgnF A F T) u 0 (A.take (i + 1)) = insP (bgnF A F T) u 0 (A.take i) ++ ((if bgnF A F T i = true then u else []) ++ [x]) := by
 rw [List.take_succ_eq_append_getElem hi, insP_app, List.length_take, Nat.min_eq_left (by omega), Nat.zero_add, insP_cons]
 have : A[i] = x := by
  rw [List.getD_eq_getElem?_getD, List.getElem?_eq_getElem hi] at hx
  simpa using hx
 rw [this]
 rfl
theorem insP_len (P : Nat -> Bool) (u : List Int) : ∀ (l : List Int) (j : Nat), (insP P u j l).length <= l.length * (u.length + 1) := by
 intro l
 induction l with
 | nil => intro j; simp [insP]
 | cons x r ih =>
  intro j
  have := ih (j + 1)
  rw [insP_cons, List.length_append, List.length_cons, List.length_cons, Nat.add_mul]
  split
  ·omega
  ·simp; omega
def repeatL (l : List Int) : Nat -> List Int
 | 0 => []
 | k + 1 => repeatL l k ++ l
theorem repeatL_len (l : List Int) (k : Nat) : (repeatL l k).length = k * l.length := by
 induction k with
 | zero => simp [repeatL]
 | succ k ih => unfold repeatL; rw [List.length_append, ih, Nat.add_mul]; omega
def RepR (l : List Int) (K : Nat) (w : World) (k : Nat) (q5 q12 : Value) (wr : World) : Prop :=
 ∃ r : Nat, q12 = .int .i64 (r : Int) /\ r <= K /\ K - r <= k /\ Hid (wr.ownsRow w.heap.size 3 1 q5 (repeatL l r).length ((repeatL l r).map (Value.int .i64))) /\ Below w.heap.size w wr
theorem repeated_any (D : Nat -> Prop) (A : Option Addr) (N c K : Nat) (l : List Int) (w : World) (hl : Ints w D A N l) (hN : N * K <= 268435456) (hN1 : N <= 1073741824) (hK : K <= 1073741824) :
  Calls Tryz.prog 47 #[.slice A N c, .int .i64 (K : Int)] w (NewInts (repeatL l K) w) := by
 have hln := hl.len
 have HLN := Lib.hid hln
 obtain ⟨i0, hi0, hz0, hz1, hz2⟩ := info_parts int_info
 have HII := Lib.hid hi0
 have HL := Lib.hid hl
 have wm : IntKind.i64.wrap ((N : Int) * (K : Int)) = ((N * K : Nat) : Int) := by
  have : (N : Int) * (K : Int) = ((N * K : Nat) : Int) := by rw [Int.natCast_mul]
  rw [this]
  exact IntWalk.i64_in _ (by omega)
 have hmul : ∀ r, r <= K -> (repeatL l r).length <= 268435456 := fun r hr => by
  rw [repeatL_len, hln]
  have h := Nat.mul_le_mul hr (Nat.le_refl N)
  rw [Nat.mul_comm K N] at h
  omega
 obtain ⟨M, hM⟩ : ∃ M, N * K = M := ⟨_, rfl⟩
 rw [hM] at wm hN
 have HMUL := Lib.hid hmul
 clear hl hln hM hmul hi0
 go_enter Tryz.func47, Tryz.ntmps47
 go_wp2_with (at_make; refine wpList_make_own _ rfl _ _ 35 rfl w.heap.size 3 i0 (.int .i64 0) 1 Tryz.underlying35 HII.out hz0 hz1 _ _ _ M rfl rfl rfl (by rw [hz2]; omega) (by unfold maxLen; omega) (Nat.le_refl _) ?_)
 intro w1 ho1 hg1
 have hb1 : Below w.heap.size w w1 := below_grown hg1
 have HO1 := Lib.hid ho1
 clear ho1 hg1
 go_wp2_with fail
 go_loopg [5, 12] K (fun k q5 q12 wr => RepR l K w k q5 q12 wr)
 case atStart => exact ⟨0, rfl, Nat.zero_le _, by omega, HO1, hb1⟩
 case round =>
  obtain ⟨r, rfl, hr, hk, ho, hb⟩ := hrel
  by_cases hgo : r < K
  ·have q1 : ((r : Int) < (K : Int)) = True := by simp; omega
   have wr1 : IntKind.i64.wrap ((r : Int) + 1) = ((r + 1 : Nat) : Int) := by rw [IntWalk.i64_in _ (by omega)]; omega
   have hl1 : (repeatL l (r + 1)).length = (repeatL l r).length + N := by
    rw [repeatL_len, repeatL_len, HLN.out, Nat.add_mul]
    omega
   have hle := HMUL.out (r + 1) hgo
   rw [hl1] at hle
   have hs := hb.size
   have HL1 := Lib.hid hl1
   clear hl1
   go_wp2_with (at_builtin; refine wpList_append_all _ rfl (.tmp 14) (.tmp 15) 35 rfl w.heap.size 3 i0 (.int .i64 0) 1 8 Tryz.underlying35 HII.out hz0 hz1 hz2 rfl (by decide) u5 (repeatL l r).length _ rfl ho.out D A N c (l.map (Value.int .i64)) rfl (Reads.below HL.out hb) (by intro u hu; obtain ⟨x, _, rfl⟩ := List.mem_map.1 hu; rfl) (by unfold maxLen; omega) (by omega) hs ?_)
   intro v1 w2 ho2 hg2 _
   have hb2 : Below w.heap.size w w2 := below_grown2 hb hg2 (fun k hk => own_ge ho.out hk)
   have HO2 := Lib.hid ho2
   clear ho2 hg2
   go_wp2_with fail
   go_roundg (K - (r + 1))
   case measure => omega
   case rel =>
    refine ⟨r + 1, rfl, by omega, by omega, Lib.hid ?_, hb2⟩
    rw [HL1.out, show repeatL l (r + 1) = repeatL l r ++ l from rfl, List.map_append]
    exact HO2.out
  ·have q1 : ((r : Int) < (K : Int)) = False := by simp; omega
   have hrK : r = K := by omega
   have ho' := ho.out
   rw [hrK] at ho'
   have HO := Lib.hid ho'
   clear ho' ho hrK
   go_wp2_with fail
   go_ret
   exact ⟨_, rfl, HO.out, hb⟩
section
variable {B gd gb g n : Nat} {enc lim : Int} {st : BkS} {dc : Array Value} {w : World}
theorem fits_ok (h : DeskIs w B gd gb g enc lim n st dc) (more : Int) (hm : 0 <= more /\ more <= 2147483647) (hle : szS (sizedA enc st.ats) + more <= 65536) :
  Calls Tryz.prog 46 #[.pointer (some ⟨gd, 0, none⟩), .int .i64 more] w fun e w' => e = .returned (.tuple #[]) /\ Below w.heap.size w w' := by
 have hsz := size_any Any g enc (sizedA enc st.ats) w h.at_
 have hpos := szS_pos h.pos
 have hby : (sumsOf (sizedA enc st.ats)).bytes = szS (sizedA enc st.ats) := by
  have := szS_bytes h.pos (sizedA enc st.ats).length
  rwa [List.take_length] at this
 rw [hby] at hsz
 obtain ⟨S, hS⟩ : ∃ S, szS (sizedA enc st.ats) = S := ⟨_, rfl⟩
 rw [hS] at hsz hle hpos
 have HT := Lib.hid (text_desk h)
 have HSZ := Lib.hid hsz
 have wm : IntKind.i64.wrap (S + more) = S + more := IntWalk.i64_in _ (by omega)
 have q : (65536 < S + more) = False := by simp; omega
 clear h hsz hby hS
 go_enter Tryz.func46, Tryz.ntmps46
 go_wp2_with fail
 refine (HT.out).mono ?_
 rintro e w1 ⟨rfl, rfl⟩
 go_wp2_with fail
 refine (HSZ.out).mono ?_
 rintro e w2 ⟨rfl, hb⟩
 go_wp2_with fail
 show bodyPost _ _ _ _ _ _
 refine bodyPost_end (results_none rfl _ _ _) rfl ?_
 exact ⟨rfl, hb⟩
theorem fits_bad (h : DeskIs w B gd gb g enc lim n st dc) (more : Int) (hm : 0 <= more /\ more <= 2147483647) (hle : 65536 < szS (sizedA enc st.ats) + more) :
  Calls Tryz.prog 46 #[.pointer (some ⟨gd, 0, none⟩), .int .i64 more] w fun e w' => e = .panicked [errPanic 50] /\ Below w.heap.size w w' := by
 have hsz := size_any Any g enc (sizedA enc st.ats) w h.at_
 have hpos := szS_pos h.pos
 have hs6 := h.sz.1
 have hby : (sumsOf (sizedA enc st.ats)).bytes = szS (sizedA enc st.ats) := by
  have := szS_bytes h.pos (sizedA enc st.ats).length
  rwa [List.take_length] at this
 rw [hby] at hsz
 obtain ⟨S, hS⟩ : ∃ S, szS (sizedA enc st.ats) = S := ⟨_, rfl⟩
 rw [hS] at hsz hle hpos hs6
 have HT := Lib.hid (text_desk h)
 have HSZ := Lib.hid hsz
 have wm : IntKind.i64.wrap (S + more) = S + more := IntWalk.i64_in _ (by omega)
 have q : (65536 < S + more) = True := by simp; omega
 clear h hsz hby hS
 go_enter Tryz.func46, Tryz.ntmps46
 go_wp2_with fail
 refine (HT.out).mono ?_
 rintro e w1 ⟨rfl, rfl⟩
 go_wp2_with fail
 refine (HSZ.out).mono ?_
 rintro e w2 ⟨rfl, hb⟩
 go_wp2_with fail
 exact ⟨rfl, rfl, hb⟩
end
theorem edit_info : (Tryz.prog.info? 96).map (fun i => (i.zero, i.size, i.bytes)) = some (some (.agg #[.int .i64 0, .int .i64 0, .slice none 0 0]), 3, 40) := by kernel_rfl
theorem edit_row : ∃ i z, Tryz.prog.info? 96 = some i /\ i.zero = some z /\ i.size = 3 /\ i.bytes = 40 /\ z.cells.size = 3 := by
 obtain ⟨i, h1, h2, h3, h4⟩ := info_parts edit_info
 exact ⟨i, _, h1, h2, h3, h4, rfl⟩
theorem edit_one (a b : Int) (A : Option Addr) (n c : Nat) : ∀ u ∈ [Value.int .i64 a, .int .i64 b, .slice A n c], u.oneCell' = true := by
 intro u hu
 simp at hu
 rcases hu with rfl | rfl | rfl <;> rfl
theorem jcells4 {w : World} {g : Nat} {T : TypeId} {a0 a1 a2 a3 : Value} (h : Blk w g T #[a0, a1, a2, a3]) : (w.cell? ⟨g, 0, none⟩ = some a0 /\ w.cell? ⟨g, 1, none⟩ = some a1 /\ w.cell? ⟨g, 2, none⟩ = some a2 /\ w.cell? ⟨g, 3, none⟩ = some a3) /\
  w.frozen? ⟨g, 0, none⟩ = false /\ w.frozen? ⟨g, 1, none⟩ = false /\ w.frozen? ⟨g, 2, none⟩ = false /\ w.frozen? ⟨g, 3, none⟩ = false := ⟨⟨h.cell 0, h.cell 1, h.cell 2, h.cell 3⟩, h.frozen 0, h.frozen 1, h.frozen 2, h.frozen 3⟩
def PutI (w : World) (base : Nat) (e : Ed) : Prop := Ints w (fun b => base <= b /\ ∃ cs, Blk w b 3 cs) e.A e.n e.put
theorem PutI.ints {w : World} {base : Nat} {e : Ed} (h : PutI w base e) : Ints w (fun b => base <= b /\ ∃ cs, Blk w b 3 cs) e.A e.n e.put := h
theorem PutI.fr {w w' : World} {base : Nat} {e : Ed} {S : Nat -> Prop} (h : PutI w base e) (hf : Fr S w w') (hS : ∀ b, b < w.heap.size -> S b -> ¬ ∃ cs, Blk w b 3 cs) : PutI w' base e := by
 have h0 : Ints w (fun b => base <= b /\ ∃ cs, Blk w b 3 cs) e.A e.n e.put := h
 have h1 : Ints w' (fun b => b < w.heap.size /\ base <= b /\ ∃ cs, Blk w b 3 cs) e.A e.n e.put := Reads.fr (Reads.more h0 (D' := fun b => b < w.heap.size /\ base <= b /\ ∃ cs, Blk w b 3 cs) (fun b hb hlt => ⟨hlt, hb⟩) (by decide)) hf (fun b hb hlt hs => hS b hlt hs hb.2.2)
 exact Reads.more h1 (D' := fun b => base <= b /\ ∃ cs, Blk w' b 3 cs) (fun b hb _ => by
  obtain ⟨hlt, hle, cs, hb⟩ := hb
  exact ⟨hle, cs, hb.fr hf (fun hs => hS b hlt hs ⟨cs, hb⟩)⟩) (by decide)
theorem PutI.bel {w w' : World} {base : Nat} {e : Ed} (h : PutI w base e) (hb : Below w.heap.size w w') : PutI w' base e := h.fr (S := fun _ => False) (Fr.of_below hb) (fun _ _ hs => hs.elim)
theorem PutI.nil {w : World} {base : Nat} {e : Ed} (h1 : e.put = []) (h2 : e.n = 0) : PutI w base e := by
 unfold PutI
 rw [h1, h2]
 exact ⟨rfl, fun h => absurd h (by omega)⟩
theorem PutI.of_own {w : World} {base n c : Nat} {A : Option Addr} {f t : Int} {xs : List Int} (h : w.ownsRow base 3 1 (.slice A n c) n (xs.map (Value.int .i64))) : PutI w base ⟨f, t, A, n, c, xs⟩ := by
 refine ⟨h.1, fun hk => ?_⟩
 rcases h.2 with ⟨e0, h0⟩ | ⟨r, c', cur, e1, hb, hr, h1, h2, h3, h4⟩
 ·dsimp only at hk
  omega
 ·have hA : A = some ⟨r, 0, none⟩ := by injection e1
  obtain ⟨ad, e2, _, hc⟩ := (Reads.of_own h).2 hk
  rw [hA] at e2
  injection e2 with e2
  refine ⟨ad, by dsimp only; rw [hA, e2], ⟨?_, cur, ?_⟩, hc⟩
  ·rw [<- e2]
   exact hb
  ·rw [<- e2]
   exact hr
structure EdsS (w : World) (base : Nat) (v : Value) (es : List Ed) : Prop where
 row : w.ownsRow base 96 3 v es.length (es.flatMap fun e => e.cells.toList)
 put : ∀ e ∈ es, PutI w base e
theorem EdsS.eds {w : World} {base k c : Nat} {A : Option Addr} {es : List Ed} (h : EdsS w base (.slice A k c) es) (hk : es.length = k) : EdsAt w (fun b => base <= b /\ ((∃ cs, Blk w b 3 cs) \/ ∃ cs, Blk w b 96 cs)) A k es := by
 subst hk
 refine ⟨⟨h.row.1, fun hk => ?_⟩, fun e he => Reads.more (h.put e he).ints (fun b hb _ => ⟨hb.1, .inl hb.2⟩) (by decide)⟩
 rcases h.row.2 with ⟨_, h0⟩ | ⟨r, c', cur, e1, hb, hr, h1, h2, h3, h4⟩
 ·omega
 ·have hA : A = some ⟨r, 0, none⟩ := by injection e1
  obtain ⟨ad, e2, _, hc⟩ := (Reads.of_own h.row).2 hk
  rw [hA] at e2
  injection e2 with e2
  refine ⟨ad, by rw [hA, e2], ⟨?_, .inr ⟨cur, ?_⟩⟩, hc⟩
  ·rw [<- e2]
   exact hb
  ·rw [<- e2]
   exact hr
theorem EdsS.bel {w w' : World} {base : Nat} {v : Value} {es : List Ed} (h : EdsS w base v es) (hb : Below w.heap.size w w') : EdsS w' base v es :=
 ⟨own_bel h.row hb, fun e he => (h.put e he).fr (S := fun _ => False) (Fr.of_below hb) (fun _ _ hs => hs.elim)⟩
theorem EdsS.snoc {w w1 w2 : World} {base : Nat} {v v' : Value} {es : List Ed} {e : Ed} (h : EdsS w base v es) (hb : Below w.heap.size w w1) (hp : PutI w1 base e)
  (hg : w1.grownBy w2 v.ownBlock) (ho : w2.ownsRow base 96 3 v' (es.length + 1) ((es.flatMap fun e => e.cells.toList) ++ e.cells.toList)) : EdsS w2 base v' (es ++ [e]) := by
 have hF : Fr (OwnB v) w1 w2 := (Fr.refl _ w1).grown hg (fun k hk _ => hk)
 have hn : ∀ b, b < w1.heap.size -> OwnB v b -> ¬ ∃ cs, Blk w1 b 3 cs := fun b _ hs ⟨cs, hc⟩ => own_blk_ne (own_bel h.row hb) hc (by decide) hs
 refine ⟨?_, fun x hx => ?_⟩
 ·rw [List.length_append, List.flatMap_append]
  simpa using ho
 ·rcases List.mem_append.1 hx with hx | hx
  ·exact ((h.bel hb).put x hx).fr hF hn
  ·rw [List.mem_singleton] at hx
   subst hx
   exact hp.fr hF hn
theorem EdsS.nil (w : World) (base : Nat) : EdsS w base (.slice none 0 0) [] := ⟨World.ownsRow_nil _ _ _ _, fun e he => by cases he⟩
theorem psF_len_mono (ds : List (Int × Int)) (f : Nat) {j m : Nat} (h : j <= m) : (psF ds f j).length <= (psF ds f m).length := by
 induction m with
 | zero => rw [show j = 0 by omega]; exact Nat.le_refl _
 | succ m ih =>
  rcases Nat.lt_or_ge m j with h1 | h1
  ·rw [show j = m + 1 by omega]; exact Nat.le_refl _
  ·have := ih h1
   rw [psF_succ, List.length_append]
   omega
theorem repeatL_tab (s : Nat) : repeatL [9] s = tabs s := by
 induction s with
 | zero => rfl
 | succ s ih =>
  unfold repeatL
  rw [ih]
  unfold tabs
  rw [List.replicate_succ']
def ShR (ds : List (Int × Int)) (k tb S : Int) (f l : Nat) (w : World) (m : Nat) (q6 q8 : Value) (wr : World) : Prop :=
 ∃ (j i : Nat) (es : List Ed), q8 = .int .i64 (i : Int) /\ Hid (i = f + j) /\ Hid (EdsS wr w.heap.size q6 es) /\ Hid (es.map abE = shL ds k f j) /\ Hid (0 <= k -> S + (es.length : Int) * (k * tb) <= 65536) /\ f + j <= l + 1 /\ l + 1 - (f + j) <= m /\ Below w.heap.size w wr
theorem ShR.same {ds : List (Int × Int)} {k tb S : Int} {f l : Nat} {w : World} {m j i : Nat} {q6 : Value} {es : List Ed} {wr w2 : World} (hi : i = f + j) (hE : EdsS wr w.heap.size q6 es) (he : es.map abE = shL ds k f j) (hS : 0 <= k -> S + (es.length : Int) * (k * tb) <= 65536)
  (hb : Below w.heap.size w wr) (hb2 : Below wr.heap.size wr w2) (hil : i <= l) (hm : l + 1 - (f + (j + 1)) <= m) (hsh : shE ds k i = []) : ShR ds k tb S f l w m q6 (.int .i64 ((i + 1 : Nat) : Int)) w2 := by
 refine ⟨j + 1, i + 1, es, rfl, Lib.hid (by omega), Lib.hid (hE.bel hb2), Lib.hid ?_, Lib.hid hS, by omega, hm, bseq hb hb2⟩
 rw [shL_succ, <- hi, hsh, List.append_nil]
 exact he
theorem ShR.more {ds : List (Int × Int)} {k tb S : Int} {f l : Nat} {w : World} {m j i : Nat} {q6 : Value} {es : List Ed} {e : Ed} {w2 : World} (hi : i = f + j) (hE : EdsS w2 w.heap.size q6 (es ++ [e])) (he : es.map abE = shL ds k f j) (hS : 0 <= k -> S + ((es.length : Int) + 1) * (k * tb) <= 65536)
  (hb : Below w.heap.size w w2) (hil : i <= l) (hm : l + 1 - (f + (j + 1)) <= m) (hsh : shE ds k i = [abE e]) : ShR ds k tb S f l w m q6 (.int .i64 ((i + 1 : Nat) : Int)) w2 := by
 refine ⟨j + 1, i + 1, es ++ [e], rfl, Lib.hid (by omega), Lib.hid hE, Lib.hid ?_, Lib.hid (fun h => ?_), by omega, hm, hb⟩
 ·rw [shL_succ, <- hi, hsh, List.map_append, he]
  rfl
 ·rw [List.length_append]
  exact hS h
def stepsF (s : Int) : Int := min (max s (-9999)) 9999
def IntsW (w : World) (v : Value) (n : Nat) (l : List Int) : Prop := ∃ A c, v = .slice A n c /\ IntsI w A n l
theorem IntsW.at_ {w : World} {A : Option Addr} {n m c : Nat} {l : List Int} (h : IntsW w (.slice A n c) m l) : n = m /\ IntsI w A n l := by
 obtain ⟨A', c', e, h⟩ := h
 injection e with e1 e2 e3
 subst e1 e2
 exact ⟨rfl, h⟩
theorem IntsW.form {w : World} {v : Value} {n : Nat} {l : List Int} (h : IntsW w v n l) : ∃ A c, v = .slice A n c := by
 obtain ⟨A, c, rfl, _⟩ := h
 exact ⟨A, c, rfl⟩
theorem IntsW.one (w : World) (x : Int) : IntsW (w.alloc (.cells #[.int .i64 x] 3)) (.slice (some ⟨w.heap.size, 0, none⟩) 1 1) 1 [x] := by
 refine ⟨_, _, rfl, rfl, fun _ => ⟨_, rfl, ⟨_, Blk.new w _ _⟩, fun j u hu => ?_⟩⟩
 cases j with
 | zero =>
  rw [add_cell, (Blk.new w 3 #[.int .i64 x]).cell]
  simpa using hu
 | succ j => simp at hu
def PutV (w : World) (base : Nat) (v : Value) (n : Nat) (l : List Int) : Prop := ∃ A c, v = .slice A n c /\ PutI w base ⟨0, 0, A, n, c, l⟩
theorem PutV.at_ {w : World} {base : Nat} {A : Option Addr} {n m c : Nat} {f t : Int} {l : List Int} (h : PutV w base (.slice A n c) m l) : n = m /\ PutI w base ⟨f, t, A, n, c, l⟩ := by
 obtain ⟨A', c', e, h⟩ := h
 injection e with e1 e2 e3
 subst e1 e2
 exact ⟨rfl, h⟩
theorem PutV.form {w : World} {base : Nat} {v : Value} {n : Nat} {l : List Int} (h : PutV w base v n l) : ∃ A c, v = .slice A n c := by
 obtain ⟨A, c, rfl, _⟩ := h
 exact ⟨A, c, rfl⟩
theorem PutV.of_new {w w' : World} {base : Nat} {e : Ending} {l : List Int} (h : NewInts l w e w') (hb : base <= w.heap.size) : ∃ v, e = .returned v /\ PutV w' base v l.length l /\ Below w.heap.size w w' := by
 obtain ⟨v, rfl, ho, hbl⟩ := h
 obtain ⟨A, c, rfl, _⟩ := own_slice ho
 have h1 : PutI w' w.heap.size ⟨0, 0, A, l.length, c, l⟩ := PutI.of_own ho
 refine ⟨_, rfl, ⟨A, c, rfl, ?_⟩, hbl⟩
 exact Reads.more (D' := fun b => base <= b /\ ∃ cs, Blk w' b 3 cs) h1.ints (fun b hb' _ => ⟨Nat.le_trans hb hb'.1, hb'.2⟩) (by decide)
theorem lfield0 (a b c d : Int) (w : World) : (Instr.field 47 (.agg #[.int .i64 a, .int .i64 b, .int .i64 c, .int .i64 d]) 0).run Tryz.prog w = .ok (.int .i64 a) w := by kernel_rfl
def Shift1Post (B gd gb g b2 : Nat) (enc lim : Int) (n : Nat) (st : BkS) (o : OpS) (dc : Array Value) (k : Int) (f l : Nat) (w : World) (e : Ending) (w' : World) : Prop :=
 (∃ (es : List Ed) (x : Int), es.map abE = shL (sizedA enc st.ats) k f (l + 1 - f) /\ refF enc lim (sizedA enc st.ats) es = 0 /\ (∃ i, HereAt (sizedA enc (edA es st.ats)) (lineF (sizedA enc st.ats) f).from_ i /\ SignAt (sizedA enc (edA es st.ats)) i x) /\
  e = .returned (.int .i64 x) /\ DeskIs w' B gd gb g enc lim (n + 131072) { st with ats := edA es st.ats, now := some { o with moves := o.moves ++ [es.map mvOf], changed := o.changed || es.any chg } } dc /\ DFr B (· = b2) w w') \/
 (0 < k /\ lim < szS (sizedA enc st.ats) + ((psF (sizedA enc st.ats) f (l + 1 - f)).length : Int) * (k * szA enc 9) /\ e = .panicked [errPanic 50] /\ DeskIs w' B gd gb g enc lim n st dc /\ DFr B (· = b2) w w')
theorem shift1_any (B gd gb g n b0 b1 b2 : Nat) (enc lim a b kd steps : Int) (st : BkS) (o : OpS) (dc : Array Value) (w : World) (h : DeskIs w B gd gb g enc lim n st dc) (hn : st.now = some o) (hom : o.moves.length < 1048576)
  (k0 : Blk w b0 25 #[.pointer (some ⟨gd, 0, none⟩)]) (k1 : Blk w b1 53 #[.int .i64 a, .int .i64 b, .int .i64 kd]) (k2 : Blk w b2 3 #[.int .i64 steps])
  (hk : kd = 0 \/ kd = 1) (ha : 0 <= a /\ a <= b /\ b <= (st.ats.length : Int)) (hst : steps ≠ 0) (hsz : szS (sizedA enc st.ats) <= lim) (hnn : n + 131072 <= 1073741824) :
  Calls Tryz.prog 38 #[.pointer (some ⟨b0, 0, none⟩), .pointer (some ⟨b1, 0, none⟩), .pointer (some ⟨b2, 0, none⟩)] w (Shift1Post B gd gb g b2 enc lim n st o dc (stepsF steps) (rowIx (sizedA enc st.ats) a false) (rowIx (sizedA enc st.ats) (max a (b - 1)) false) w) := by
 have hp := h.pos
 have hlen : (sizedA enc st.ats).length <= 65536 := by rw [sizedA_len]; exact h.len
 have hte : totE (sizedA enc st.ats) <= 65536 := Nat.le_trans (cntE_le _ _) hlen
 have hE4 := h.enc4
 have hs6 := h.sz
 have hspos := szS_pos hp
 have htab := szA_tab hE4
 have HCK := Lib.hid (checked_ok h a b kd hk ha)
 have HRW := Lib.hid (fun (w' : World) (hb : Below w.heap.size w w') => rows_desk (h.below hb) a b kd ha)
 have hfl := rowIx_mono (sizedA enc st.ats) (show a <= max a (b - 1) by omega)
 have hll := rowIx_le (sizedA enc st.ats) (max a (b - 1)) false
 unfold Shift1Post
 obtain ⟨f, hf⟩ : ∃ f, rowIx (sizedA enc st.ats) a false = f := ⟨_, rfl⟩
 obtain ⟨l, hl⟩ : ∃ l, rowIx (sizedA enc st.ats) (max a (b - 1)) false = l := ⟨_, rfl⟩
 rw [hf, hl] at HRW hfl
 rw [hl] at hll
 rw [hf, hl]
 obtain ⟨k, hkk⟩ : ∃ k, stepsF steps = k := ⟨_, rfl⟩
 rw [hkk]
 have hk0 : k ≠ 0 /\ -9999 <= k /\ k <= 9999 := by
  rw [<- hkk]
  unfold stepsF
  omega
 have HKK := Lib.hid hkk
 have HH := Lib.hid h
 have HN := Lib.hid hn
 have HOM := Lib.hid hom
 have HB := Lib.hid (And.intro k0 (And.intro k1 k2))
 have hcw : ∀ w', Below w.heap.size w w' -> w'.cell? ⟨b0, 0, none⟩ = some (.pointer (some ⟨gd, 0, none⟩)) /\ w'.cell? ⟨b1, 0, none⟩ = some (.int .i64 a) /\ w'.cell? ⟨b1, 1, none⟩ = some (.int .i64 b) /\ w'.cell? ⟨b1, 2, none⟩ = some (.int .i64 kd) /\ w'.cell? ⟨b2, 0, none⟩ = some (.int .i64 steps) /\ w'.frozen? ⟨b2, 0, none⟩ = false := fun w' hb =>
  ⟨(k0.below hb).cell 0, (k1.below hb).cell 0, (k1.below hb).cell 1, (k1.below hb).cell 2, (k2.below hb).cell 0, (k2.below hb).frozen 0⟩
 have HCW := Lib.hid hcw
 obtain ⟨y0, y1, y2, y3, y4, y5⟩ := hcw w (Below.refl _ _)
 clear h hn hom k0 k1 k2 hcw hf hl hkk hk ha
 go_enter Tryz.func38, Tryz.ntmps38
 go_wp2_with fail
 refine (HCK.out).mono ?_
 rintro e w1 ⟨rfl, hb1⟩
 obtain ⟨y0, y1, y2, y3, y4, y5⟩ := HCW.out w1 hb1
 go_wp2_with fail
 refine (HRW.out _ hb1).mono ?_
 rintro e w2 ⟨rfl, hb2⟩
 have hb12 := bseq hb1 hb2
 clear y0 y1 y2 y3 y4 y5
 obtain ⟨y0, y1, y2, y3, y4, y5⟩ := HCW.out w2 hb12
 go_upto_region 3 with fail
 go_cut [] (fun wx => wx = w2.setCell ⟨b2, 0, none⟩ (.int .i64 k))
 case first =>
  by_cases h1 : steps < -9999
  ·have p1 : (steps < -9999) = True := by simp; exact h1
   have e1 : k = -9999 := by rw [<- HKK.out]; unfold stepsF; omega
   subst e1
   clear h1
   go_wp2_with fail
   go_meet
   rfl
  ·have p1 : (steps < -9999) = False := by simp; omega
   by_cases h2 : 9999 < steps
   ·have p2 : (9999 < steps) = True := by simp; exact h2
    have e1 : k = 9999 := by rw [<- HKK.out]; unfold stepsF; omega
    subst e1
    clear h1 h2
    go_wp2_with fail
    go_meet
    rfl
   ·have p2 : (9999 < steps) = False := by simp; omega
    have e1 : k = steps := by rw [<- HKK.out]; unfold stepsF; omega
    subst e1
    clear h1 h2
    go_wp2_with fail
    go_meet
    rfl
 case rest =>
  have hwc := hcut
  clear hcut
  obtain ⟨k0, k1, k2⟩ := HB.out
  have k22 := k2.below hb12
  have hF3 : Fr (· = b2) w2 (w2.setCell ⟨b2, 0, none⟩ (.int .i64 k)) := (Fr.refl _ _).set1 0 _
  have hd3 := (HH.out.below hb12).alien hF3 (fun q _ hq => ⟨fun e => Blk.ne_ k22 (HH.out.below hb12).desk (by decide) (hq.symm.trans e), _, _, hq ▸ k22, by decide⟩)
  have k23 := (k22.set_ 0 (.int .i64 k)).eq_ (show _ = #[.int .i64 k] by simp)
  have k03 := (k0.below hb12).fr hF3 (fun e => Blk.ne_ (k0.below hb12) k22 (by decide) e)
  have hD3 : DFr B (· = b2) w (w2.setCell ⟨b2, 0, none⟩ (.int .i64 k)) := (DFr.of_below hb12).trans (DFr.of_x hF3)
  rw [<- hwc] at hd3 k23 k03 hD3
  clear hwc hF3 k22 k0 k1 k2 HB HCW y0 y1 y2 y3 y4 y5 HCK HRW
  obtain ⟨w3, hw3⟩ : ∃ x, wc = x := ⟨_, rfl⟩
  rw [hw3] at hd3 k23 k03 hD3 ⊢
  clear hw3
  have hHB : ∀ w', Below w3.heap.size w3 w' -> w'.cell? ⟨b0, 0, none⟩ = some (.pointer (some ⟨gd, 0, none⟩)) /\ w'.cell? ⟨b2, 0, none⟩ = some (.int .i64 k) := fun w' hb => ⟨(k03.below hb).cell 0, (k23.below hb).cell 0⟩
  have HHB := Lib.hid hHB
  have HK03 := Lib.hid k03
  have HT := Lib.hid (fun (w' : World) (hb : Below w3.heap.size w3 w') => text_desk (hd3.below hb))
  have HEN := Lib.hid (tenc_any Any g enc (sizedA enc st.ats) w3 hd3.at_)
  have HTB := Lib.hid (csize_any enc 9 w3 hE4)
  have HLI := Lib.hid (fun (w' : World) (hb : Below w3.heap.size w3 w') (i : Nat) (hi : i <= totE (sizedA enc st.ats)) => line_desk (hd3.below hb) i hi)
  have HAT := Lib.hid (fun (w' : World) (hb : Below w3.heap.size w3 w') (x y : Int) (hx : 0 <= x) (hy : y <= 65536) => tatoms_any Any g enc (sizedA enc st.ats) x y w' (hd3.below hb).at_ (by omega) (by omega))
  have HFO := Lib.hid (fun (w' : World) (hb : Below w3.heap.size w3 w') => fits_ok (hd3.below hb))
  have HFB := Lib.hid (fun (w' : World) (hb : Below w3.heap.size w3 w') => fits_bad (hd3.below hb))
  have HD3 := Lib.hid hd3
  have HDF3 := Lib.hid hD3
  obtain ⟨ds, hds⟩ : ∃ ds, sizedA enc st.ats = ds := ⟨_, rfl⟩
  rw [hds] at hp hlen hte hs6 hspos hll HLI HAT HFO HFB hsz
  obtain ⟨S, hS⟩ : ∃ S, szS ds = S := ⟨_, rfl⟩
  rw [hS] at hs6 hspos HFO HFB
  obtain ⟨tb, htb⟩ : ∃ tb, szA enc 9 = tb := ⟨_, rfl⟩
  rw [htb] at HTB htab
  have HDS := Lib.hid hds
  have HS := Lib.hid hS
  have HTBE := Lib.hid htb
  have HP := Lib.hid hp
  have HSZ := Lib.hid hsz
  have HLEN := Lib.hid hlen
  obtain ⟨ie, ze, hie, he0, he1, he2, he3⟩ := edit_row
  have HIE := Lib.hid hie
  obtain ⟨y0, y2⟩ := hHB w3 (Below.refl _ _)
  have hs65 : S <= 65536 := hs6.1
  have hl65 : lim <= 65536 := hs6.2.1
  clear hd3 k23 k03 hD3 hHB hds hS htb hp hsz hlen hie hs6
  go_wp2_with fail
  refine (HT.out _ (Below.refl _ _)).mono ?_
  rintro e wz ⟨rfl, rfl⟩
  go_wp2_with fail
  refine (HEN.out).mono ?_
  rintro e wz ⟨rfl, rfl⟩
  go_wp2_with fail
  refine (HTB.out).mono ?_
  rintro e w4 ⟨rfl, hb4⟩
  clear y0 y2 HTB HEN
  go_wp2_with fail
  go_loopg [6, 8] (l + 1 - f) (fun m q6 q8 wr => ShR ds k tb S f l w3 m q6 q8 wr)
  case atStart => exact ⟨0, f, [], rfl, Lib.hid rfl, Lib.hid (EdsS.nil _ _), Lib.hid rfl, Lib.hid (fun _ => by simpa using hs65), by omega, by omega, hb4⟩
  case round =>
   obtain ⟨j, i, es, rfl, hi, hE, hes, hSE, hjl, hm, hb⟩ := hrel
   have hie1 : i <= f + j := Nat.le_of_eq hi.out
   have hie2 : f + j <= i := Nat.le_of_eq hi.out.symm
   have hs0 := hb.size
   obtain ⟨y0, y2⟩ := HHB.out _ hb
   have hel : es.length <= j := by
    have h1 := congrArg List.length hes.out
    rw [List.length_map] at h1
    rw [h1]
    exact shL_len HP.out k f j (by omega)
   by_cases hgo : i <= l
   ·have q1 : ((i : Int) <= (l : Int)) = True := by simp; omega
    have hit : i <= totE ds := by omega
    have hli := HLI.out _ hb i hit
    have hbd := lineF_bd HP.out hit
    have hcl := cont_len HP.out hit
    obtain ⟨⟨z0, z1, z2, z3⟩, hL⟩ : ∃ L, lineF ds i = L := ⟨_, rfl⟩
    obtain ⟨C, hC⟩ : ∃ C, cont ds i = C := ⟨_, rfl⟩
    have hS2 : seg z0 z1 (ds.map Prod.fst) = C := by rw [<- hC]; unfold cont; rw [hL]
    have hsh : shE ds k i = if k < 0 then (if 0 < ldF C (-k).toNat 0 then [(z0, z0 + (ldF C (-k).toNat 0 : Int), [])] else []) else if z0 < z1 then [(z0, z0, tabs k.toNat)] else [] := by unfold shE; rw [hL, hC]
    rw [hL] at hli hbd hcl
    rw [hC] at hcl
    unfold Ln.cells at hli
    dsimp only at hli hbd hcl
    have hcl1 : (C.length : Int) <= z1 - z0 := Int.le_of_eq hcl
    have hlen := HLEN.out
    have HSH := Lib.hid hsh
    have HLIi := Lib.hid hli
    have HNE := Lib.hid (fun (h : z0 < z1) => (by rw [hL]; exact h : (lineF ds i).from_ < (lineF ds i).to_))
    have HS2 := Lib.hid hS2
    clear hL hC hS2 hli hcl hsh
    go_wp2_with fail
    refine (HLIi.out).mono ?_
    rintro e w5 ⟨rfl, hb5⟩
    go_upto_region 10 with fail
    have hw6 : Below wr.heap.size wr (w5.alloc (.cells #[.int .i64 z0, .int .i64 z1, .int .i64 z2, .int .i64 z3] 47)) := balloc hb5
    have hB9 : Blk (w5.alloc (.cells #[.int .i64 z0, .int .i64 z1, .int .i64 z2, .int .i64 z3] 47)) w5.heap.size 47 #[.int .i64 z0, .int .i64 z1, .int .i64 z2, .int .i64 z3] := Blk.new w5 _ _
    obtain ⟨b9, hb9⟩ : ∃ x, w5.heap.size = x := ⟨_, rfl⟩
    obtain ⟨w6, hw60⟩ : ∃ x, w5.alloc (.cells #[.int .i64 z0, .int .i64 z1, .int .i64 z2, .int .i64 z3] 47) = x := ⟨_, rfl⟩
    rw [hb9] at hB9 ⊢
    rw [hw60] at hw6 hB9 ⊢
    clear hw60 hb9 hb5 y0 y2 HLIi
    have hw36 := bseq hb hw6
    have hG : ∀ w', Below w6.heap.size w6 w' -> w'.cell? ⟨b0, 0, none⟩ = some (.pointer (some ⟨gd, 0, none⟩)) /\ w'.cell? ⟨b2, 0, none⟩ = some (.int .i64 k) /\ w'.cell? ⟨b9, 0, none⟩ = some (.int .i64 z0) /\ w'.cell? ⟨b9, 1, none⟩ = some (.int .i64 z1) := fun w' hb' =>
     ⟨(HHB.out _ (bseq hw36 hb')).1, (HHB.out _ (bseq hw36 hb')).2, (hB9.below hb').cell 0, (hB9.below hb').cell 1⟩
    have HG := Lib.hid hG
    obtain ⟨y0, y2, x0, x1⟩ := hG w6 (Below.refl _ _)
    clear hG hB9
    by_cases hneg : k < 0
    ·have q2 : (k < 0) = True := by simp; exact hneg
     obtain ⟨K, hK⟩ : ∃ K, (-k).toNat = K := ⟨_, rfl⟩
     have hKb : K <= 9999 := by omega
     have wk : IntKind.i64.wrap (-k) = (K : Int) := by rw [IntWalk.i64_in _ (by omega)]; omega
     obtain ⟨n0, hn0⟩ : ∃ n0, ldF C K 0 = n0 := ⟨_, rfl⟩
     have hnl : n0 <= C.length := by rw [<- hn0]; exact ldF_le C K 0 (Nat.zero_le _)
     have hsh := HSH.out
     rw [if_pos hneg, hK, hn0] at hsh
     have HLD := Lib.hid (fun (A : Option Addr) (c : Nat) (w' : World) (h : IntsI w' A C.length C) => hn0 ▸ lead_any _ A C.length c K C w' h (by omega) (by omega))
     have HSH := Lib.hid hsh
     have HATi := Lib.hid (fun (w' : World) (hb' : Below w6.heap.size w6 w') => HS2.out ▸ HAT.out w' (bseq hw36 hb') z0 z1 (by omega) (by omega))
     clear hK hn0 hsh
     go_upto_region 11 with fail
     refine wp_region_lin (fun w' => Below w6.heap.size w6 w') (fun w' => Below w6.heap.size w6 w') (fun k => k == 1 || k == 6 || k == 9) (fun k => k == 9) (fun k => k == 10) (by kernel_rfl) (by kernel_rfl) (Below.drew (Below.refl _ _)) (fun _ h => h) ?_
     repeat ((first
      | (refine wpL_read (v := ?_) (by rfl) (by rfl) (fun w6 hSw => ?_) ?_; rotate_left; (· (obtain ⟨y0, y2, x0, x1⟩ := HG.out _ hSw; go_simp; try with_reducible rfl)))
      | (refine wpL_free (v := ?_) (by rfl) (fun w6 => ?_) ?_; rotate_left; (· (go_simp; try with_reducible rfl)))
      | refine wpL_not (by rfl) ?_); (try simp only [Act.put, pA, pB, pC]))
     refine wpL_call (f := ?_) (args := ?_) (fun v w' => v = .pointer (some ⟨g, 0, none⟩) /\ Below w6.heap.size w6 w') (by rfl) (by rfl) (fun w6 hSw => ?_) (fun w6 hSw => ?_) (.inr (fun v6 w6 hT6 => ?_)) (fun v6 hv6 => ?_)
     rotate_left 2
     ·(skip; go_simp; first | done | (constructor <;> with_reducible rfl) | with_reducible rfl)
     ·(refine (HT.out _ (bseq hw36 hSw)).mono ?_; rintro e w' ⟨rfl, rfl⟩; exact ⟨_, rfl, rfl, hSw⟩)
     ·(exact hT6.2)
     obtain ⟨wz, rfl, -⟩ := hv6
     (try simp only [Act.put, pA, pB, pC])
     repeat ((first
      | (refine wpL_read (v := ?_) (by rfl) (by rfl) (fun w6 hSw => ?_) ?_; rotate_left; (· (obtain ⟨y0, y2, x0, x1⟩ := HG.out _ hSw; go_simp; try with_reducible rfl)))
      | (refine wpL_free (v := ?_) (by rfl) (fun w6 => ?_) ?_; rotate_left; (· (go_simp; try with_reducible rfl)))
      | refine wpL_not (by rfl) ?_); (try simp only [Act.put, pA, pB, pC]))
     refine wpL_call (f := ?_) (args := ?_) (fun v w' => IntsW w' v C.length C /\ Below w6.heap.size w6 w') (by rfl) (by rfl) (fun w6 hSw => ?_) (fun w6 hSw => ?_) (.inr (fun v6 w6 hT6 => ?_)) (fun v6 hv6 => ?_)
     rotate_left 2
     ·(skip; go_simp; first | done | (constructor <;> with_reducible rfl) | with_reducible rfl)
     ·(refine (HATi.out _ hSw.2).mono ?_; rintro e w' ⟨v, rfl, hown, hb'⟩; obtain ⟨A7, k7, rfl, hk7⟩ := own_slice hown; exact ⟨_, rfl, ⟨A7, k7, rfl, IntsI.of_own hown⟩, bseq hSw.2 hb'⟩)
     ·(exact hT6.2)
     obtain ⟨wz, hz7, -⟩ := hv6; obtain ⟨A7, c7, rfl⟩ := hz7.form
     (try simp only [Act.put, pA, pB, pC])
     repeat ((first
      | (refine wpL_read (v := ?_) (by rfl) (by rfl) (fun w6 hSw => ?_) ?_; rotate_left; (· (obtain ⟨y0, y2, x0, x1⟩ := HG.out _ hSw; go_simp; try with_reducible rfl)))
      | (refine wpL_free (v := ?_) (by rfl) (fun w6 => ?_) ?_; rotate_left; (· (go_simp; try with_reducible rfl)))
      | refine wpL_not (by rfl) ?_); (try simp only [Act.put, pA, pB, pC]))
     refine wpL_call (f := ?_) (args := ?_) (fun v w' => v = .int .i64 (n0 : Int) /\ Below w6.heap.size w6 w') (by rfl) (by rfl) (fun w6 hSw => ?_) (fun w6 hSw => ?_) (.inl (by rfl)) (fun v6 hv6 => ?_)
     rotate_left 2
     ·(skip; go_simp; first | done | (constructor <;> with_reducible rfl) | with_reducible rfl)
     ·(refine (HLD.out A7 c7 _ hSw.1.at_.2).mono ?_; rintro e w' ⟨rfl, rfl⟩; exact ⟨_, rfl, rfl, hSw.2⟩)
     obtain ⟨wz, rfl, -⟩ := hv6
     (try simp only [Act.put, pA, pB, pC])
     repeat ((first
      | (refine wpL_read (v := ?_) (by rfl) (by rfl) (fun w6 hSw => ?_) ?_; rotate_left; (· (obtain ⟨y0, y2, x0, x1⟩ := HG.out _ hSw; go_simp; try with_reducible rfl)))
      | (refine wpL_free (v := ?_) (by rfl) (fun w6 => ?_) ?_; rotate_left; (· (go_simp; try with_reducible rfl)))
      | refine wpL_not (by rfl) ?_); (try simp only [Act.put, pA, pB, pC]))
     refine wpL_nil ?_
     rintro w7 ⟨-, hb7⟩
     have hw37 := bseq hw36 hb7
     have hw67 := bseq hw6 hb7
     obtain ⟨y0, y2, x0, x1⟩ := HG.out _ hb7
     have wi : IntKind.i64.wrap ((i : Int) + 1) = ((i + 1 : Nat) : Int) := by rw [IntWalk.i64_in _ (by omega)]; omega
     by_cases h0 : 0 < n0
     ·have p0 : ((0 : Int) < (n0 : Int)) = True := by simp; exact h0
      have wz : IntKind.i64.wrap (z0 + (n0 : Int)) = z0 + (n0 : Int) := IntWalk.i64_in _ (by omega)
      have hsh := HSH.out
      rw [if_pos h0] at hsh
      have HSH := Lib.hid hsh
      clear hsh
      obtain ⟨A6, c6, rfl, hc6⟩ := own_slice hE.out.row
      go_upto_region 13 with fail
      go_wp2_with (at_builtin; refine wpList_append_own_at _ rfl (.tmp 51) (.tmp 59) 92 rfl w3.heap.size 96 ie ze 3 40 Tryz.underlying92 HIE.out he0 he1 he2 he3 (by decide) (.slice A6 es.length c6) es.length _ rfl ((own_bel hE.out.row hw67).alloc _) ⟨w7.heap.size, 0, none⟩ 1 1 [.int .i64 z0, .int .i64 (z0 + (n0 : Int)), .slice none 0 0] rfl rfl (cells_new _ _ _) (edit_one _ _ _ _ _) (by unfold maxLen; omega) (by omega) (by have := hw37.size; simp; omega) ?_)
      intro v1 w8 hown8 hgr _ _
      have hE8 := hE.out.snoc (e := ⟨z0, z0 + (n0 : Int), none, 0, 0, []⟩) (balloc hw67) (PutI.nil rfl rfl) hgr hown8
      have hb8 : Below w3.heap.size w3 w8 := below_grown2 (balloc hw37) hgr (fun k hk => own_ge hE.out.row hk)
      have HE8 := Lib.hid hE8
      clear hE8 hown8 hgr
      go_wp2_with fail
      go_roundg (l + 1 - (f + (j + 1)))
      case measure => omega
      case rel => exact ShR.more hi.out HE8.out hes.out (fun h => absurd h (by omega)) hb8 hgo (Nat.le_refl _) HSH.out
     ·have p0 : ((0 : Int) < (n0 : Int)) = False := by simp; omega
      have hsh := HSH.out
      rw [if_neg h0] at hsh
      have HSH := Lib.hid hsh
      clear hsh
      go_wp2_with fail
      go_roundg (l + 1 - (f + (j + 1)))
      case measure => omega
      case rel => exact ShR.same hi.out hE.out hes.out hSE.out hb hw67 hgo (Nat.le_refl _) HSH.out
    ·have q2 : (k < 0) = False := by simp; omega
     obtain ⟨s, hs⟩ : ∃ s : Nat, k = (s : Int) := ⟨k.toNat, by omega⟩
     have hsb : s <= 9999 := by omega
     have wi : IntKind.i64.wrap ((i : Int) + 1) = ((i + 1 : Nat) : Int) := by rw [IntWalk.i64_in _ (by omega)]; omega
     have hsh := HSH.out
     rw [if_neg hneg] at hsh
     by_cases hne : z0 < z1
     ·have q3 : (z0 < z1) = True := by simp; exact hne
      rw [if_pos hne, hs, Int.toNat_natCast] at hsh
      have HSH := Lib.hid hsh
      obtain ⟨A6, c6, rfl, hc6⟩ := own_slice hE.out.row
      obtain ⟨E1, hE1⟩ : ∃ E1, es.length + 1 = E1 := ⟨_, rfl⟩
      have we : IntKind.i64.wrap ((es.length : Int) + 1) = (E1 : Int) := by rw [IntWalk.i64_in _ (by omega)]; omega
      obtain ⟨P1, hP1⟩ : ∃ P1, E1 * s = P1 := ⟨_, rfl⟩
      have hP1b : P1 <= 655314462 := by
       have hmm := Nat.mul_le_mul (show E1 <= 65538 by omega) hsb
       rw [hP1] at hmm
       omega
      have wp : IntKind.i64.wrap ((E1 : Int) * k) = (P1 : Int) := by
       rw [hs, <- Int.natCast_mul, hP1]
       exact IntWalk.i64_in _ (by omega)
      obtain ⟨P2, hP2⟩ : ∃ P2, (P1 : Int) * tb = P2 := ⟨_, rfl⟩
      have hP2b : 0 <= P2 /\ P2 <= 2 * (P1 : Int) := by
       rcases (show tb = 1 \/ tb = 2 by omega) with h | h
       ·rw [<- hP2, h]; omega
       ·rw [<- hP2, h]; omega
      have wq : IntKind.i64.wrap ((P1 : Int) * tb) = P2 := by
       rw [hP2]
       exact IntWalk.i64_in _ (by omega)
      have hPE : ((es.length : Int) + 1) * (k * tb) = P2 := by
       rw [<- hP2, <- hP1, Int.natCast_mul, Int.mul_assoc, hs, <- hE1]
       rfl
      have HE1 := Lib.hid hE1
      clear hE1
      have HPE := Lib.hid hPE
      have HSK := Lib.hid hs
      clear hP1 hP2 hPE hsh hs
      by_cases hfit : S + P2 <= 65536
      ·have HFX := Lib.hid (HFO.out _ hw36 P2 ⟨hP2b.1, by omega⟩ hfit)
       go_upto_region 15 with fail
       go_wp2_with fail
       refine (HFX.out).mono ?_
       rintro e w7 ⟨rfl, hb7⟩
       have hw37 := bseq hw36 hb7
       have hw67 := bseq hw6 hb7
       have hys : ∀ w', Below w7.heap.size w7 w' -> w'.cell? ⟨b2, 0, none⟩ = some (.int .i64 (s : Int)) /\ w'.cell? ⟨b9, 0, none⟩ = some (.int .i64 z0) := fun w' hb' => ⟨HSK.out ▸ (HG.out _ (bseq hb7 hb')).2.1, (HG.out _ (bseq hb7 hb')).2.2.1⟩
       have HYS := Lib.hid hys
       obtain ⟨R, hR⟩ : ∃ R, repeatL [9] s = R := ⟨_, rfl⟩
       have hRt : R = tabs s := by rw [<- hR]; exact repeatL_tab s
       have HRP := Lib.hid (fun (A : Option Addr) (c : Nat) (w' : World) (h : IntsI w' A 1 [9]) => hR ▸ repeated_any _ A 1 c s [9] w' h (by omega) (by omega) (by omega))
       have HRT := Lib.hid hRt
       clear hys hR hRt y0 y2 x0 x1 we wp wq HFX
       go_upto_region 16 with fail
       refine wp_region_lin (fun w' => Below w7.heap.size w7 w') (fun w' => Below w7.heap.size w7 w') (fun k => k == 5 || k == 7 || k == 9 || k == 10) (fun k => k == 10) (fun k => k == 11) (by kernel_rfl) (by kernel_rfl) (Below.drew (Below.refl _ _)) (fun _ h => h) ?_
       repeat ((first
        | (refine wpL_read (v := ?_) (by rfl) (by rfl) (fun w6 hSw => ?_) ?_; rotate_left; (· (obtain ⟨y2, x0⟩ := HYS.out _ hSw; go_simp; try with_reducible rfl)))
        | (refine wpL_free (v := ?_) (by rfl) (fun w6 => ?_) ?_; rotate_left; (· (go_simp; try with_reducible rfl)))
        | refine wpL_not (by rfl) ?_); (try simp only [Act.put, pA, pB, pC]))
       refine wpL_heavy (fun u w' => IntsW w' u 1 [9] /\ Below w7.heap.size w7 w') (by rfl) (by rfl) (fun w6 hSw => ?_) (.inr (fun v6 w6 hT6 => ?_)) (fun v6 hv6 => ?_)
       ·(go_simp; exact ⟨IntsW.one _ _, balloc hSw⟩)
       ·(exact hT6.2)
       obtain ⟨wz, hz7, -⟩ := hv6; obtain ⟨A7, c7, rfl⟩ := hz7.form
       (try simp only [Act.put, pA, pB, pC])
       repeat ((first
        | (refine wpL_read (v := ?_) (by rfl) (by rfl) (fun w6 hSw => ?_) ?_; rotate_left; (· (obtain ⟨y2, x0⟩ := HYS.out _ hSw; go_simp; try with_reducible rfl)))
        | (refine wpL_free (v := ?_) (by rfl) (fun w6 => ?_) ?_; rotate_left; (· (go_simp; try with_reducible rfl)))
        | refine wpL_not (by rfl) ?_); (try simp only [Act.put, pA, pB, pC]))
       refine wpL_call (f := ?_) (args := ?_) (fun v w' => PutV w' w3.heap.size v R.length R /\ Below w7.heap.size w7 w') (by rfl) (by rfl) (fun w6 hSw => ?_) (fun w6 hSw => ?_) (.inr (fun v6 w6 hT6 => ?_)) (fun v6 hv6 => ?_)
       rotate_left 2
       ·(skip; go_simp; first | done | (constructor <;> with_reducible rfl) | with_reducible rfl)
       ·(refine (HRP.out A7 c7 _ hSw.1.at_.2).mono ?_; intro e w' hN; obtain ⟨v, rfl, hp', hb'⟩ := PutV.of_new (base := w3.heap.size) hN (bseq hw37 hSw.2).size; exact ⟨v, rfl, hp', bseq hSw.2 hb'⟩)
       ·(exact hT6.2)
       obtain ⟨wz, hz8, -⟩ := hv6; obtain ⟨A8, c8, rfl⟩ := hz8.form
       (try simp only [Act.put, pA, pB, pC])
       repeat ((first
        | (refine wpL_read (v := ?_) (by rfl) (by rfl) (fun w6 hSw => ?_) ?_; rotate_left; (· (obtain ⟨y2, x0⟩ := HYS.out _ hSw; go_simp; try with_reducible rfl)))
        | (refine wpL_free (v := ?_) (by rfl) (fun w6 => ?_) ?_; rotate_left; (· (go_simp; try with_reducible rfl)))
        | refine wpL_not (by rfl) ?_); (try simp only [Act.put, pA, pB, pC]))
       refine wpL_heavy (fun u w' => ∃ wq, (PutV wq w3.heap.size (.slice A8 R.length c8) R.length R /\ Below w7.heap.size w7 wq) /\ u = .slice (some ⟨wq.heap.size, 0, none⟩) 1 1 /\ w' = wq.alloc (.cells #[.int .i64 z0, .int .i64 z0, .slice A8 R.length c8] 96)) (by rfl) (by rfl) (fun w6 hSw => ?_) (.inr (fun v6 w6 hT6 => ?_)) (fun v6 hv6 => ?_)
       ·(go_simp; exact ⟨w6, hSw, rfl, rfl⟩)
       ·(obtain ⟨wq, hq, -, rfl⟩ := hT6; exact balloc hq.2)
       skip
       (try simp only [Act.put, pA, pB, pC])
       refine wpL_heavy (fun u w' => EdsS w' w3.heap.size u (es ++ [⟨z0, z0, A8, R.length, c8, R⟩]) /\ Below w3.heap.size w3 w') (by rfl) (by rfl) (fun w6 hSw => ?_) (.inl (by rfl)) (fun v6 hv6 => ?_)
       ·(obtain ⟨wq, hq, rfl, rfl⟩ := hSw; exact hrun_append_own 92 rfl w3.heap.size 96 ie ze 3 40 Tryz.underlying92 HIE.out he0 he1 he2 he3 (by decide) (.slice A6 es.length c6) es.length _ rfl ((own_bel hE.out.row (bseq hw67 hq.2)).alloc _) ⟨wq.heap.size, 0, none⟩ 1 1 [.int .i64 z0, .int .i64 z0, .slice A8 R.length c8] rfl rfl (cells_new _ _ _) (edit_one _ _ _ _ _) (by unfold maxLen; omega) (by omega) (by have := (bseq hw37 hq.2).size; simp; omega) (fun v' w' ho' hg' _ hat' => ⟨hE.out.snoc (balloc (bseq hw67 hq.2)) ((PutV.at_ hq.1).2.bel (balloc (Below.refl _ _))) hg' ho', below_grown2 (balloc (bseq hw37 hq.2)) hg' (fun k hk => own_ge hE.out.row hk)⟩))
       skip
       (try simp only [Act.put, pA, pB, pC])
       repeat ((first
        | (refine wpL_read (v := ?_) (by rfl) (by rfl) (fun w6 hSw => ?_) ?_; rotate_left; (· (obtain ⟨y2, x0⟩ := HYS.out _ hSw; go_simp; try with_reducible rfl)))
        | (refine wpL_free (v := ?_) (by rfl) (fun w6 => ?_) ?_; rotate_left; (· (go_simp; try with_reducible rfl)))
        | refine wpL_not (by rfl) ?_); (try simp only [Act.put, pA, pB, pC]))
       refine wpL_nil ?_
       rintro w8 ⟨hE8, hb8⟩
       have HE8 := Lib.hid hE8
       clear hE8
       go_wp2_with fail
       go_roundg (l + 1 - (f + (j + 1)))
       case measure => omega
       case rel => exact ShR.more hi.out HE8.out hes.out (fun _ => by rw [HPE.out]; exact hfit) hb8 hgo (Nat.le_refl _) (by have h := HSH.out; rw [<- HSK.out] at h; rw [h]; unfold abE; rw [HRT.out])
      ·have HFX := Lib.hid (HFB.out _ hw36 P2 ⟨hP2b.1, by omega⟩ (by omega))
       have hfin : 0 < k /\ lim < szS ds + ((psF ds f (l + 1 - f)).length : Int) * (k * tb) := by
        have h1 : es.length + 1 <= (psF ds f (l + 1 - f)).length := by
         clear we wp wq
         have h2 := hes.out
         rw [HSK.out] at h2
         have h3 := (sh_right (enc := 1) h2).1
         have h4 := psF_len_mono ds f (show j + 1 <= l + 1 - f by omega)
         have h5 : (psF ds f (j + 1)).length = (psF ds f j).length + 1 := by
          rw [psF_succ, <- hi.out, if_pos (HNE.out hne), List.length_append]
          rfl
         omega
        have h6 : 0 < k := by omega
        have h7 : 0 <= k * tb := Int.mul_nonneg (by omega) (by omega)
        have h8 := Int.mul_le_mul_of_nonneg_right (show ((es.length : Int) + 1) <= ((psF ds f (l + 1 - f)).length : Int) by omega) h7
        rw [HPE.out] at h8
        rw [HS.out]
        exact ⟨h6, by omega⟩
       have HFIN := Lib.hid hfin
       clear hfin
       go_upto_region 15 with fail
       go_wp2_with fail
       refine (HFX.out).mono ?_
       rintro e w7 ⟨rfl, hb7⟩
       go_wp2_with fail
       have hde := HDS.out
       subst hde
       exact ⟨rfl, .inr ⟨HFIN.out.1, by rw [HTBE.out]; exact HFIN.out.2, rfl, HD3.out.below (bseq hw36 hb7), HDF3.out.trans (DFr.of_below (bseq hw36 hb7))⟩⟩
     ·have q3 : (z0 < z1) = False := by simp; omega
      rw [if_neg hne] at hsh
      have HSH := Lib.hid hsh
      clear hsh
      go_wp2_with fail
      go_roundg (l + 1 - (f + (j + 1)))
      case measure => omega
      case rel => exact ShR.same hi.out hE.out hes.out hSE.out hb hw6 hgo (Nat.le_refl _) HSH.out
   ·have q1 : ((i : Int) <= (l : Int)) = False := by simp; omega
    have hjm : j = l + 1 - f := by omega
    have hes' := hes.out
    rw [hjm] at hes'
    have hft : f + (l + 1 - f) <= totE ds + 1 := by omega
    have hlf := HLI.out _ hb f (by omega)
    obtain ⟨⟨x0, x1, x2, x3⟩, hL⟩ : ∃ L, lineF ds f = L := ⟨_, rfl⟩
    have hx0 : (lineF ds f).from_ = x0 := by rw [hL]
    rw [hL] at hlf
    unfold Ln.cells at hlf
    dsimp only at hlf
    have HX0 := Lib.hid hx0
    have HLF := Lib.hid hlf
    have lf := lfield0 x0 x1 x2 x3
    obtain ⟨A6, c6, rfl, hc6⟩ := own_slice hE.out.row
    have hpn : putN es <= 268435456 := by
     rcases ilt_or_ge k 0 with h1 | h1
     ·have := (sh_putB_left (enc := 1) HP.out h1 hft hes').2
      omega
     ·obtain ⟨s, hs⟩ : ∃ s : Nat, k = (s : Int) := ⟨k.toNat, by omega⟩
      have h2 := hes'
      rw [hs] at h2
      have h3 := (sh_right (enc := 1) h2).2.2.2
      have h4 := Nat.mul_le_mul (show es.length <= 65537 by omega) (show s <= 9999 by omega)
      have h5 := hSE.out h1
      have h6 : ((es.length * s : Nat) : Int) <= (es.length : Int) * (k * tb) := by
       rw [hs, Int.natCast_mul]
       refine Int.mul_le_mul_of_nonneg_left ?_ (by omega)
       have := Int.mul_le_mul_of_nonneg_left (show (1 : Int) <= tb by omega) (show (0 : Int) <= (s : Int) by omega)
       omega
      omega
    have hrf : refF enc lim ds es ≠ 0 -> refF enc lim ds es = 50 /\ 0 < k /\ lim < szS ds + ((psF ds f (l + 1 - f)).length : Int) * (k * tb) := fun hz => by
     rcases ilt_or_ge k 0 with h1 | h1
     ·exact absurd (sh_ref_left hE4 HP.out HLEN.out HSZ.out h1 hft hes') hz
     ·obtain ⟨s, hs⟩ : ∃ s : Nat, k = (s : Int) := ⟨k.toNat, by omega⟩
      have h2 := hes'
      rw [hs] at h2
      have h3 := sh_ref_right (lim := lim) hE4 HP.out HLEN.out hft h2
      rw [h3, HTBE.out, <- hs] at hz ⊢
      split at hz
      ·rename_i h4
       rw [if_pos h4]
       exact ⟨rfl, by omega, h4⟩
      ·exact absurd rfl hz
    obtain ⟨r, hr⟩ : ∃ r, refF enc lim ds es = r := ⟨_, rfl⟩
    rw [hr] at hrf
    have HRF := Lib.hid hrf
    have HR := Lib.hid hr
    have HES := Lib.hid hes'
    clear hL hx0 hlf hes' hrf hr
    go_wp2_with fail
    refine (HLF.out).mono ?_
    rintro e w5 ⟨rfl, hb5⟩
    clear y0 y2
    obtain ⟨y0, y2⟩ := HHB.out _ (bseq hb hb5)
    have hdc := dchange_any (c := c6) (HD3.out.below (bseq hb hb5)) HN.out ((hE.out.bel hb5).eds rfl) (fun b hb _ => by
     rcases hb.2 with ⟨cs, hb⟩ | ⟨cs, hb⟩
     ·exact ⟨_, cs, hb, by decide⟩
     ·exact ⟨_, cs, hb, by decide⟩) hpn hnn HOM.out
    unfold DChgPost at hdc
    rw [HDS.out, HR.out] at hdc
    have HDC := Lib.hid hdc
    clear hdc
    go_wp2_with fail
    refine (HDC.out).mono ?_
    rintro e w6 (⟨hz, rfl, hd6, hf6⟩ | ⟨hz, rfl, hb6⟩)
    ·clear y0 y2
     have y0 := (hf6.blk (HK03.out.below (bseq hb hb5)) (by decide)).cell 0
     simp at y0
     have HSG := Lib.hid (sign_desk hd6 x0)
     have HD6 := Lib.hid hd6
     have HZ := Lib.hid hz
     clear hd6 hz
     go_wp2_with fail
     refine (HSG.out).mono ?_
     rintro e w7 ⟨i', T, hH, hT', rfl, hb7⟩
     have HFIN := Lib.hid (And.intro hH hT')
     clear hH hT'
     go_wp2_with fail
     go_ret
     have hde := HDS.out
     subst hde
     refine .inl ⟨es, T, HES.out, by rw [HR.out]; exact HZ.out, ⟨i', ?_, HFIN.out.2⟩, rfl, HD6.out.below hb7, (HDF3.out.trans (DFr.of_below (bseq hb hb5))).trans ((DFr.of_bk hf6).trans (DFr.of_below hb7))⟩
     rw [HX0.out]
     exact HFIN.out.1
    ·obtain ⟨h50, hfin⟩ := HRF.out hz
     subst h50
     have HFIN := Lib.hid hfin
     clear hfin hz
     go_wp2_with fail
     have hde := HDS.out
     subst hde
     exact ⟨rfl, .inr ⟨HFIN.out.1, by rw [HTBE.out]; exact HFIN.out.2, rfl, HD3.out.below (bseq (bseq hb hb5) hb6), HDF3.out.trans (DFr.of_below (bseq (bseq hb hb5) hb6))⟩⟩
def shiftO (st : BkS) (es : List Ed) (c : Int) : OpS := ⟨st.ats, c, [es.map mvOf], st.state, es.any chg⟩
def shiftS (st : BkS) (es : List Ed) (c x : Int) : BkS := endF { st with ats := edA es st.ats, now := some (shiftO st es c) } (shiftO st es c) x
def ShiftPost (B gd gb g : Nat) (enc lim : Int) (n : Nat) (st : BkS) (dc : Array Value) (k : Int) (f l : Nat) (w : World) (r : Int) (w' : World) : Prop :=
 (r = 0 /\ ∃ (es : List Ed) (c x : Int), es.map abE = shL (sizedA enc st.ats) k f (l + 1 - f) /\ refF enc lim (sizedA enc st.ats) es = 0 /\ (∃ i, HereAt (sizedA enc (edA es st.ats)) (lineF (sizedA enc st.ats) f).from_ i /\ SignAt (sizedA enc (edA es st.ats)) i x) /\ (0 <= x /\ x <= ((edA es st.ats).length : Int)) /\
  DeskIs w' B gd gb g enc lim (n + 131072) (shiftS st es c x) (dc.setIfInBounds 2 (.int .i64 x)) /\ DFr B (· = gd) w w') \/
 (r = 50 /\ 0 < k /\ lim < szS (sizedA enc st.ats) + ((psF (sizedA enc st.ats) f (l + 1 - f)).length : Int) * (k * szA enc 9) /\ DeskIs w' B gd gb g enc lim n st dc /\ DFr B (fun _ => False) w w')
theorem ShiftPost.call {B gd gb g n f l : Nat} {enc lim k r : Int} {st : BkS} {dc : Array Value} {w w1 w2 : World} (h : Below w.heap.size w w1) (hp : ShiftPost B gd gb g enc lim n st dc k f l w1 r w2) : ShiftPost B gd gb g enc lim n st dc k f l w r w2 := by
 rcases hp with ⟨h0, es, c, x, h1, h2, h3, h4, h5, h6⟩ | ⟨h0, h1, h2, h3, h4⟩
 ·exact .inl ⟨h0, es, c, x, h1, h2, h3, h4, h5, (DFr.of_below h).trans h6⟩
 ·exact .inr ⟨h0, h1, h2, h3, (DFr.of_below h).trans h4⟩
theorem shift_work (B gd gb g n b0 b1 b2 : Nat) (enc lim a b kd steps c : Int) (st : BkS) (dc : Array Value) (w0 w : World) (hw0 : Below w0.heap.size w0 w) (hb2 : w0.heap.size <= b2) (h : DeskIs w B gd gb g enc lim n st dc) (hn : st.now = none) (hdz : dc.size = 10)
  (k0 : Blk w b0 25 #[.pointer (some ⟨gd, 0, none⟩)]) (k1 : Blk w b1 53 #[.int .i64 a, .int .i64 b, .int .i64 kd]) (k2 : Blk w b2 3 #[.int .i64 steps])
  (hk : kd = 0 \/ kd = 1) (ha : 0 <= a /\ a <= b /\ b <= (st.ats.length : Int)) (hst : steps ≠ 0) (hsz : szS (sizedA enc st.ats) <= lim) (hnn : n + 131072 <= 1073741824) (hud : (st.undo.length : Int) <= st.depth) (hla : st.last < 1073741824) (hc : 0 <= c /\ c <= (st.ats.length : Int)) :
  Calls Tryz.prog 36 #[.pointer (some ⟨gd, 0, none⟩), .int .i64 c, .func (.func 38) #[] #[.pointer (some ⟨b0, 0, none⟩), .pointer (some ⟨b1, 0, none⟩), .pointer (some ⟨b2, 0, none⟩)]] w fun e w' => ∃ r, e = .returned (.int .i64 r) /\ ShiftPost B gd gb g enc lim n st dc (stepsF steps) (rowIx (sizedA enc st.ats) a false) (rowIx (sizedA enc st.ats) (max a (b - 1)) false) w0 r w' := by
 obtain ⟨f, hf⟩ : ∃ f, rowIx (sizedA enc st.ats) a false = f := ⟨_, rfl⟩
 obtain ⟨l, hl⟩ : ∃ l, rowIx (sizedA enc st.ats) (max a (b - 1)) false = l := ⟨_, rfl⟩
 refine (work_any B gd gb g n enc lim c st dc _ _ (· = b2) (fun x ats' o' n' => ∃ es : List Ed, es.map abE = shL (sizedA enc st.ats) (stepsF steps) f (l + 1 - f) /\ refF enc lim (sizedA enc st.ats) es = 0 /\ (∃ i, HereAt (sizedA enc (edA es st.ats)) (lineF (sizedA enc st.ats) f).from_ i /\ SignAt (sizedA enc (edA es st.ats)) i x) /\ (0 <= x /\ x <= ((edA es st.ats).length : Int)) /\ ats' = edA es st.ats /\ o' = shiftO st es c /\ n' = n + 131072)
  (fun r n' => r = 50 /\ n' = n /\ 0 < stepsF steps /\ lim < szS (sizedA enc st.ats) + ((psF (sizedA enc st.ats) f (l + 1 - f)).length : Int) * (stepsF steps * szA enc 9)) w h hn hc hdz Tryz.call38 (fun q hq => ⟨hq ▸ k2.lt, fun e => Blk.ne_ k2 h.desk (by decide) (hq.symm.trans e)⟩) (fun w1 hd1 hf1 => ?_) (fun at' ats' o' n' ha' => ?_) hud).mono ?_
 ·refine (shift1_any B gd gb g n b0 b1 b2 enc lim a b kd steps { st with now := some ⟨st.ats, c, [], st.state, false⟩ } ⟨st.ats, c, [], st.state, false⟩ dc w1 hd1 rfl (by simp) (hf1.blk k0 (by decide) (fun hx => hx)) (hf1.blk k1 (by decide) (fun hx => hx)) (hf1.blk k2 (by decide) (fun hx => hx)) hk ha hst hsz hnn).mono ?_
  rintro e w2 (⟨es, x, h1, h2, h3, rfl, hd2, hf2⟩ | ⟨h1, h2, rfl, hd2, hf2⟩)
  ·dsimp only at h1 h2 h3 hd2
   rw [hf, hl] at h1
   rw [hf] at h3
   have hx : 0 <= x /\ x <= ((edA es st.ats).length : Int) := by
    obtain ⟨i, hi1, hi2⟩ := h3
    have := hi2.bd hd2.pos hi1.le
    rwa [sizedA_len] at this
   exact .inl ⟨x, edA es st.ats, shiftO st es c, n + 131072, ⟨es, h1, h2, h3, hx, rfl, rfl, rfl⟩, rfl, hd2, hf2⟩
  ·dsimp only at h2
   rw [hf, hl] at h2
   exact .inr ⟨50, rfl, st.ats, ⟨st.ats, c, [], st.state, false⟩, n, ⟨rfl, rfl, h1, h2⟩, by decide, rfl, hd2, hf2⟩
 ·obtain ⟨es, _, _, _, hx, rfl, rfl, rfl⟩ := ha'
  exact ⟨hx, fun _ => hla⟩
 ·rw [hf, hl]
  have hlow : ∀ q, q < w0.heap.size -> q = b2 -> False := fun q h1 h2 => by omega
  rintro e w2 (⟨rfl, at', ats', o', n', ⟨es, h1, h2, h3, hx, rfl, rfl, rfl⟩, hd, hfr⟩ | ⟨r, n', rfl, hr0, ⟨rfl, rfl, h1, h2⟩, hd, hfr⟩)
  ·exact ⟨0, rfl, .inl ⟨rfl, es, c, at', h1, h2, h3, hx, hd, DFr.call' hw0 hfr (fun q hq hx => hx.resolve_left (fun e => hlow q hq e))⟩⟩
  ·exact ⟨50, rfl, .inr ⟨rfl, h1, h2, hd, DFr.call' hw0 hfr (fun q hq hx => hlow q hq hx)⟩⟩
theorem dshift_any (B gd gb g n : Nat) (enc lim at_ a b kd steps : Int) (st : BkS) (dc : Array Value) (w : World) (h : DeskIs w B gd gb g enc lim n st dc) (hn : st.now = none) (hdz : dc.size = 10) (h2 : dc[2]? = some (.int .i64 at_))
  (hk : kd = 0 \/ kd = 1) (ha : 0 <= a /\ a <= b /\ b <= (st.ats.length : Int)) (hst : steps ≠ 0) (hsz : szS (sizedA enc st.ats) <= lim) (hnn : n + 131072 <= 1073741824) (hud : (st.undo.length : Int) <= st.depth) (hla : st.last < 1073741824) :
  Calls Tryz.prog 13 #[.pointer (some ⟨gd, 0, none⟩), .agg #[.int .i64 a, .int .i64 b, .int .i64 kd], .int .i64 steps] w fun e w' => ∃ r, e = .returned (.int .i64 r) /\ ShiftPost B gd gb g enc lim n st dc (stepsF steps) (rowIx (sizedA enc st.ats) a false) (rowIx (sizedA enc st.ats) (max a (b - 1)) false) w r w' := by
 have hmf : ∀ (fn : Fn) (first cap : Array Value) (w : World), (Instr.makeFunc fn first cap).run Tryz.prog w = .ok (.func fn first cap) w := fun _ _ _ _ => rfl
 have hw3 : Below w.heap.size w (((w.alloc (.cells #[.pointer (some ⟨gd, 0, none⟩)] 25)).alloc (.cells #[.int .i64 a, .int .i64 b, .int .i64 kd] 53)).alloc (.cells #[.int .i64 steps] 3)) := balloc (balloc (balloc (Below.refl _ _)))
 have b0 : Blk (((w.alloc (.cells #[.pointer (some ⟨gd, 0, none⟩)] 25)).alloc (.cells #[.int .i64 a, .int .i64 b, .int .i64 kd] 53)).alloc (.cells #[.int .i64 steps] 3)) w.heap.size 25 #[.pointer (some ⟨gd, 0, none⟩)] := ((Blk.new w _ _).alloc _).alloc _
 have b1 : Blk (((w.alloc (.cells #[.pointer (some ⟨gd, 0, none⟩)] 25)).alloc (.cells #[.int .i64 a, .int .i64 b, .int .i64 kd] 53)).alloc (.cells #[.int .i64 steps] 3)) (w.heap.size + 1) 53 #[.int .i64 a, .int .i64 b, .int .i64 kd] := (Blk.new' (by simp)).alloc _
 have b2 : Blk (((w.alloc (.cells #[.pointer (some ⟨gd, 0, none⟩)] 25)).alloc (.cells #[.int .i64 a, .int .i64 b, .int .i64 kd] 53)).alloc (.cells #[.int .i64 steps] 3)) (w.heap.size + 1 + 1) 3 #[.int .i64 steps] := Blk.new' (by simp)
 have c0 := b0.cell 0
 have c2 := b2.cell 0
 simp only [List.getElem?_toArray, List.getElem?_cons_zero] at c0 c2
 have HH := Lib.hid h
 have q0 : (steps == 0) = false := by rw [beq_eq_false_iff_ne]; exact hst
 go_enter Tryz.func13, Tryz.ntmps13
 go_upto_region 1 with fail
 obtain ⟨w3, hw30⟩ : ∃ x', (((w.alloc (.cells #[.pointer (some ⟨gd, 0, none⟩)] 25)).alloc (.cells #[.int .i64 a, .int .i64 b, .int .i64 kd] 53)).alloc (.cells #[.int .i64 steps] 3)) = x' := ⟨_, rfl⟩
 rw [hw30] at hw3 b0 b1 b2 c0 c2 ⊢
 clear hw30 h
 go_upto_region 3 with fail
 clear c0 c2 q0
 have hBD : ∀ w', Below w3.heap.size w3 w' -> w'.cell? ⟨w.heap.size, 0, none⟩ = some (.pointer (some ⟨gd, 0, none⟩)) /\ w'.cell? ⟨gd, 2, none⟩ = some (.int .i64 at_) := fun w' hb =>
  ⟨(b0.below hb).cell 0, ((HH.out.below (bseq hw3 hb)).desk.cell 2).trans h2⟩
 have HBD := Lib.hid hBD
 have HCL := Lib.hid (fun (w' : World) (hb : Below w3.heap.size w3 w') => clamp_desk (HH.out.below (bseq hw3 hb)) at_)
 have HPOS := Lib.hid HH.out.pos
 have HWK := Lib.hid (fun (w' : World) (hb : Below w3.heap.size w3 w') (c : Int) (hc : 0 <= c /\ c <= (st.ats.length : Int)) =>
  shift_work B gd gb g n w.heap.size (w.heap.size + 1) (w.heap.size + 1 + 1) enc lim a b kd steps c st dc w w' (bseq hw3 hb) (by omega) (HH.out.below (bseq hw3 hb)) hn hdz (b0.below hb) (b1.below hb) (b2.below hb) hk ha hst hsz hnn hud hla hc)
 clear hBD b0 b1 b2 hn h2 hdz
 refine wp_region_lin (fun w' => Below w3.heap.size w3 w') (fun w' => Below w3.heap.size w3 w') (fun k => k == 6 || k == 8) (fun k => k == 8) (fun k => k == 9) (by kernel_rfl) (by kernel_rfl) (Below.drew (Below.refl _ _)) (fun _ h => h) ?_
 repeat ((first
  | (refine wpL_read (v := ?_) (by rfl) (by rfl) (fun w6 hSw => ?_) ?_; rotate_left; (· (obtain ⟨y0, y2⟩ := HBD.out _ hSw; go_simp; try with_reducible rfl)))
  | (refine wpL_free (v := ?_) (by rfl) (fun w6 => ?_) ?_; rotate_left; (· (go_simp; try with_reducible rfl)))
  | refine wpL_not (by rfl) ?_); (try simp only [Act.put, pA, pB, pC]))
 refine wpL_call (f := ?_) (args := ?_) (fun v w' => (∃ x : Int, v = .int .i64 x /\ 0 <= x /\ x <= (st.ats.length : Int)) /\ Below w3.heap.size w3 w') (by rfl) (by rfl) (fun w6 hSw => ?_) (fun w6 hSw => ?_) (.inr (fun v6 w6 hT6 => ?_)) (fun v6 hv6 => ?_)
 rotate_left 2
 ·(skip; go_simp; first | done | (constructor <;> with_reducible rfl) | with_reducible rfl)
 ·(refine (HCL.out _ hSw).mono ?_; rintro e w' ⟨jc, rfl, -, hjc, hb⟩; have hbd := clampV_bd HPOS.out hjc; rw [sizedA_len] at hbd; exact ⟨_, rfl, ⟨_, rfl, hbd.1, hbd.2⟩, bseq hSw hb⟩)
 ·(exact hT6.2)
 obtain ⟨wz, ⟨x, rfl, hx0, hx1⟩, -⟩ := hv6
 (try simp only [Act.put, pA, pB, pC])
 repeat ((first
  | (refine wpL_read (v := ?_) (by rfl) (by rfl) (fun w6 hSw => ?_) ?_; rotate_left; (· (obtain ⟨y0, y2⟩ := HBD.out _ hSw; go_simp; try with_reducible rfl)))
  | (refine wpL_free (v := ?_) (by rfl) (fun w6 => ?_) ?_; rotate_left; (· (go_simp; try with_reducible rfl)))
  | refine wpL_not (by rfl) ?_); (try simp only [Act.put, pA, pB, pC]))
 refine wpL_call (f := ?_) (args := ?_) (fun v w' => ∃ r, v = .int .i64 r /\ ShiftPost B gd gb g enc lim n st dc (stepsF steps) (rowIx (sizedA enc st.ats) a false) (rowIx (sizedA enc st.ats) (max a (b - 1)) false) w r w') (by rfl) (by rfl) (fun w6 hSw => ?_) (fun w6 hSw => ?_) (.inl (by rfl)) (fun v6 hv6 => ?_)
 rotate_left 2
 ·(skip; go_simp; first | done | (constructor <;> with_reducible rfl) | with_reducible rfl)
 ·(refine (HWK.out _ hSw.2 x ⟨hx0, hx1⟩).mono ?_; rintro e w' ⟨r, rfl, hp⟩; exact ⟨_, rfl, r, rfl, hp⟩)
 obtain ⟨wz, r, rfl, -⟩ := hv6
 (try simp only [Act.put, pA, pB, pC])
 repeat ((first
  | (refine wpL_read (v := ?_) (by rfl) (by rfl) (fun w6 hSw => ?_) ?_; rotate_left; (· (obtain ⟨y0, y2⟩ := HBD.out _ hSw; go_simp; try with_reducible rfl)))
  | (refine wpL_free (v := ?_) (by rfl) (fun w6 => ?_) ?_; rotate_left; (· (go_simp; try with_reducible rfl)))
  | refine wpL_not (by rfl) ?_); (try simp only [Act.put, pA, pB, pC]))
 refine wpL_nil ?_
 rintro w7 ⟨r', hr', hp⟩
 obtain rfl : r = r' := by injection hr'
 have HP := Lib.hid hp
 clear hp hr'
 go_wp2_with fail
 go_ret
 exact ⟨r, rfl, HP.out⟩
def ShWant (F T : Int) (u A : List Int) (w0 : World) (k : Nat) (q19 q20 : Value) (wr : World) : Prop :=
 ∃ i : Nat, q20 = .int .i64 (i : Int) /\ i <= A.length /\ A.length - i <= k /\ Hid (wr.ownsRow w0.heap.size 3 1 q19 (insP (bgnF A F T) u 0 (A.take i)).length ((insP (bgnF A F T) u 0 (A.take i)).map (Value.int .i64))) /\ Below w0.heap.size w0 wr
def ShTabs (W : List Int) (s : Nat) (w0 : World) (k : Nat) (q19 q22 : Value) (wr : World) : Prop :=
 ∃ r : Nat, q22 = .int .i64 (r : Int) /\ r <= s /\ s - r <= k /\ Hid (wr.ownsRow w0.heap.size 3 1 q19 (W ++ tabs r).length ((W ++ tabs r).map (Value.int .i64))) /\ Below w0.heap.size w0 wr
theorem shiftS_ats (st : BkS) (es : List Ed) (c x : Int) : (shiftS st es c x).ats = edA es st.ats := by
 unfold shiftS endF
 split <;> rfl
theorem shiftS_facts (st : BkS) (es : List Ed) (c x : Int) (h1 : st.undo = []) (h2 : 1 <= st.depth) (h3 : st.last = 0) : (shiftS st es c x).ats = edA es st.ats /\ (shiftS st es c x).now = none /\ ((shiftS st es c x).undo.length : Int) <= (shiftS st es c x).depth /\ (shiftS st es c x).last < 1073741824 := by
 unfold shiftS endF
 split
 ·refine ⟨rfl, rfl, ?_, ?_⟩
  ·exact pushU_le (by rw [h1]; simp; omega)
  ·dsimp only; omega
 ·refine ⟨rfl, rfl, ?_, ?_⟩
  ·dsimp only; rw [h1]; simp; omega
  ·dsimp only; omega
theorem shifted_any (s0 : Start) (fi la sp : Int) (A : Option Addr) (n c : Nat) (w : World) (hl : Bts w Any A n s0.data) (hB : Byt s0.data) (h1 : FitsI s0.native) (h2 : FitsI s0.depth) (h4 : FitsI fi) (h5 : FitsI la) (h6 : FitsI sp) :
  Calls Tryz.prog 3 #[.agg #[.int .i64 s0.enc, .slice A n c, .int .i64 s0.native, .int .i64 s0.depth, .int .i64 s0.room], .int .i64 fi, .int .i64 la, .int .i64 sp] w fun e w' => e = .returned (.bool true) /\ Below w.heap.size w w' := by
 obtain ⟨s, hs⟩ : ∃ s : Start, s = { s0 with room := 4096 } := ⟨_, rfl⟩
 have e1 : s0.enc = s.enc := by rw [hs]
 have e2 : s0.data = s.data := by rw [hs]
 have e3 : s0.native = s.native := by rw [hs]
 have e4 : s0.depth = s.depth := by rw [hs]
 have e5 : s.room = 4096 := by rw [hs]
 rw [e2] at hl hB
 rw [e3] at h1
 rw [e4] at h2
 rw [e1, e3, e4]
 obtain ⟨rm, hrm⟩ : ∃ rm, s0.room = rm := ⟨_, rfl⟩
 rw [hrm]
 clear hs e1 e2 e3 e4 hrm
 obtain ⟨hE, hll, hlim, hlim2, hd1, hd2⟩ := start_bd s
 have hBl : Byt s.l := hB.take _
 have hw0 : Below w.heap.size w (w.alloc (.cells #[.int .i64 s.enc, .slice A n c, .int .i64 s.native, .int .i64 s.depth, .int .i64 4096] 24)) := balloc (Below.refl _ _)
 have hb1 := Blk.new w 24 #[.int .i64 s.enc, .slice A n c, .int .i64 s.native, .int .i64 s.depth, .int .i64 4096]
 go_enter Tryz.func3, Tryz.ntmps3
 go_upto_region 2 with fail
 obtain ⟨w1, hw10⟩ : ∃ x, (w.alloc (.cells #[.int .i64 s.enc, .slice A n c, .int .i64 s.native, .int .i64 s.depth, .int .i64 4096] 24)) = x := ⟨_, rfl⟩
 rw [hw10] at hb1 hw0 ⊢
 clear hw10
 obtain ⟨g0, g1, g2, g3, g4⟩ := cells5 hb1
 have hbg := begun_any s A n c w1 (Reads.below hl hw0) hB h1 h2 (by rw [e5]; exact ⟨by decide, by decide⟩)
 rw [e5] at hbg
 have hzB : w.heap.size <= w1.heap.size := hw0.size
 have HBG := Lib.hid hbg
 clear hbg hb1
 go_wp2_with fail
 refine (HBG.out).mono ?_
 rintro e w2 ⟨gd, gb, gt, m, gk, mk, gd', gb', gt', gk', ld, rfl, hBe, hb2⟩
 have hd := hBe.D.is (by omega) hlim2 ⟨hd1, hd2⟩
 obtain ⟨B, hBB⟩ : ∃ B, w1.heap.size = B := ⟨_, rfl⟩
 rw [hBB] at hd hzB
 have hsized := newS_sized (depth := s.dep) hE hBl
 have hszS : szS (sizedA s.E (newS s.E s.dep s.l).ats) = (s.l.length : Int) := by rw [hsized]; exact newS_sz
 have hszL : szS (sizedA s.E (newS s.E s.dep s.l).ats) <= s.lim := by rw [hszS]; exact hlim
 have hnow : (newS s.E s.dep s.l).now = none := rfl
 have hund : (newS s.E s.dep s.l).undo = [] := rfl
 have hred : (newS s.E s.dep s.l).redo = [] := rfl
 have hlas : (newS s.E s.dep s.l).last = 0 := rfl
 have hdep : (newS s.E s.dep s.l).depth = s.dep := rfl
 obtain ⟨E, hEE⟩ : ∃ x, s.E = x := ⟨_, rfl⟩
 obtain ⟨lim, hli⟩ : ∃ x, s.lim = x := ⟨_, rfl⟩
 obtain ⟨st, hst⟩ : ∃ x, newS s.E s.dep s.l = x := ⟨_, rfl⟩
 have hz0 : (deskC gb gk (natF ((dec s.E s.l).map Prod.fst) s.nat)).size = 10 := rfl
 have hz2 : (deskC gb gk (natF ((dec s.E s.l).map Prod.fst) s.nat))[2]? = some (.int .i64 0) := rfl
 obtain ⟨dc, hdc⟩ : ∃ x, deskC gb gk (natF ((dec s.E s.l).map Prod.fst) s.nat) = x := ⟨_, rfl⟩
 rw [hst] at hd hszL hnow hund hred hlas hdep
 rw [hdc] at hd hz0 hz2
 rw [hEE, hli] at hd
 rw [hEE] at hszL
 rw [hli] at hszL
 rw [hli] at hlim2
 have hdep2 : (1 : Int) <= st.depth := by rw [hdep]; exact hd1
 have HDD := Lib.hid hd
 have HST := Lib.hid (And.intro hnow (And.intro hund (And.intro hred (And.intro hlas (And.intro hdep2 hszL)))))
 have HZ := Lib.hid (And.intro hz0 hz2)
 clear hBB hd hsized hszS hszL hnow hund hred hlas hdep hst hdc hEE hli hz0 hz2 hdep2 hBe HBG hl hB hBl hE hll hlim hd1 hd2 h1 h2 g0 g1 g2 g3 g4 e5
 go_upto_region 3 with fail
 have hw2 := bseq hw0 hb2
 have hBo : Blk (w2.alloc (.cells #[.pointer (some ⟨gd, 0, none⟩), .pointer (some ⟨gd', 0, none⟩)] 28)) w2.heap.size 28 #[.pointer (some ⟨gd, 0, none⟩), .pointer (some ⟨gd', 0, none⟩)] := Blk.new w2 _ _
 have hd3 := HDD.out.below (balloc (o := .cells #[.pointer (some ⟨gd, 0, none⟩), .pointer (some ⟨gd', 0, none⟩)] 28) (Below.refl w2.heap.size w2))
 have hw3 : Below w.heap.size w (w2.alloc (.cells #[.pointer (some ⟨gd, 0, none⟩), .pointer (some ⟨gd', 0, none⟩)] 28)) := balloc hw2
 obtain ⟨bo, hbo⟩ : ∃ x, w2.heap.size = x := ⟨_, rfl⟩
 obtain ⟨w3, hw30⟩ : ∃ x, w2.alloc (.cells #[.pointer (some ⟨gd, 0, none⟩), .pointer (some ⟨gd', 0, none⟩)] 28) = x := ⟨_, rfl⟩
 rw [hbo] at hBo ⊢
 rw [hw30] at hBo hd3 hw3 ⊢
 clear hw30 hbo hb2 hw2 HDD hw0
 have hgB : B <= gd := hd3.low
 have hne : bo ≠ gd := Blk.ne_ hBo hd3.desk (by decide)
 have HTY := Lib.hid (both_typed w3 bo)
 have HD3 := Lib.hid hd3
 have HBo := Lib.hid hBo
 clear hd3 hBo
 go_wp2_with fail
 refine (HTY.out).mono ?_
 rintro e w4 ⟨rfl, hb4⟩
 clear HTY
 have hd4 := HD3.out.below hb4
 have hBo4 := HBo.out.below hb4
 have hw4 := bseq hw3 hb4
 obtain ⟨c0, -⟩ := cells2 hBo4
 have e0 := (hd4.desk.cell 0).trans hd4.c0
 have HTX := Lib.hid (btext_desk hd4)
 have HAT := Lib.hid (batoms_any hd4 hBo4)
 have HCN := Lib.hid (fun (w' : World) (hb : Below w4.heap.size w4 w') => count_line Any gt E (sizedA E st.ats) w' (hd4.below hb).at_)
 have hcp := @countF_pos (sizedA E st.ats)
 have hte : totE (sizedA E st.ats) <= 65536 := Nat.le_trans (cntE_le _ _) (by have := hd4.len; rw [sizedA_len]; exact this)
 have hal : st.ats.length <= 65536 := hd4.len
 have HD4 := Lib.hid hd4
 have HB4 := Lib.hid hBo4
 clear hd4 hBo4 HD3 HBo hb4 hw3
 go_wp2_with fail
 refine (HTX.out).mono ?_
 rintro e wz ⟨rfl, rfl⟩
 clear HTX
 go_wp2_with fail
 refine (HAT.out).mono ?_
 rintro e w5 ⟨v5, rfl, ho5, hb5⟩
 obtain ⟨A5, c5, rfl, hc5⟩ := own_slice ho5
 have hI5 := IntsI.of_own ho5
 clear HAT ho5
 go_wp2_with fail
 refine (HCN.out _ hb5).mono ?_
 rintro e w6 ⟨rfl, hb6⟩
 have hb46 := bseq hb5 hb6
 have hI6 := hI5.bel hb6
 have hw6 := bseq hw4 hb46
 clear hI5 hb5 hb6 HCN c0 e0 hw4
 obtain ⟨M, hM⟩ : ∃ M, countF (sizedA E st.ats) = M := ⟨_, rfl⟩
 rw [hM] at hcp ⊢
 have HM := Lib.hid hM
 obtain ⟨NA, hNA⟩ : ∃ N, st.ats.length = N := ⟨_, rfl⟩
 have hlA : (st.ats.map Prod.fst).length = NA := by rw [List.length_map, hNA]
 rw [hlA] at hI6 hc5
 rw [hNA] at hal ⊢
 obtain ⟨AL, hAL⟩ : ∃ AL, st.ats.map Prod.fst = AL := ⟨_, rfl⟩
 rw [hAL] at hI6 hlA
 have HAL := Lib.hid hAL
 have HNA := Lib.hid hNA
 have HLA := Lib.hid hlA
 have HI6 := Lib.hid hI6
 have hd6 := HD4.out.below hb46
 have hB6 := HB4.out.below hb46
 clear hM hNA hlA hI6 hAL
 have wm : IntKind.i64.wrap ((M : Int) - 1) = ((M - 1 : Nat) : Int) := by rw [IntWalk.i64_in _ (by omega)]; omega
 have hk1 := fun w' => within_any fi ((M - 1 : Nat) : Int) w' h4 (by omega) (by omega)
 have hbd1 := withinF_bd fi ((M - 1 : Nat) : Int) (by omega)
 obtain ⟨f, hf⟩ : ∃ f : Nat, withinF fi ((M - 1 : Nat) : Int) = (f : Int) := ⟨(withinF fi ((M - 1 : Nat) : Int)).toNat, by omega⟩
 rw [hf] at hk1 hbd1
 have hk2 := fun w' => within_any la ((M - 1 - f : Nat) : Int) w' h5 (by omega) (by omega)
 have hbd2 := withinF_bd la ((M - 1 - f : Nat) : Int) (by omega)
 obtain ⟨d, hdd⟩ : ∃ d : Nat, withinF la ((M - 1 - f : Nat) : Int) = (d : Int) := ⟨(withinF la ((M - 1 - f : Nat) : Int)).toNat, by omega⟩
 rw [hdd] at hk2 hbd2
 have hk3 := fun w' => within_any sp 5 w' h6 (by omega) (by omega)
 have hbd3 := withinF_bd sp 5 (by omega)
 obtain ⟨d3, hd3⟩ : ∃ d : Nat, withinF sp 5 = (d : Int) := ⟨(withinF sp 5).toNat, by omega⟩
 rw [hd3] at hk3 hbd3
 have wm2 : IntKind.i64.wrap (((M - 1 : Nat) : Int) - (f : Int)) = ((M - 1 - f : Nat) : Int) := by rw [IntWalk.i64_in _ (by omega)]; omega
 obtain ⟨l, hl⟩ : ∃ l, f + d = l := ⟨_, rfl⟩
 have wl : IntKind.i64.wrap ((f : Int) + (d : Int)) = (l : Int) := by rw [IntWalk.i64_in _ (by omega)]; omega
 obtain ⟨S, hS⟩ : ∃ S, 1 + d3 = S := ⟨_, rfl⟩
 have ws : IntKind.i64.wrap (1 + (d3 : Int)) = (S : Int) := by rw [IntWalk.i64_in _ (by omega)]; omega
 have hS0 : 0 < S /\ S <= 6 := by omega
 have hfl : f <= l := by omega
 have hlM : l < M := by omega
 have hlt : l <= totE (sizedA E st.ats) := by omega
 have HK1 := Lib.hid hk1
 have HK2 := Lib.hid hk2
 have HK3 := Lib.hid hk3
 have HLF := Lib.hid (fun (w' : World) (hb : Below w6.heap.size w6 w') => at_line Any gt E (sizedA E st.ats) f w' (hd6.below hb).at_ (by omega))
 have HLL := Lib.hid (fun (w' : World) (hb : Below w6.heap.size w6 w') => at_line Any gt E (sizedA E st.ats) l w' (hd6.below hb).at_ hlt)
 have HD6 := Lib.hid hd6
 have HB6 := Lib.hid hB6
 have HPOS := Lib.hid hd6.pos
 clear hk1 hk2 hk3 hd6 hB6 hf hdd hd3 hl hS HD4 HB4
 go_wp2_with fail
 refine (HK1.out _).mono ?_
 rintro e wz ⟨rfl, rfl⟩
 go_wp2_with fail
 refine (HK2.out _).mono ?_
 rintro e wz ⟨rfl, rfl⟩
 go_wp2_with fail
 refine (HK3.out _).mono ?_
 rintro e wz ⟨rfl, rfl⟩
 have hlf := HLF.out _ (Below.refl _ _)
 have hll := HLL.out
 have hbf := lineF_bd HPOS.out (i := f) (by omega)
 have hbl := lineF_bd HPOS.out (i := l) hlt
 have hrr := rows_right HPOS.out hfl (by rw [HM.out]; exact hlM)
 have hfm := from_mono HPOS.out hfl hlt
 obtain ⟨⟨x0, x1, x2, x3⟩, hL1⟩ : ∃ L, lineF (sizedA E st.ats) f = L := ⟨_, rfl⟩
 obtain ⟨⟨y0, y1, y2, y3⟩, hL2⟩ : ∃ L, lineF (sizedA E st.ats) l = L := ⟨_, rfl⟩
 rw [hL1, hL2] at hrr hfm
 rw [hL1] at hlf hbf
 rw [hL2] at hll hbl
 unfold Ln.cells at hlf hll
 rw [sizedA_len] at hbf hbl
 dsimp only at hlf hll hbf hbl hrr hfm
 rw [HNA.out] at hbf hbl
 have HL1 := Lib.hid hL1
 have HL2 := Lib.hid hL2
 have HLF' := Lib.hid hlf
 have HLL' := Lib.hid hll
 have HRR := Lib.hid hrr
 clear hlf hll hL1 hL2 HLF HLL hrr
 go_wp2_with fail
 refine (HLF'.out).mono ?_
 rintro e w7 ⟨rfl, hb7⟩
 go_upto_region 12 with fail
 have hw8 : Below w6.heap.size w6 (w7.alloc (.cells #[.int .i64 x0, .int .i64 x1, .int .i64 x2, .int .i64 x3] 47)) := balloc hb7
 have hX : Blk (w7.alloc (.cells #[.int .i64 x0, .int .i64 x1, .int .i64 x2, .int .i64 x3] 47)) w7.heap.size 47 #[.int .i64 x0, .int .i64 x1, .int .i64 x2, .int .i64 x3] := Blk.new w7 _ _
 obtain ⟨bx, hbx⟩ : ∃ x, w7.heap.size = x := ⟨_, rfl⟩
 obtain ⟨w8, hw80⟩ : ∃ x, w7.alloc (.cells #[.int .i64 x0, .int .i64 x1, .int .i64 x2, .int .i64 x3] 47) = x := ⟨_, rfl⟩
 rw [hbx] at hX ⊢
 rw [hw80] at hX hw8 ⊢
 have hbxs := Lib.hid hbx
 have hb7s := Lib.hid hb7
 clear hbx hw80 hb7
 go_wp2_with fail
 refine (HLL'.out _ hw8).mono ?_
 rintro e w9 ⟨rfl, hb9⟩
 go_upto_region 13 with fail
 have hw10 : Below w6.heap.size w6 (w9.alloc (.cells #[.int .i64 y0, .int .i64 y1, .int .i64 y2, .int .i64 y3] 47)) := balloc (bseq hw8 hb9)
 have hY : Blk (w9.alloc (.cells #[.int .i64 y0, .int .i64 y1, .int .i64 y2, .int .i64 y3] 47)) w9.heap.size 47 #[.int .i64 y0, .int .i64 y1, .int .i64 y2, .int .i64 y3] := Blk.new w9 _ _
 have hX10 := (hX.below hb9).alloc (.cells #[.int .i64 y0, .int .i64 y1, .int .i64 y2, .int .i64 y3] 47)
 obtain ⟨bY, hbY⟩ : ∃ x, w9.heap.size = x := ⟨_, rfl⟩
 have hxy : bx ≠ bY := by have := (hX.below hb9).lt; omega
 have hgexy : w6.heap.size <= bx /\ w6.heap.size <= bY := ⟨by rw [<- hbxs.out]; exact hb7s.out.size, by rw [<- hbY]; exact (bseq hw8 hb9).size⟩
 obtain ⟨w10, hw100⟩ : ∃ x, w9.alloc (.cells #[.int .i64 y0, .int .i64 y1, .int .i64 y2, .int .i64 y3] 47) = x := ⟨_, rfl⟩
 rw [hbY] at hY ⊢
 rw [hw100] at hX10 hY hw10 ⊢
 have hge : w6.heap.size <= bx /\ w6.heap.size <= bY := hgexy
 have HGE := Lib.hid hge
 clear hge hgexy hbY hw100 hb9 hw8 hX HLF' HLL' wm wm2 wl ws hbd1 hbd2 hbd3 HK1 HK3
 have hd10 := HD6.out.below hw10
 have hB10 := HB6.out.below hw10
 have hI10 := HI6.out.bel hw10
 obtain ⟨c0, -⟩ := cells2 hB10
 obtain ⟨⟨cx0, -⟩, -⟩ := jcells4 hX10
 obtain ⟨⟨-, -, cy2, -⟩, -⟩ := jcells4 hY
 obtain ⟨hnow, hund, hred, hlas, hdep, hszL⟩ := HST.out
 obtain ⟨hz0, hz2⟩ := HZ.out
 have hsh := dshift_any B gd gb gt 0 E lim 0 x0 y2 1 (S : Int) st dc w10 hd10 hnow hz0 hz2 (.inr rfl) ⟨by omega, by omega, by rw [HNA.out]; omega⟩ (by omega) hszL (by decide) (by rw [hund]; simp; omega) (by rw [hlas]; decide)
 rw [HRR.out.1, HRR.out.2, show stepsF (S : Int) = (S : Int) by unfold stepsF; omega] at hsh
 have HSH := Lib.hid hsh
 have hw100 := bseq hw6 hw10
 have HR := Lib.hid (And.intro hI10 (And.intro hB10 (And.intro hX10 (And.intro hY hd10.desk))))
 clear hsh hnow hund hred hlas hdep hszL hz0 hz2 hd10 hB10 hX10 hY hI10 HI6
 go_wp2_with fail
 refine (HSH.out).mono ?_
 rintro e w12 ⟨r, rfl, hp⟩
 clear HSH c0 cx0 cy2
 obtain ⟨hI10, hB10, hX10, hY10, hdk⟩ := HR.out
 rcases hp with ⟨rfl, es, cc, xx, he, hz, -, hxx, hd12, hf12⟩ | ⟨rfl, -, -, hd12, hf12⟩
 case inr =>
  have hB12 := hf12.blk hB10 (by decide) (fun h => h)
  have hI12 := hI10.dfr (hf12.wide (X' := (· = gd)) (Nat.le_refl _) (fun _ _ h => h.elim)) hdk
  have hw12 : Below w.heap.size w w12 := bfr hw100 hf12 (fun i hs => by
   rcases hs with ⟨h1, _⟩ | h1
   ·omega
   ·exact h1.elim)
  have hat12 := batoms_any hd12 hB12
  rw [HAL.out] at hat12
  have HAT12 := Lib.hid hat12
  clear hat12
  have HI12 := Lib.hid hI12
  clear hd12 hB12 hI12 hf12 hI10 hB10 hX10 hY10 hdk HR HK2
  go_wp2_with fail
  refine (HAT12.out).mono ?_
  intro e w13 hNI
  obtain ⟨A13, c13, rfl, hI13, hc13, hb13⟩ := hNI.slice
  have HSM := Lib.hid (same_eq (c := c13) (c' := c5) hI13 (HI12.out.bel hb13).any (by rw [HLA.out]; omega))
  clear hNI hI13 HAT12
  go_wp2_with fail
  refine (HSM.out).mono ?_
  rintro e w14 ⟨rfl, hb14⟩
  go_wp2_with fail
  go_ret
  exact ⟨rfl, bseq hw12 (bseq hb13 hb14)⟩
 case inl =>
  have hB12 := hf12.blk hB10 (by decide) hne
  have hX12 := hf12.blk hX10 (by decide) (fun e => Blk.ne_ hX10 hdk (by decide) e)
  have hY12 := hf12.blk hY10 (by decide) (fun e => Blk.ne_ hY10 hdk (by decide) e)
  have hI12 := hI10.dfr hf12 hdk
  have hw12 : Below w.heap.size w w12 := bfr hw100 hf12 (fun i hs => by
   rcases hs with ⟨h1, _⟩ | h1
   ·omega
   ·omega)
  obtain ⟨hnow, hund, hred, hlas, hdep, hszL⟩ := HST.out
  obtain ⟨hz0, hz2⟩ := HZ.out
  have hsf := shiftS_facts st es cc xx hund hdep hlas
  obtain ⟨st2, hst2⟩ : ∃ x, shiftS st es cc xx = x := ⟨_, rfl⟩
  rw [hst2] at hd12 hsf
  obtain ⟨s1, s2, s3, s4⟩ := hsf
  have hp2 := hd12.pos
  have hln2 : (st2.ats.map Prod.fst).length <= 65536 := by rw [List.length_map]; exact hd12.len
  have hsz2 : szS (sizedA E st2.ats) <= lim := by rw [s1]; exact sized_fits HPOS.out hz hlim2 (by omega)
  have hth : insP (bgnF AL x0 y1) (tabs S) 0 AL = st2.ats.map Prod.fst := by
   rw [s1, shift_there HPOS.out hfl (by rw [HM.out]; exact hlM) he, HL1.out, HL2.out, HAL.out]
  have hhome := shift_home HPOS.out hfl (by rw [HM.out]; exact hlM) he (by rw [<- s1]; exact hp2) hS0.1
  rw [<- s1, HM.out, HAL.out] at hhome
  have hdz2 : (dc.setIfInBounds 2 (.int .i64 xx)).size = 10 := by rw [Array.size_setIfInBounds]; exact hz0
  have hd22 : (dc.setIfInBounds 2 (.int .i64 xx))[2]? = some (.int .i64 xx) := by rw [Array.getElem?_setIfInBounds_self_of_lt (by omega)]
  obtain ⟨dc2, hdc2⟩ : ∃ x, dc.setIfInBounds 2 (.int .i64 xx) = x := ⟨_, rfl⟩
  rw [hdc2] at hd12 hdz2 hd22
  have HD12 := Lib.hid hd12
  have HB12 := Lib.hid hB12
  have HX12 := Lib.hid hX12
  have HY12 := Lib.hid hY12
  have HI12 := Lib.hid hI12
  have HTH := Lib.hid hth
  have HHOME := Lib.hid hhome
  have HS2 := Lib.hid (And.intro s2 (And.intro s3 (And.intro s4 (And.intro hsz2 (And.intro hdz2 (And.intro hd22 hp2))))))
  have HLN2 := Lib.hid hln2
  have hXY : ∀ w', Below w12.heap.size w12 w' -> w'.cell? ⟨bx, 0, none⟩ = some (.int .i64 x0) /\ w'.cell? ⟨bY, 1, none⟩ = some (.int .i64 y1) := fun w' hb => ⟨(hX12.below hb).cell 0, (hY12.below hb).cell 1⟩
  have HXY := Lib.hid hXY
  obtain ⟨i0, hi0, hz0', hz1', hz2'⟩ := info_parts int_info
  have HII := Lib.hid hi0
  clear hd12 hB12 hX12 hY12 hI12 hth hhome s1 s2 s3 s4 hsz2 hdz2 hd22 hp2 hln2 hXY hi0 hnow hund hred hlas hdep hszL hz0 hz2 hI10 hB10 hX10 hY10 hdk HR hf12 he hz hxx hst2 hdc2 HB6 HD6 HRR
  go_wp2_with fail
  go_loopg [19, 20] NA (fun k q19 q20 wr => ShWant x0 y1 (tabs S) AL w12 k q19 q20 wr)
  case atStart => exact ⟨0, rfl, Nat.zero_le _, by rw [HLA.out]; omega, Lib.hid (World.ownsRow_nil _ _ _ _), Below.refl _ _⟩
  case round =>
   obtain ⟨i, rfl, hi, hk, ho, hb⟩ := hrel
   rw [HLA.out] at hi hk
   have hs0 := hb.size
   by_cases hgo : i < NA
   ·have q1 : ((i : Int) < (NA : Int)) = True := by simp; omega
    obtain ⟨g0, g1⟩ := HXY.out _ hb
    obtain ⟨ad, hA5, _, cx⟩ := Ints.at_ (HI12.out.bel hb).any hgo
    subst hA5
    obtain ⟨x, hx⟩ : ∃ x, AL.getD i 0 = x := ⟨_, rfl⟩
    obtain ⟨p, hpx⟩ : ∃ p, AL.getD (i - 1) 0 = p := ⟨_, rfl⟩
    rw [hx] at cx
    have hst := bgnF_step (F := x0) (T := y1) (u := tabs S) (by rw [HLA.out]; exact hgo) hx
    have ho' := ho.out
    obtain ⟨W, hW⟩ : ∃ W, insP (bgnF AL x0 y1) (tabs S) 0 (AL.take i) = W := ⟨_, rfl⟩
    have hWl : W.length <= 458752 := by
     rw [<- hW]
     refine Nat.le_trans (insP_len _ _ _ _) ?_
     rw [List.length_take, tabs_len]
     have hmm := Nat.mul_le_mul (show min i AL.length <= 65536 by omega) (show S + 1 <= 7 by omega)
     omega
    rw [hW] at ho' hst
    obtain ⟨kp, hkp⟩ : ∃ kp, bgnF AL x0 y1 i = kp := ⟨_, rfl⟩
    have hkd : kp = decide (x0 <= (i : Int) /\ (i : Int) < y1 /\ (i = 0 \/ p = 10 \/ (p = 13 /\ x ≠ 10)) /\ x ≠ 10 /\ x ≠ 13) := by rw [<- hkp, <- hx, <- hpx]; rfl
    rw [hkp] at hst
    have HKD := Lib.hid hkd
    have HSTP := Lib.hid hst
    have HO := Lib.hid ho'
    have HXI := Lib.hid hx
    have HPX := Lib.hid hpx
    clear hkp hkd hst ho' hW hx hpx ho
    go_upto_region 20 with fail
    go_cut [21] (fun s wx => s = .bool (decide (i = 0 \/ p = 10 \/ (p = 13 /\ x ≠ 10))) /\ wx = wr)
    case first =>
     rcases Nat.eq_zero_or_pos i with hz | hz
     ·have p0 : ((i : Int) == 0) = true := by simp; exact hz
      go_wp2_with fail
      go_meet
      exact ⟨by simp [hz], rfl⟩
     ·have p0 : ((i : Int) == 0) = false := by rw [beq_eq_false_iff_ne]; omega
      have wi1 : IntKind.i64.wrap ((i : Int) - 1) = ((i - 1 : Nat) : Int) := by rw [IntWalk.i64_in _ (by omega)]; omega
      have r1 : (0 : Int) <= ((i - 1 : Nat) : Int) := by omega
      have r2 : ((i - 1 : Nat) : Int) < (NA : Int) := by omega
      have r3 : i - 1 < NA := by omega
      have hz' : i ≠ 0 := by omega
      obtain ⟨ad', e', _, cp⟩ := Ints.at_ (HI12.out.bel hb).any (show i - 1 < NA by omega)
      injection e' with e'
      subst e'
      rw [HPX.out] at cp
      by_cases p10 : p = 10
      ·subst p10
       go_wp2_with fail
       go_meet
       exact ⟨by simp, rfl⟩
      ·have p1 : (p == 10) = false := by rw [beq_eq_false_iff_ne]; exact p10
       by_cases p13 : p = 13
       ·subst p13
        by_cases x10 : x = 10
        ·subst x10
         go_wp2_with fail
         go_meet
         exact ⟨by rw [decide_eq_false (by omega)], rfl⟩
        ·have p2 : (x != 10) = true := by rw [bne_iff_ne]; exact x10
         go_wp2_with fail
         go_meet
         exact ⟨by simp [x10], rfl⟩
       ·have p2 : (p == 13) = false := by rw [beq_eq_false_iff_ne]; exact p13
        go_wp2_with fail
        go_meet
        exact ⟨by simp [hz', p10, p13], rfl⟩
    case rest =>
     obtain ⟨rfl, rfl⟩ := hcut
     obtain ⟨b0, hb0⟩ : ∃ b, decide (i = 0 \/ p = 10 \/ (p = 13 /\ x ≠ 10)) = b := ⟨_, rfl⟩
     rw [hb0]
     have HB0 := Lib.hid hb0
     clear hb0
     go_upto_region 21 with fail
     go_cut [146] (fun s wx => s = .bool kp /\ wx = wc)
     case first =>
      by_cases k1 : x0 <= (i : Int)
      ·have p1 : (x0 <= (i : Int)) = True := by simp; omega
       by_cases k2 : (i : Int) < y1
       ·have p2 : ((i : Int) < y1) = True := by simp; omega
        cases b0
        ·go_wp2_with fail
         go_meet
         exact ⟨by rw [HKD.out, decide_eq_false (fun h => of_decide_eq_false HB0.out h.2.2.1)], rfl⟩
        ·by_cases x10 : x = 10
         ·subst x10
          go_wp2_with fail
          go_meet
          exact ⟨by rw [HKD.out, decide_eq_false (fun h => h.2.2.2.1 rfl)], rfl⟩
         ·have p3 : (x != 10) = true := by rw [bne_iff_ne]; exact x10
          by_cases x13 : x = 13
          ·subst x13
           go_wp2_with fail
           go_meet
           exact ⟨by rw [HKD.out, decide_eq_false (fun h => h.2.2.2.2 rfl)], rfl⟩
          ·have p4 : (x != 13) = true := by rw [bne_iff_ne]; exact x13
           go_wp2_with fail
           go_meet
           exact ⟨by rw [HKD.out, decide_eq_true ⟨k1, k2, of_decide_eq_true HB0.out, x10, x13⟩], rfl⟩
       ·have p2 : ((i : Int) < y1) = False := by simp; omega
        go_wp2_with fail
        go_meet
        exact ⟨by rw [HKD.out, decide_eq_false (fun h => absurd h.2.1 (by omega))], rfl⟩
      ·have p1 : (x0 <= (i : Int)) = False := by simp; omega
       go_wp2_with fail
       go_meet
       exact ⟨by rw [HKD.out, decide_eq_false (fun h => absurd h.1 (by omega))], rfl⟩
     case rest =>
      obtain ⟨rfl, rfl⟩ := hcut
      obtain ⟨v, hv⟩ : ∃ v, (if kp = true then tabs S else []) = v := ⟨_, rfl⟩
      have hstp := HSTP.out
      rw [hv] at hstp
      have hvl : v.length <= 6 := by
       rw [<- hv]
       split
       ·rw [tabs_len]; omega
       ·exact Nat.zero_le _
      have HSTP := Lib.hid hstp
      have HV := Lib.hid hv
      clear hstp hv
      go_upto_if 146 with fail
      go_cut [19] (fun s wx => Hid (wx.ownsRow w12.heap.size 3 1 s (W ++ v).length ((W ++ v).map (Value.int .i64))) /\ Below w12.heap.size w12 wx)
      case first =>
       cases kp
       ·have hv0 : v = [] := by rw [<- HV.out]; rfl
        have HV0 := Lib.hid hv0
        clear hv0
        go_wp2_with fail
        go_meet
        refine ⟨Lib.hid ?_, hb⟩
        rw [HV0.out, List.append_nil]
        exact HO.out
       ·have hv0 : v = tabs S := by rw [<- HV.out]; rfl
        have HV0 := Lib.hid hv0
        have ho0 := HO.out
        clear hv0
        go_wp2_with fail
        go_loopg [19, 22] S (fun k q19 q22 wr' => ShTabs W S w12 k q19 q22 wr')
        case atStart => exact ⟨0, rfl, Nat.zero_le _, by omega, Lib.hid (by simpa [tabs] using ho0), hb⟩
        case round =>
         obtain ⟨r, rfl, hr, hkr, hor, hbr⟩ := hrel
         by_cases hrS : r < S
         ·have q2 : ((r : Int) < (S : Int)) = True := by simp; omega
          have wr1 : IntKind.i64.wrap ((r : Int) + 1) = ((r + 1 : Nat) : Int) := by rw [IntWalk.i64_in _ (by omega)]; omega
          have hwl : (W ++ tabs r).length <= 458800 := by rw [List.length_append, tabs_len]; omega
          have hszr := hbr.size
          obtain ⟨Wr, hWr⟩ : ∃ Wr, W ++ tabs r = Wr := ⟨_, rfl⟩
          have hor' := hor.out
          rw [hWr] at hor' hwl
          have HWR := Lib.hid hWr
          have HOR := Lib.hid hor'
          clear hWr hor' hor
          go_wp2_with (at_builtin; refine wpList_append_own_at _ rfl (.tmp 152) (.tmp 153) 35 rfl w12.heap.size 3 i0 (.int .i64 0) 1 8 Tryz.underlying35 HII.out hz0' hz1' hz2' rfl (by decide) u19 Wr.length _ rfl (HOR.out.alloc _) ⟨wr.heap.size, 0, none⟩ 1 1 [.int .i64 9] rfl rfl (cell_one_new _ _ _) (by simp [Value.oneCell']) (by unfold maxLen; omega) (by omega) (by simp; omega) ?_)
          intro v1 w13 hown1 hgr _ _
          have hb13 : Below w12.heap.size w12 w13 := below_grown2 (balloc hbr) hgr (fun k hk => own_ge HOR.out hk)
          have HO13 := Lib.hid hown1
          clear hown1 hgr
          go_wp2_with fail
          go_roundg (S - (r + 1))
          case measure => omega
          case rel =>
           refine ⟨r + 1, rfl, by omega, by omega, Lib.hid ?_, hb13⟩
           have e9 : W ++ tabs (r + 1) = (W ++ tabs r) ++ [9] := by
            unfold tabs
            rw [List.replicate_succ', List.append_assoc]
           rw [e9, HWR.out, List.length_append, List.map_append]
           exact HO13.out
         ·have q2 : ((r : Int) < (S : Int)) = False := by simp; omega
          have hrS2 : r = S := by omega
          have hor' := hor.out
          rw [hrS2, <- HV0.out] at hor'
          have HOR := Lib.hid hor'
          clear hor' hor hrS2
          go_wp2_with fail
          go_meet
          exact ⟨HOR, hbr⟩
      case rest =>
       obtain ⟨hod, hbd⟩ := hcut
       have hszd := hbd.size
       obtain ⟨ad', e', _, cx'⟩ := Ints.at_ (HI12.out.bel hbd).any hgo
       injection e' with e'
       subst e'
       rw [HXI.out] at cx'
       have hwl : (W ++ v).length <= 458800 := by rw [List.length_append]; omega
       obtain ⟨Wv, hWv⟩ : ∃ Wv, W ++ v = Wv := ⟨_, rfl⟩
       have hod' := hod.out
       rw [hWv] at hod' hwl
       have HWV := Lib.hid hWv
       have HOD := Lib.hid hod'
       clear hWv hod' hod
       have wi : IntKind.i64.wrap ((i : Int) + 1) = ((i + 1 : Nat) : Int) := by rw [IntWalk.i64_in _ (by omega)]; omega
       clear cx HO
       go_wp2_with (at_builtin; refine wpList_append_own_at _ rfl (.tmp 155) (.tmp 160) 35 rfl w12.heap.size 3 i0 (.int .i64 0) 1 8 Tryz.underlying35 HII.out hz0' hz1' hz2' rfl (by decide) u19 Wv.length _ rfl (HOD.out.alloc _) ⟨wc.heap.size, 0, none⟩ 1 1 [.int .i64 x] rfl rfl (cell_one_new _ _ _) (by simp [Value.oneCell']) (by unfold maxLen; omega) (by omega) (by simp; omega) ?_)
       intro v1 w14 hown1 hgr _ _
       have hb14 : Below w12.heap.size w12 w14 := below_grown2 (balloc hbd) hgr (fun k hk => own_ge HOD.out hk)
       have HO14 := Lib.hid hown1
       clear hown1 hgr
       go_wp2_with fail
       go_roundg (NA - (i + 1))
       case measure => omega
       case rel =>
        refine ⟨i + 1, by simp, by rw [HLA.out]; omega, by rw [HLA.out]; omega, ?_, hb14⟩
        rw [HSTP.out, <- List.append_assoc]
        refine Lib.hid ?_
        rw [HWV.out, List.length_append, List.map_append]
        exact HO14.out
   ·have q1 : ((i : Int) < (NA : Int)) = False := by simp; omega
    have htk : AL.take i = AL := List.take_of_length_le (by rw [HLA.out]; omega)
    have ho' := ho.out
    rw [htk, HTH.out] at ho'
    have hln2 := HLN2.out
    obtain ⟨cl, hcl⟩ : ∃ cl, st2.ats.map Prod.fst = cl := ⟨_, rfl⟩
    rw [hcl] at ho' hln2
    obtain ⟨A19, c19, rfl, hc19⟩ := own_slice ho'
    have hR := IntsI.of_own ho'
    have hdr := HD12.out.below hb
    have hBr := HB12.out.below hb
    have hat := batoms_any hdr hBr
    rw [hcl] at hat
    have hwr := bseq hw12 hb
    obtain ⟨c0, -⟩ := cells2 hBr
    have HAT := Lib.hid hat
    have HRR := Lib.hid hR
    have HCN := Lib.hid (fun (w' : World) (hb' : Below wr.heap.size wr w') => HHOME.out.1 ▸ count_line Any gt E (sizedA E st2.ats) w' (hdr.below hb').at_)
    have HDR := Lib.hid hdr
    have HBR := Lib.hid hBr
    have HCL := Lib.hid hcl
    clear hcl ho' hR hdr hBr hat htk ho hs0
    go_wp2_with fail
    refine (HAT.out).mono ?_
    intro e w13 hNI
    obtain ⟨A13, c13, rfl, hI13, hc13, hb13⟩ := hNI.slice
    have HSM := Lib.hid (same_eq (c := c13) (c' := c19) hI13 (HRR.out.bel hb13).any (by omega))
    clear hNI hI13 HAT
    go_wp2_with fail
    refine (HSM.out).mono ?_
    rintro e w14 ⟨rfl, hb14⟩
    clear HSM
    go_wp2_with fail
    refine (HCN.out _ (bseq hb13 hb14)).mono ?_
    rintro e w15 ⟨rfl, hb15⟩
    have hb15r := bseq (bseq hb13 hb14) hb15
    have hd15 := HDR.out.below hb15r
    have hw15 := bseq hwr hb15r
    have hcp2 := @countF_pos (sizedA E st2.ats)
    rw [HHOME.out.1] at hcp2
    obtain ⟨s2, s3, s4, hsz2, hdz2, hd22, hp2⟩ := HS2.out
    have hlf := at_line Any gt E (sizedA E st2.ats) f w15 hd15.at_ (by omega)
    have hrr := (rows_right hp2 hfl (by rw [HHOME.out.1]; exact hlM)).1
    obtain ⟨L, hLe, hfL, hLl, hshL⟩ := rows_left hp2 hfl (show l < countF (sizedA E st2.ats) by rw [HHOME.out.1]; exact hlM)
    have hfm := from_mono hp2 hfl (show l <= totE (sizedA E st2.ats) by omega)
    have hbf := lineF_bd hp2 (i := f) (by omega)
    have hbl := lineF_bd hp2 (i := l) (by omega)
    have HLL2 := Lib.hid (fun (w' : World) (h : TextAt w' Any gt E (sizedA E st2.ats)) => at_line Any gt E (sizedA E st2.ats) l w' h (by omega))
    obtain ⟨⟨a0, a1, a2, a3⟩, hL1⟩ : ∃ L, lineF (sizedA E st2.ats) f = L := ⟨_, rfl⟩
    obtain ⟨⟨z0, z1, z2, z3⟩, hL2⟩ : ∃ L, lineF (sizedA E st2.ats) l = L := ⟨_, rfl⟩
    rw [hL1] at hlf hrr hLe hfm hbf
    rw [hL2] at HLL2 hLe hfm hbl
    unfold Ln.cells at hlf HLL2
    dsimp only at hlf HLL2 hrr hLe hfm hbf hbl
    rw [sizedA_len] at hbf hbl
    have hB15 := HBR.out.below hb15r
    have hX15 := (HX12.out.below hb).below hb15r
    have hY15 := (HY12.out.below hb).below hb15r
    have hI15 := (HI12.out.bel hb).bel hb15r
    have HLF2 := Lib.hid hlf
    have HROW := Lib.hid (And.intro hrr (And.intro hLe hshL))
    have H15 := Lib.hid (And.intro hd15 (And.intro hB15 (And.intro hX15 (And.intro hY15 hI15))))
    clear hlf hrr hLe hshL hd15 hB15 hX15 hY15 hI15 hL1 hL2 s2 s3 s4 hsz2 hdz2 hd22 hp2 c0 HCN HDR HBR HRR HB12 HX12 HY12 HI12 HD12
    go_wp2_with fail
    refine (HLF2.out).mono ?_
    rintro e w16 ⟨rfl, hb16⟩
    obtain ⟨hd15, hB15, hX15, hY15, hI15⟩ := H15.out
    have hX16 := hX15.below hb16
    obtain ⟨⟨cx0, cx1, cx2, cx3⟩, fx0, fx1, fx2, fx3⟩ := jcells4 hX16
    have hF17 : Fr (· = bx) w16 ((((w16.setCell ⟨bx, 0, none⟩ (.int .i64 a0)).setCell ⟨bx, 1, none⟩ (.int .i64 a1)).setCell ⟨bx, 2, none⟩ (.int .i64 a2)).setCell ⟨bx, 3, none⟩ (.int .i64 a3)) := ((((Fr.refl _ _).set1 0 _).set1 1 _).set1 2 _).set1 3 _
    have hX17 := ((((hX16.set_ 0 (.int .i64 a0)).set_ 1 (.int .i64 a1)).set_ 2 (.int .i64 a2)).set_ 3 (.int .i64 a3)).eq_ (show _ = #[.int .i64 a0, .int .i64 a1, .int .i64 a2, .int .i64 a3] by simp)
    have hd17 := (hd15.below hb16).alien hF17 (fun q _ hq => ⟨fun e => Blk.ne_ hX16 (hd15.below hb16).desk (by decide) (hq.symm.trans e), _, _, hq ▸ hX16, by decide⟩)
    have hB17 := (hB15.below hb16).fr hF17 (fun e => Blk.ne_ (hB15.below hb16) hX16 (by decide) e)
    have hY17 := (hY15.below hb16).fr hF17 (fun e => hxy e.symm)
    have hI17 := (hI15.bel hb16).fr hF17 (fun q _ hq ⟨cs, hc⟩ => Blk.ne_ hc hX16 (by decide) hq)
    have hw17 := bfr (bseq hw15 hb16) hF17 (fun q hq => by have := hX16.lt; have h1 := hw6.size; have h2 := HGE.out; omega)
    have H17 := Lib.hid (And.intro hd17 (And.intro hB17 (And.intro hX17 (And.intro hY17 hI17))))
    clear hd17 hB17 hX17 hY17 hI17 hd15 hB15 hX15 hY15 hI15 hF17 hX16 H15 HLF2
    go_upto_region 30 with fail
    obtain ⟨w17, hw170⟩ : ∃ x, ((((w16.setCell ⟨bx, 0, none⟩ (.int .i64 a0)).setCell ⟨bx, 1, none⟩ (.int .i64 a1)).setCell ⟨bx, 2, none⟩ (.int .i64 a2)).setCell ⟨bx, 3, none⟩ (.int .i64 a3)) = x := ⟨_, rfl⟩
    rw [hw170] at H17 hw17 ⊢
    clear hw170 cx0 cx1 cx2 cx3 fx0 fx1 fx2 fx3
    obtain ⟨hd17, hB17, hX17, hY17, hI17⟩ := H17.out
    have HLLx := Lib.hid (HLL2.out w17 hd17.at_)
    clear hd17 hB17 hX17 hY17 hI17
    go_wp2_with fail
    refine (HLLx.out).mono ?_
    rintro e w18 ⟨rfl, hb18⟩
    obtain ⟨hd17, hB17, hX17, hY17, hI17⟩ := H17.out
    have hY18 := hY17.below hb18
    obtain ⟨⟨cx0, cx1, cx2, cx3⟩, fx0, fx1, fx2, fx3⟩ := jcells4 hY18
    have hF19 : Fr (· = bY) w18 ((((w18.setCell ⟨bY, 0, none⟩ (.int .i64 z0)).setCell ⟨bY, 1, none⟩ (.int .i64 z1)).setCell ⟨bY, 2, none⟩ (.int .i64 z2)).setCell ⟨bY, 3, none⟩ (.int .i64 z3)) := ((((Fr.refl _ _).set1 0 _).set1 1 _).set1 2 _).set1 3 _
    have hY19 := ((((hY18.set_ 0 (.int .i64 z0)).set_ 1 (.int .i64 z1)).set_ 2 (.int .i64 z2)).set_ 3 (.int .i64 z3)).eq_ (show _ = #[.int .i64 z0, .int .i64 z1, .int .i64 z2, .int .i64 z3] by simp)
    have hd19 := (hd17.below hb18).alien hF19 (fun q _ hq => ⟨fun e => Blk.ne_ hY18 (hd17.below hb18).desk (by decide) (hq.symm.trans e), _, _, hq ▸ hY18, by decide⟩)
    have hB19 := (hB17.below hb18).fr hF19 (fun e => Blk.ne_ (hB17.below hb18) hY18 (by decide) e)
    have hX19 := (hX17.below hb18).fr hF19 hxy
    have hI19 := (hI17.bel hb18).fr hF19 (fun q _ hq ⟨cs, hc⟩ => Blk.ne_ hc hY18 (by decide) hq)
    have hw19 := bfr (bseq hw17 hb18) hF19 (fun q hq => by have h1 := hw6.size; have h2 := HGE.out; omega)
    have H19 := Lib.hid (And.intro hd19 (And.intro hB19 (And.intro hX19 (And.intro hY19 hI19))))
    clear hd19 hB19 hX19 hY19 hI19 hd17 hB17 hX17 hY17 hI17 hF19 hY18 H17 HLLx HLL2
    go_upto_region 31 with fail
    obtain ⟨w19, hw190⟩ : ∃ x, ((((w18.setCell ⟨bY, 0, none⟩ (.int .i64 z0)).setCell ⟨bY, 1, none⟩ (.int .i64 z1)).setCell ⟨bY, 2, none⟩ (.int .i64 z2)).setCell ⟨bY, 3, none⟩ (.int .i64 z3)) = x := ⟨_, rfl⟩
    rw [hw190] at H19 hw19 ⊢
    clear hw190 cx0 cx1 cx2 cx3 fx0 fx1 fx2 fx3
    obtain ⟨hd19, hB19, hX19, hY19, hI19⟩ := H19.out
    obtain ⟨s2, s3, s4, hsz2, hdz2, hd22, hp2⟩ := HS2.out
    have hS0c : ∀ w', DFr B (· = gd) w19 w' -> w'.cell? ⟨bo, 0, none⟩ = some (.pointer (some ⟨gd, 0, none⟩)) /\ w'.cell? ⟨bx, 0, none⟩ = some (.int .i64 a0) /\ w'.cell? ⟨bY, 1, none⟩ = some (.int .i64 z1) := fun w' hf =>
     ⟨(hf.blk hB19 (by decide) hne).cell 0, (hf.blk hX19 (by decide) (fun e => Blk.ne_ hX19 hd19.desk (by decide) e)).cell 0, (hf.blk hY19 (by decide) (fun e => Blk.ne_ hY19 hd19.desk (by decide) e)).cell 1⟩
    have wneg : IntKind.i64.wrap (-(S : Int)) = -(S : Int) := IntWalk.i64_in _ (by omega)
    have hk4 := fun w' => within_any (l : Int) 1 w' (by omega) (by omega) (by omega)
    have hkd := withinF_bd (l : Int) 1 (by omega)
    obtain ⟨kd, hkde⟩ : ∃ kd, withinF (l : Int) 1 = kd := ⟨_, rfl⟩
    rw [hkde] at hk4 hkd
    have hst : stepsF (-(S : Int)) = -(S : Int) := by unfold stepsF; omega
    have hsh : ∀ (w' : World) (hb : Below w19.heap.size w19 w'), Calls Tryz.prog 13 #[.pointer (some ⟨gd, 0, none⟩), .agg #[.int .i64 a0, .int .i64 z1, .int .i64 kd], .int .i64 (-(S : Int))] w' fun e w2 => e = .returned (.int .i64 0) /\ ∃ n3 st3 dc3, DeskIs w2 B gd gb gt E lim n3 st3 dc3 /\ st3.ats.map Prod.fst = AL /\ DFr B (· = gd) w19 w2 := fun w' hb => by
     refine (dshift_any B gd gb gt (0 + 131072) E lim xx a0 z1 kd (-(S : Int)) st2 dc2 w' (hd19.below hb) s2 hdz2 hd22 (by omega) ⟨by omega, by omega, by omega⟩ (by omega) hsz2 (by decide) s3 s4).mono ?_
     rintro e w2 ⟨r, rfl, hp⟩
     rw [HROW.out.1, HROW.out.2.1, hst] at hp
     rcases hp.call hb with ⟨rfl, es2, c2, x2, he2, -, -, -, hd, hf⟩ | ⟨-, h0, -⟩
     ·exact ⟨rfl, _, _, _, hd, by rw [shiftS_ats]; exact HHOME.out.2 es2 (by rw [<- HROW.out.2.2]; exact he2), hf⟩
     ·omega
    have HS0 := Lib.hid hS0c
    have HK4 := Lib.hid hk4
    have HSH := Lib.hid hsh
    have HB19 := Lib.hid hB19
    have HI19 := Lib.hid hI19
    have HDK := Lib.hid hd19.desk
    clear hS0c hk4 hsh hB19 hX19 hY19 hI19 hd19 hkde hst s2 s3 s4 hsz2 hdz2 hd22 hp2 H19
    refine wp_region_lin (fun w' => w'.cell? ⟨bo, 0, none⟩ = some (.pointer (some ⟨gd, 0, none⟩)) /\ w'.cell? ⟨bx, 0, none⟩ = some (.int .i64 a0) /\ w'.cell? ⟨bY, 1, none⟩ = some (.int .i64 z1)) (fun w' => Below w19.heap.size w19 w') (fun k => k == 7 || k == 11 || k == 14 || k == 16) (fun _ => false) (fun _ => false) (by kernel_rfl) (by kernel_rfl) (Below.drew (Below.refl _ _)) (fun w' h => HS0.out w' (DFr.of_below h)) ?_
    repeat ((first
     | (refine wpL_read (v := ?_) (by rfl) (by rfl) (fun w6 hSw => ?_) ?_; rotate_left; (· (obtain ⟨y0, y1, y2⟩ := hSw; go_simp; try with_reducible rfl)))
     | (refine wpL_free (v := ?_) (by rfl) (fun w6 => ?_) ?_; rotate_left; (· (go_simp; try with_reducible rfl)))
     | refine wpL_not (by rfl) ?_); (try simp only [Act.put, pA, pB, pC]))
    refine wpL_call (f := ?_) (args := ?_) (fun v w' => v = .int .i64 kd /\ Below w19.heap.size w19 w') (by rfl) (by rfl) (fun w6 hSw => ?_) (fun w6 hSw => ?_) (.inr (fun v6 w6 hT6 => ?_)) (fun v6 hv6 => ?_)
    rotate_left 2
    ·(skip; go_simp; first | done | (constructor <;> with_reducible rfl) | with_reducible rfl)
    ·(refine (HK4.out _).mono ?_; rintro e w' ⟨rfl, rfl⟩; exact ⟨_, rfl, rfl, hSw⟩)
    ·(exact HS0.out _ (DFr.of_below hT6.2))
    obtain ⟨wz, rfl, -⟩ := hv6
    (try simp only [Act.put, pA, pB, pC])
    repeat ((first
     | (refine wpL_read (v := ?_) (by rfl) (by rfl) (fun w6 hSw => ?_) ?_; rotate_left; (· (obtain ⟨y0, y1, y2⟩ := hSw; go_simp; try with_reducible rfl)))
     | (refine wpL_free (v := ?_) (by rfl) (fun w6 => ?_) ?_; rotate_left; (· (go_simp; try with_reducible rfl)))
     | refine wpL_not (by rfl) ?_); (try simp only [Act.put, pA, pB, pC]))
    refine wpL_call (f := ?_) (args := ?_) (fun v w' => v = .int .i64 0 /\ ∃ n3 st3 dc3, DeskIs w' B gd gb gt E lim n3 st3 dc3 /\ st3.ats.map Prod.fst = AL /\ DFr B (· = gd) w19 w') (by rfl) (by rfl) (fun w6 hSw => ?_) (fun w6 hSw => ?_) (.inr (fun v6 w6 hT6 => ?_)) (fun v6 hv6 => ?_)
    rotate_left 2
    ·(skip; go_simp; first | done | (constructor <;> with_reducible rfl) | with_reducible rfl)
    ·(refine (HSH.out _ hSw.2).mono ?_; rintro e w' ⟨rfl, h⟩; exact ⟨_, rfl, rfl, h⟩)
    ·(obtain ⟨-, _, _, _, _, _, hf⟩ := hT6; exact HS0.out _ hf)
    obtain ⟨wz, rfl, -⟩ := hv6
    (try simp only [Act.put, pA, pB, pC])
    repeat ((first
     | (refine wpL_read (v := ?_) (by rfl) (by rfl) (fun w6 hSw => ?_) ?_; rotate_left; (· (obtain ⟨y0, y1, y2⟩ := hSw; go_simp; try with_reducible rfl)))
     | (refine wpL_free (v := ?_) (by rfl) (fun w6 => ?_) ?_; rotate_left; (· (go_simp; try with_reducible rfl)))
     | refine wpL_not (by rfl) ?_); (try simp only [Act.put, pA, pB, pC]))
    refine wpL_call (f := ?_) (args := ?_) (fun v w' => IntsW w' v AL.length AL /\ DFr B (· = gd) w19 w') (by rfl) (by rfl) (fun w6 hSw => ?_) (fun w6 hSw => ?_) (.inr (fun v6 w6 hT6 => ?_)) (fun v6 hv6 => ?_)
    rotate_left 2
    ·(skip; go_simp; first | done | (constructor <;> with_reducible rfl) | with_reducible rfl)
    ·(obtain ⟨-, n3, st3, dc3, hd3, ha3, hf3⟩ := hSw; have hba := batoms_any hd3 (hf3.blk HB19.out (by decide) hne); rw [ha3] at hba; refine hba.mono ?_; rintro e w' ⟨v, rfl, ho, hb'⟩; obtain ⟨A7, c7, rfl, _⟩ := own_slice ho; exact ⟨_, rfl, ⟨A7, c7, rfl, IntsI.of_own ho⟩, hf3.trans (DFr.of_below hb')⟩)
    ·(exact HS0.out _ hT6.2)
    obtain ⟨wz, hz7, -⟩ := hv6; obtain ⟨A7, c7, rfl⟩ := hz7.form
    (try simp only [Act.put, pA, pB, pC])
    repeat ((first
     | (refine wpL_read (v := ?_) (by rfl) (by rfl) (fun w6 hSw => ?_) ?_; rotate_left; (· (obtain ⟨y0, y1, y2⟩ := hSw; go_simp; try with_reducible rfl)))
     | (refine wpL_free (v := ?_) (by rfl) (fun w6 => ?_) ?_; rotate_left; (· (go_simp; try with_reducible rfl)))
     | refine wpL_not (by rfl) ?_); (try simp only [Act.put, pA, pB, pC]))
    refine wpL_call (f := ?_) (args := ?_) (fun v w' => v = .bool true /\ DFr B (· = gd) w19 w') (by rfl) (by rfl) (fun w6 hSw => ?_) (fun w6 hSw => ?_) (.inr (fun v6 w6 hT6 => ?_)) (fun v6 hv6 => ?_)
    rotate_left 2
    ·(skip; go_simp; first | done | (constructor <;> with_reducible rfl) | with_reducible rfl)
    ·(refine (same_eq (c := c7) (c' := c5) (hSw.1.at_.2).any (HI19.out.dfr hSw.2 HDK.out).any (by rw [HLA.out]; omega)).mono ?_; rintro e w' ⟨rfl, hb'⟩; exact ⟨_, rfl, rfl, hSw.2.trans (DFr.of_below hb')⟩)
    ·(exact HS0.out _ hT6.2)
    obtain ⟨wz, rfl, -⟩ := hv6
    (try simp only [Act.put, pA, pB, pC])
    repeat ((first
     | (refine wpL_read (v := ?_) (by rfl) (by rfl) (fun w6 hSw => ?_) ?_; rotate_left; (· (obtain ⟨y0, y1, y2⟩ := hSw; go_simp; try with_reducible rfl)))
     | (refine wpL_free (v := ?_) (by rfl) (fun w6 => ?_) ?_; rotate_left; (· (go_simp; try with_reducible rfl)))
     | refine wpL_not (by rfl) ?_); (try simp only [Act.put, pA, pB, pC]))
    refine wpL_nil ?_
    rintro w21 ⟨-, hf21⟩
    go_wp2_with fail
    go_ret
    exact ⟨rfl, bfr hw19 hf21 (fun q hs => by
     rcases hs with ⟨h1, _⟩ | h1
     ·omega
     ·omega)⟩
end Go.Proofs.YtkocknfhdojmbaaGreat
namespace Go.Proofs.YtkocknfhdojmbaaGreat.operateShifted
open Go.ChangeShapes Go.WideShapes Go.ChangeAt Go.RowKit
open Go.ChangeMaps (open_string shut_string)
set_option linter.unusedVariables false

theorem own : ownKnob Tryz.prog.godebug = none := by kernel_rfl
theorem laidOut : laidOutB Tryz.prog = true := by kernel_rfl

def IsRow (k : IntKind) (w : World) (a : Option Addr) (len cap : Nat) (zs : List Int) : Prop :=
 (a = none /\ len = 0 /\ cap = 0 /\ zs = []) \/
 ∃ x, a = some x /\ len <= cap /\ cap <= maxLen /\ zs.length = cap /\ (∀ i, i < zs.length -> w.cell? (x.add i) = some (.int k (zs.getD i 0))) /\ ∀ n ∈ zs, (Lit.int k n).wf = true
theorem fits_of {n : Int} (h : (Lit.int .i64 n).wf = true) : FitsI n := by
 have e1 : IntKind.i64.min = -9223372036854775808 := by decide
 have e2 : IntKind.i64.max = 9223372036854775807 := by decide
 unfold Lit.wf at h
 dsimp only at h
 rw [e1, e2, Bool.and_eq_true, decide_eq_true_eq, decide_eq_true_eq] at h
 exact h

theorem walk (a0 : Int) (a1 : Option Addr) (len1 cap1 : Nat) (z1 : List Int) (a2 a3 a4 b c d : Int) (w : World) (w1 : IsRow .u8 w a1 len1 cap1 z1) (h2 : FitsI a2) (h3 : FitsI a3) (h4 : FitsI a4) (hb : FitsI b) (hc : FitsI c) (hd : FitsI d) :
  Calls Tryz.prog 3 #[.agg #[.int .i64 a0, .slice a1 len1 cap1, .int .i64 a2, .int .i64 a3, .int .i64 a4], .int .i64 b, .int .i64 c, .int .i64 d] w fun e w' => e = .returned (.bool true) /\ Below w.heap.size w w' := by
 rcases w1 with ⟨rfl, rfl, rfl, rfl⟩ | ⟨x, rfl, hl, hm, hz, hcell, hwz⟩
 ·exact shifted_any ⟨a0, a2, a3, a4, []⟩ b c d none 0 0 w ⟨rfl, fun h => absurd h (by omega)⟩ (fun x hx => by cases hx) h2 h3 hb hc hd
 ·refine shifted_any ⟨a0, a2, a3, a4, z1.take len1⟩ b c d (some x) len1 cap1 w ⟨by simp; omega, fun _ => ⟨x, rfl, trivial, fun j u hu => ?_⟩⟩ (fun y hy => ?_) h2 h3 hb hc hd
  ·rw [List.getElem?_map, List.getElem?_take] at hu
   split at hu
   ·rename_i hj
    rw [List.getElem?_eq_getElem (by omega)] at hu
    have := hcell j (by omega)
    rw [List.getD_eq_getElem?_getD, List.getElem?_eq_getElem (by omega)] at this
    rw [this]
    exact hu
   ·cases hu
  ·have := hwz y (List.mem_of_mem_take hy)
   have e1 : IntKind.u8.min = 0 := by decide
   have e2 : IntKind.u8.max = 255 := by decide
   unfold Lit.wf at this
   dsimp only at this
   rw [e1, e2, Bool.and_eq_true, decide_eq_true_eq, decide_eq_true_eq] at this
   omega

theorem cellsI : Tryz.prog.cellsOf 3 = 1 := by kernel_rfl
theorem cellsS : Tryz.prog.cellsOf 22 = 1 := by kernel_rfl
theorem cellsT : Tryz.prog.cellsOf 24 = 5 := by kernel_rfl
theorem open_start {H : Type} {enc : TypeId × Value -> H} {W : World} {cs : Array Value} {d : DataW H} {p : List MemPlace} (hcs : cs.size = 5) (h : DataW.Trod enc Tryz.prog W 0 (fun _ => true) true 24 (.agg cs) d p) :
  ∃ (a0 : Int) (a1 : Option Addr) (len1 cap1 : Nat) (z1 : List Int) (a2 a3 a4 : Int), cs = #[.int .i64 a0, .slice a1 len1 cap1, .int .i64 a2, .int .i64 a3, .int .i64 a4] /\ IsRow .u8 W a1 len1 cap1 z1 /\ FitsI a2 /\ FitsI a3 /\ FitsI a4 := by
 obtain ⟨fuel, hf⟩ := h
 obtain ⟨xs, n, _, hx, hl, hxl, hfi⟩ := DataW.trod_struct Tryz.underlying24 hf
 rcases cs with ⟨l⟩
 match l, hcs with
 | [c0, c1, c2, c3, c4], _ =>
  have g0 := hfi 0 _ rfl
  have g1 := hfi 1 _ rfl
  have g2 := hfi 2 _ rfl
  have g3 := hfi 3 _ rfl
  have g4 := hfi 4 _ rfl
  simp [Value.cells, cellsI, cellsS] at g0 g1 g2 g3 g4
  have hxl' : xs.length = 5 := hxl
  rw [List.getElem?_eq_getElem (by omega)] at g0 g1 g2 g3 g4
  obtain ⟨n0, e0, _, w0⟩ := DataW.trod_int Tryz.underlying3 g0
  obtain ⟨n2, e2, _, w2⟩ := DataW.trod_int Tryz.underlying3 g2
  obtain ⟨n3, e3, _, w3⟩ := DataW.trod_int Tryz.underlying3 g3
  obtain ⟨n4, e4, _, w4⟩ := DataW.trod_int Tryz.underlying3 g4
  injection e0 with e0
  injection e2 with e2
  injection e3 with e3
  injection e4 with e4
  rcases open_ints Tryz.underlying22 Tryz.underlying5 (by kernel_rfl) g1 with ⟨e1, _⟩ | ⟨x, l, c, zs, e1, _, hl, hm, hz, _, hcell, hwz⟩
  ·injection e1 with e1
   exact ⟨n0, none, 0, 0, [], n2, n3, n4, by rw [e0, e1, e2, e3, e4], .inl ⟨rfl, rfl, rfl, rfl⟩, fits_of w2, fits_of w3, fits_of w4⟩
  ·injection e1 with e1
   exact ⟨n0, some x, l, c, zs, n2, n3, n4, by rw [e0, e1, e2, e3, e4], .inr ⟨_, rfl, hl, hm, by simpa using hz, hcell, hwz⟩, fits_of w2, fits_of w3, fits_of w4⟩

theorem lifted (os : Os) (started : os.Started) (H : Type) (enc : TypeId × Value -> H) :
  ReturnsInHanded {} Tryz.checked os 3 .any (Rows.operateShiftedSpec.pre6 enc Tryz.prog Tryz.f3 Rows.operateShiftedRow.domain false) (Rows.operateShiftedSpec.post enc Tryz.prog Tryz.f3 false true false false) := by
 refine returnsInHanded_of_change (C := Tryz.checked) own started (by kernel_rfl) Tryz.func3
  (ChangeSpec.witness6 (enc := enc) (C := Tryz.checked) false ⟨#[], #[.agg #[.int .i64 0, .slice none 0 0, .int .i64 0, .int .i64 0, .int .i64 0], .int .i64 0, .int .i64 0, .int .i64 0], []⟩ 8 (by kernel_rfl) (by kernel_rfl) (by kernel_rfl) (by kernel_rfl)) ?_
 intro W base args ds gs before hval0 hW hcnd _
 have hval : ∀ (j : Nat) t v, Tryz.f3.params[j]? = some t -> args[j]? = some v -> Value.okWide Tryz.prog W .any base t v := hval0
 have hW' := hW
 obtain ⟨p, q, hA0, hV, rfl, hfz, hnd⟩ := hW
 have hA : DataW.TrodAll enc Tryz.prog W 0 (fun _ => true) true Tryz.f3.params.toList args.toList ds p := hA0
 rw [Tryz.params3] at hA hval
 obtain ⟨v0, vs0, d0, ds0, p0, q0, hargs, rfl, rfl, h0, r0⟩ := trodAll_cons hA
 obtain ⟨v1, vs1, d1, ds1, p1, q1, rfl, rfl, rfl, h1, r1⟩ := trodAll_cons r0
 obtain ⟨v2, vs2, d2, ds2, p2, q2, rfl, rfl, rfl, h2, r2⟩ := trodAll_cons r1
 obtain ⟨v3, vs3, d3, ds3, p3, q3, rfl, rfl, rfl, h3, r3⟩ := trodAll_cons r2
 obtain ⟨rfl, rfl, rfl⟩ := trodAll_nil r3
 obtain rfl : args = #[v0, v1, v2, v3] := by cases args; simp_all
 obtain ⟨rfl, rfl⟩ := trodVars_none hV
 obtain ⟨cs, rfl, hcs⟩ := okWide_struct Tryz.underlying24 (hval 0 24 v0 rfl rfl)
 rw [cellsT] at hcs
 have k0 := h0
 have lt0 : ∀ x ∈ p0, x.block < W.heap.size := by obtain ⟨m, hm⟩ := k0; exact DataW.trod_lt m _ _ _ hm
 obtain ⟨a0, a1, len1, cap1, z1, a2, a3, a4, rfl, hrow, f2, f3, f4⟩ := open_start hcs h0
 obtain ⟨b, rfl, rfl, rfl, wb⟩ := open_int Tryz.underlying3 (hval 1 3 v1 rfl rfl) h1
 obtain ⟨c, rfl, rfl, rfl, wc⟩ := open_int Tryz.underlying3 (hval 2 3 v2 rfl rfl) h2
 obtain ⟨d, rfl, rfl, rfl, wd⟩ := open_int Tryz.underlying3 (hval 3 3 v3 rfl rfl) h3
 clear hA0 hval0
 refine (walk a0 a1 len1 cap1 z1 a2 a3 a4 b c d W hrow f2 f3 f4 (fits_of wb) (fits_of wc) (fits_of wd)).mono fun e W' ⟨he, bel⟩ => ?_
 subst he
 exact ⟨_, rfl, _, _, _, [], _, [], hW', trodAll_mk1 (shut_bool Tryz.underlying4 _), (trodAll_cons_mk (Below.trod laidOut (by kernel_rfl) (of_decide_eq_true (by kernel_rfl)) k0 bel lt0) (trodAll_cons_mk (shut_int Tryz.underlying3 wb) (trodAll_cons_mk (shut_int Tryz.underlying3 wc) (trodAll_cons_mk (shut_int Tryz.underlying3 wd) trodAll_mk0)))), rfl, bel.frame _, fun h => by cases h⟩

theorem over : Rows.operateShiftedRow.holds Tryz.pinned (OpenSpec.ofChange Rows.operateShiftedSpec) :=
 OpenClaim.holds_of_wide 3 Tryz.f3 rfl rfl rfl rfl rfl rfl rfl ⟨rfl, rfl, rfl, rfl, rfl⟩ rfl rfl rfl rfl rfl (by kernel_rfl) Tryz.func3 (by kernel_rfl)
  (of_decide_eq_true (by kernel_rfl)) (by unfold Func.isWrapper; first | (rw [if_pos (by decide +kernel)]; kernel_rfl) | (rw [if_neg (by decide +kernel)]; exact ⟨rfl, rfl⟩))
  (fun os started H enc _ => lifted os started H enc)

theorem proved : Rows.OperateShiftedSaid := over
end Go.Proofs.YtkocknfhdojmbaaGreat.operateShifted
