/-
  operate.Shift's act: the edits that shift lines.
-/
import Derived.Test.YtkoakanpaehkmaaGreatDoorLType
import Derived.Test.YtkoakanpaehkmaaGreatDoorLEncode
import Derived.Laws.MakeOwn
import Derived.Test.YtkoakanpaehkmaaGreatDoorLJoinLaw2
import Derived.Test.YtkoakanpaehkmaaGreatDoorLSnip2
import Derived.Test.YtkoakanpaehkmaaGreatDoorLDel
import Derived.Test.YtkoakanpaehkmaaGreatDoorLLawKit
import Derived.Test.YtkoakanpaehkmaaGreatDoorLJoin2
import Derived.Test.YtkoakanpaehkmaaGreatDoorLMove6
set_option linter.unusedSimpArgs false
set_option linter.unusedVariables false
set_option maxRecDepth 100000
set_option maxHeartbeats 32000000
namespace Go.Proofs.YtkoakanpaehkmaaGreatDoor
open Go.RowKit
theorem tenc_any (D : Nat -> Prop) (g : Nat) (enc : Int) (ds : List (Int × Int)) (w : World) (h : TextAt w D g enc ds) :
  Calls Tryz.prog 39 #[.pointer (some ⟨g, 0, none⟩)] w fun e w' => e = .returned (.int .i64 enc) /\ w = w' := by
 obtain ⟨lim, t, a, add, h, rfl⟩ := h
 obtain ⟨c1, _⟩ := h.cells
 clear h
 go_enter Tryz.func39, Tryz.ntmps39
 go_wp2_with fail
 go_ret
 exact ⟨rfl, rfl⟩
section
variable {B gd gb g n : Nat} {enc lim : Int} {st : BkS} {dc : Array Value} {w : World}
theorem checked_ok (h : DeskIs w B gd gb g enc lim n st dc) (a b k : Int) (hk : k = 0 \/ k = 1) (ha : 0 <= a /\ a <= b /\ b <= (st.ats.length : Int)) :
  Calls Tryz.prog 34 #[.pointer (some ⟨gd, 0, none⟩), .agg #[.int .i64 a, .int .i64 b, .int .i64 k]] w fun e w' => e = .returned (.tuple #[]) /\ Below w.heap.size w w' := by
 have hle := fun (w' : World) (hb : Below w.heap.size w w') => len_any Any g enc (sizedA enc st.ats) w' (h.below hb).at_
 rw [sizedA_len] at hle
 obtain ⟨N, hN⟩ : ∃ N, st.ats.length = N := ⟨_, rfl⟩
 rw [hN] at hle ha
 have HLE := Lib.hid hle
 have HT := Lib.hid (fun (w' : World) (hb : Below w.heap.size w w') => text_desk (h.below hb))
 have hw1 : Below w.heap.size w (w.alloc (.cells #[.int .i64 a, .int .i64 b, .int .i64 k] 26)) := balloc (Below.refl _ _)
 have hB := Blk.new w 26 #[.int .i64 a, .int .i64 b, .int .i64 k]
 have p1 : (a < 0) = False := by simp; omega
 have p2 : (b < a) = False := by simp; omega
 have p3 : ((N : Int) < b) = False := by simp; omega
 clear h hle hN
 go_enter Tryz.func34, Tryz.ntmps34
 go_upto_region 1 with fail
 obtain ⟨w1, hw10⟩ : ∃ x, w.alloc (.cells #[.int .i64 a, .int .i64 b, .int .i64 k] 26) = x := ⟨_, rfl⟩
 rw [hw10] at hw1 hB ⊢
 clear hw10
 obtain ⟨c0, c1, c2⟩ := cells3 hB
 have hS : ∀ w', Below w1.heap.size w1 w' -> w'.cell? ⟨w.heap.size, 0, none⟩ = some (.int .i64 a) /\ w'.cell? ⟨w.heap.size, 1, none⟩ = some (.int .i64 b) := fun w' hb => ⟨(hB.below hb).cell 0, (hB.below hb).cell 1⟩
 have HS := Lib.hid hS
 clear hS hB
 rcases hk with rfl | rfl
 all_goals
  go_wp2_with fail
  refine wp_region_steady (fun w' => Below w1.heap.size w1 w') (by kernel_rfl) (by kernel_rfl) (Below.drew (Below.refl _ _)) ?_
  repeat ((first
   | (refine wpSt_read (v := ?_) (by rfl) (fun w6 hSw => ?_) ?_; rotate_left; (· (obtain ⟨y0, y1⟩ := HS.out _ hSw; go_simp; try with_reducible rfl)))
   | refine wpSt_not (by rfl) ?_
   | (refine wpSt_call (f := ?_) (args := ?_) (v := .pointer (some ⟨g, 0, none⟩)) (by rfl) (fun w6 hSw => ?_) (fun w6 hSw => ?_) ?_; rotate_left 2; (· (obtain ⟨y0, y1⟩ := HS.out _ hSw; go_simp; first | done | (constructor <;> with_reducible rfl) | with_reducible rfl)); (· (refine (HT.out _ (bseq hw1 hSw)).mono ?_; rintro e w5 ⟨rfl, rfl⟩; exact ⟨rfl, hSw⟩)))
   | (refine wpSt_call (f := ?_) (args := ?_) (v := .int .i64 (N : Int)) (by rfl) (fun w6 hSw => ?_) (fun w6 hSw => ?_) ?_; rotate_left 2; (· (obtain ⟨y0, y1⟩ := HS.out _ hSw; go_simp; first | done | (constructor <;> with_reducible rfl) | with_reducible rfl)); (· (refine (HLE.out _ (bseq hw1 hSw)).mono ?_; rintro e w5 ⟨rfl, hb5⟩; exact ⟨rfl, bseq hSw hb5⟩)))); (try simp only [Act.put, pA, pB, pC]))
  refine wpSt_nil ?_
  intro w2 hb2
  go_wp2_with fail
  show bodyPost _ _ _ _ _ _
  refine bodyPost_end (results_none rfl _ _ _) rfl ?_
  exact ⟨rfl, bseq hw1 hb2⟩
theorem rows_desk (h : DeskIs w B gd gb g enc lim n st dc) (a b k : Int) (ha : 0 <= a /\ a <= b /\ b <= (st.ats.length : Int)) :
  Calls Tryz.prog 35 #[.pointer (some ⟨gd, 0, none⟩), .agg #[.int .i64 a, .int .i64 b, .int .i64 k]] w fun e w' => e = .returned (.tuple #[.int .i64 (rowIx (sizedA enc st.ats) a false : Int), .int .i64 (rowIx (sizedA enc st.ats) (max a (b - 1)) false : Int)]) /\ Below w.heap.size w w' := by
 have hlen := h.len
 have hof := fun (x : Int) (w' : World) (hb : Below w.heap.size w w') => of_line Any g enc (sizedA enc st.ats) x w' (h.below hb).at_
 have hcn := fun (w' : World) (hb : Below w.heap.size w w') => count_line Any g enc (sizedA enc st.ats) w' (h.below hb).at_
 have hcp := @countF_pos (sizedA enc st.ats)
 have hte : totE (sizedA enc st.ats) <= 65536 := Nat.le_trans (cntE_le _ _) (by rw [sizedA_len]; exact hlen)
 have hR : ∀ x, rowIx (sizedA enc st.ats) x false = min (ofF (sizedA enc st.ats) x) (countF (sizedA enc st.ats) - 1) := fun x => rfl
 obtain ⟨m, hm⟩ : ∃ m, max a (b - 1) = m := ⟨_, rfl⟩
 rw [hR, hR, hm]
 obtain ⟨M, hM⟩ : ∃ M, countF (sizedA enc st.ats) = M := ⟨_, rfl⟩
 have hofa := hof a
 have hofm := hof m
 obtain ⟨V, hV⟩ : ∃ V, ofF (sizedA enc st.ats) a = V := ⟨_, rfl⟩
 obtain ⟨U, hU⟩ : ∃ U, ofF (sizedA enc st.ats) m = U := ⟨_, rfl⟩
 rw [hM] at hcn hcp ⊢
 rw [hV] at hofa ⊢
 rw [hU] at hofm ⊢
 obtain ⟨K, hK⟩ : ∃ K, M - 1 = K := ⟨_, rfl⟩
 rw [hK]
 have wm : IntKind.i64.wrap ((M : Int) - 1) = (K : Int) := by rw [IntWalk.i64_in _ (by omega)]; omega
 have wb : IntKind.i64.wrap (b - 1) = b - 1 := IntWalk.i64_in _ (by omega)
 have HCN := Lib.hid hcn
 have HOA := Lib.hid hofa
 have HOM := Lib.hid hofm
 have HT := Lib.hid (fun (w' : World) (hb : Below w.heap.size w w') => text_desk (h.below hb))
 have hw1 : Below w.heap.size w (w.alloc (.cells #[.int .i64 a, .int .i64 b, .int .i64 k] 26)) := balloc (Below.refl _ _)
 have hB := Blk.new w 26 #[.int .i64 a, .int .i64 b, .int .i64 k]
 have HMX := Lib.hid hm
 have HUV := Lib.hid (show m = a -> U = V from fun e => by rw [<- hU, <- hV, e])
 have hmab : (a < b - 1 /\ m = b - 1) \/ (¬ a < b - 1 /\ m = a) := by omega
 clear h hof hcn hofa hofm hM hV hU hm hK hR hlen hcp hte
 go_enter Tryz.func35, Tryz.ntmps35
 go_upto_region 1 with fail
 obtain ⟨w1, hw10⟩ : ∃ x, w.alloc (.cells #[.int .i64 a, .int .i64 b, .int .i64 k] 26) = x := ⟨_, rfl⟩
 rw [hw10] at hw1 hB ⊢
 clear hw10
 go_wp2_with fail
 refine (HT.out _ hw1).mono ?_
 rintro e w2 ⟨rfl, rfl⟩
 go_wp2_with fail
 refine (HCN.out _ hw1).mono ?_
 rintro e w2 ⟨rfl, hb2⟩
 have hw2 := bseq hw1 hb2
 have hS : ∀ w', Below w2.heap.size w2 w' -> w'.cell? ⟨w.heap.size, 0, none⟩ = some (.int .i64 a) /\ w'.cell? ⟨w.heap.size, 1, none⟩ = some (.int .i64 b) := fun w' hb => ⟨(hB.below (bseq hb2 hb)).cell 0, (hB.below (bseq hb2 hb)).cell 1⟩
 have HS := Lib.hid hS
 clear hS hB HCN HT
 go_upto_region 3 with fail
 have HMN := Lib.hid (show ∀ x : Nat, (K < x -> (min x K : Nat) = K) /\ (x <= K -> (min x K : Nat) = x) from fun x => ⟨fun h => by omega, fun h => by omega⟩)
 rcases hmab with ⟨q0, q1⟩ | ⟨q0, q1⟩
 ·subst q1
  have p0 : (a < b - 1) = True := by simp; omega
  clear q0
  rcases Nat.lt_or_ge K V with q2 | q2
  ·rcases Nat.lt_or_ge K U with q3 | q3
   ·have p1 : ((K : Int) < (V : Int)) = True := by simp; omega
    have p2 : (K < V) = True := by simp; omega
    have p3 : ((K : Int) < (U : Int)) = True := by simp; omega
    have p4 : (K < U) = True := by simp; omega
    have e1 := (HMN.out V).1 q2
    have e2 := (HMN.out U).1 q3
    have E1 := Lib.hid e1
    have E2 := Lib.hid e2
    clear e1 e2 q2 q3
    refine wp_region_steady (fun w' => Below w2.heap.size w2 w') (by kernel_rfl) (by kernel_rfl) (Below.drew (Below.refl _ _)) ?_
    repeat ((first
     | (refine wpSt_read (v := ?_) (by rfl) (fun w6 hSw => ?_) ?_; rotate_left; (· (obtain ⟨y0, y1⟩ := HS.out _ hSw; go_simp; try with_reducible rfl)))
     | refine wpSt_not (by rfl) ?_
     | (refine wpSt_call (f := ?_) (args := ?_) (v := .int .i64 (V : Int)) (by rfl) (fun w6 hSw => ?_) (fun w6 hSw => ?_) ?_; rotate_left 2; (· (obtain ⟨y0, y1⟩ := HS.out _ hSw; go_simp; first | done | (constructor <;> with_reducible rfl) | with_reducible rfl)); (· ((with_reducible refine (HOA.out _ (bseq hw2 hSw)).mono ?_); rintro e w5 ⟨rfl, hb5⟩; exact ⟨rfl, bseq hSw hb5⟩)))
     | (refine wpSt_call (f := ?_) (args := ?_) (v := .int .i64 (U : Int)) (by rfl) (fun w6 hSw => ?_) (fun w6 hSw => ?_) ?_; rotate_left 2; (· (obtain ⟨y0, y1⟩ := HS.out _ hSw; go_simp; first | done | (constructor <;> with_reducible rfl) | with_reducible rfl)); (· ((with_reducible refine (HOM.out _ (bseq hw2 hSw)).mono ?_); rintro e w5 ⟨rfl, hb5⟩; exact ⟨rfl, bseq hSw hb5⟩)))); (try simp only [Act.put, pA, pB, pC]))
    refine wpSt_nil ?_
    intro w3 hb3
    go_wp2_with fail
    exact bodyPost_ret (v := .tuple #[.int .i64 (K : Int), .int .i64 (K : Int)]) (by simp [results, Tryz.results35, go_sem]) rfl ⟨by rw [E1.out, E2.out], bseq hw2 hb3⟩
   ·have p1 : ((K : Int) < (V : Int)) = True := by simp; omega
    have p2 : (K < V) = True := by simp; omega
    have p3 : ((K : Int) < (U : Int)) = False := by simp; omega
    have p4 : (K < U) = False := by simp; omega
    have e1 := (HMN.out V).1 q2
    have e2 := (HMN.out U).2 q3
    have E1 := Lib.hid e1
    have E2 := Lib.hid e2
    clear e1 e2 q2 q3
    refine wp_region_steady (fun w' => Below w2.heap.size w2 w') (by kernel_rfl) (by kernel_rfl) (Below.drew (Below.refl _ _)) ?_
    repeat ((first
     | (refine wpSt_read (v := ?_) (by rfl) (fun w6 hSw => ?_) ?_; rotate_left; (· (obtain ⟨y0, y1⟩ := HS.out _ hSw; go_simp; try with_reducible rfl)))
     | refine wpSt_not (by rfl) ?_
     | (refine wpSt_call (f := ?_) (args := ?_) (v := .int .i64 (V : Int)) (by rfl) (fun w6 hSw => ?_) (fun w6 hSw => ?_) ?_; rotate_left 2; (· (obtain ⟨y0, y1⟩ := HS.out _ hSw; go_simp; first | done | (constructor <;> with_reducible rfl) | with_reducible rfl)); (· ((with_reducible refine (HOA.out _ (bseq hw2 hSw)).mono ?_); rintro e w5 ⟨rfl, hb5⟩; exact ⟨rfl, bseq hSw hb5⟩)))
     | (refine wpSt_call (f := ?_) (args := ?_) (v := .int .i64 (U : Int)) (by rfl) (fun w6 hSw => ?_) (fun w6 hSw => ?_) ?_; rotate_left 2; (· (obtain ⟨y0, y1⟩ := HS.out _ hSw; go_simp; first | done | (constructor <;> with_reducible rfl) | with_reducible rfl)); (· ((with_reducible refine (HOM.out _ (bseq hw2 hSw)).mono ?_); rintro e w5 ⟨rfl, hb5⟩; exact ⟨rfl, bseq hSw hb5⟩)))); (try simp only [Act.put, pA, pB, pC]))
    refine wpSt_nil ?_
    intro w3 hb3
    go_wp2_with fail
    exact bodyPost_ret (v := .tuple #[.int .i64 (K : Int), .int .i64 (U : Int)]) (by simp [results, Tryz.results35, go_sem]) rfl ⟨by rw [E1.out, E2.out], bseq hw2 hb3⟩
  ·rcases Nat.lt_or_ge K U with q3 | q3
   ·have p1 : ((K : Int) < (V : Int)) = False := by simp; omega
    have p2 : (K < V) = False := by simp; omega
    have p3 : ((K : Int) < (U : Int)) = True := by simp; omega
    have p4 : (K < U) = True := by simp; omega
    have e1 := (HMN.out V).2 q2
    have e2 := (HMN.out U).1 q3
    have E1 := Lib.hid e1
    have E2 := Lib.hid e2
    clear e1 e2 q2 q3
    refine wp_region_steady (fun w' => Below w2.heap.size w2 w') (by kernel_rfl) (by kernel_rfl) (Below.drew (Below.refl _ _)) ?_
    repeat ((first
     | (refine wpSt_read (v := ?_) (by rfl) (fun w6 hSw => ?_) ?_; rotate_left; (· (obtain ⟨y0, y1⟩ := HS.out _ hSw; go_simp; try with_reducible rfl)))
     | refine wpSt_not (by rfl) ?_
     | (refine wpSt_call (f := ?_) (args := ?_) (v := .int .i64 (V : Int)) (by rfl) (fun w6 hSw => ?_) (fun w6 hSw => ?_) ?_; rotate_left 2; (· (obtain ⟨y0, y1⟩ := HS.out _ hSw; go_simp; first | done | (constructor <;> with_reducible rfl) | with_reducible rfl)); (· ((with_reducible refine (HOA.out _ (bseq hw2 hSw)).mono ?_); rintro e w5 ⟨rfl, hb5⟩; exact ⟨rfl, bseq hSw hb5⟩)))
     | (refine wpSt_call (f := ?_) (args := ?_) (v := .int .i64 (U : Int)) (by rfl) (fun w6 hSw => ?_) (fun w6 hSw => ?_) ?_; rotate_left 2; (· (obtain ⟨y0, y1⟩ := HS.out _ hSw; go_simp; first | done | (constructor <;> with_reducible rfl) | with_reducible rfl)); (· ((with_reducible refine (HOM.out _ (bseq hw2 hSw)).mono ?_); rintro e w5 ⟨rfl, hb5⟩; exact ⟨rfl, bseq hSw hb5⟩)))); (try simp only [Act.put, pA, pB, pC]))
    refine wpSt_nil ?_
    intro w3 hb3
    go_wp2_with fail
    exact bodyPost_ret (v := .tuple #[.int .i64 (V : Int), .int .i64 (K : Int)]) (by simp [results, Tryz.results35, go_sem]) rfl ⟨by rw [E1.out, E2.out], bseq hw2 hb3⟩
   ·have p1 : ((K : Int) < (V : Int)) = False := by simp; omega
    have p2 : (K < V) = False := by simp; omega
    have p3 : ((K : Int) < (U : Int)) = False := by simp; omega
    have p4 : (K < U) = False := by simp; omega
    have e1 := (HMN.out V).2 q2
    have e2 := (HMN.out U).2 q3
    have E1 := Lib.hid e1
    have E2 := Lib.hid e2
    clear e1 e2 q2 q3
    refine wp_region_steady (fun w' => Below w2.heap.size w2 w') (by kernel_rfl) (by kernel_rfl) (Below.drew (Below.refl _ _)) ?_
    repeat ((first
     | (refine wpSt_read (v := ?_) (by rfl) (fun w6 hSw => ?_) ?_; rotate_left; (· (obtain ⟨y0, y1⟩ := HS.out _ hSw; go_simp; try with_reducible rfl)))
     | refine wpSt_not (by rfl) ?_
     | (refine wpSt_call (f := ?_) (args := ?_) (v := .int .i64 (V : Int)) (by rfl) (fun w6 hSw => ?_) (fun w6 hSw => ?_) ?_; rotate_left 2; (· (obtain ⟨y0, y1⟩ := HS.out _ hSw; go_simp; first | done | (constructor <;> with_reducible rfl) | with_reducible rfl)); (· ((with_reducible refine (HOA.out _ (bseq hw2 hSw)).mono ?_); rintro e w5 ⟨rfl, hb5⟩; exact ⟨rfl, bseq hSw hb5⟩)))
     | (refine wpSt_call (f := ?_) (args := ?_) (v := .int .i64 (U : Int)) (by rfl) (fun w6 hSw => ?_) (fun w6 hSw => ?_) ?_; rotate_left 2; (· (obtain ⟨y0, y1⟩ := HS.out _ hSw; go_simp; first | done | (constructor <;> with_reducible rfl) | with_reducible rfl)); (· ((with_reducible refine (HOM.out _ (bseq hw2 hSw)).mono ?_); rintro e w5 ⟨rfl, hb5⟩; exact ⟨rfl, bseq hSw hb5⟩)))); (try simp only [Act.put, pA, pB, pC]))
    refine wpSt_nil ?_
    intro w3 hb3
    go_wp2_with fail
    exact bodyPost_ret (v := .tuple #[.int .i64 (V : Int), .int .i64 (U : Int)]) (by simp [results, Tryz.results35, go_sem]) rfl ⟨by rw [E1.out, E2.out], bseq hw2 hb3⟩
 ·subst q1
  have huv := HUV.out rfl
  subst huv
  have p0 : (m < b - 1) = False := by simp; omega
  clear q0
  rcases Nat.lt_or_ge K U with q2 | q2
  ·have p1 : ((K : Int) < (U : Int)) = True := by simp; omega
   have p2 : (K < U) = True := by simp; omega
   have e1 := (HMN.out U).1 q2
   have E1 := Lib.hid e1
   clear e1 q2
   refine wp_region_steady (fun w' => Below w2.heap.size w2 w') (by kernel_rfl) (by kernel_rfl) (Below.drew (Below.refl _ _)) ?_
   repeat ((first
    | (refine wpSt_read (v := ?_) (by rfl) (fun w6 hSw => ?_) ?_; rotate_left; (· (obtain ⟨y0, y1⟩ := HS.out _ hSw; go_simp; try with_reducible rfl)))
    | refine wpSt_not (by rfl) ?_
    | (refine wpSt_call (f := ?_) (args := ?_) (v := .int .i64 (U : Int)) (by rfl) (fun w6 hSw => ?_) (fun w6 hSw => ?_) ?_; rotate_left 2; (· (obtain ⟨y0, y1⟩ := HS.out _ hSw; go_simp; first | done | (constructor <;> with_reducible rfl) | with_reducible rfl)); (· ((with_reducible refine (HOA.out _ (bseq hw2 hSw)).mono ?_); rintro e w5 ⟨rfl, hb5⟩; exact ⟨rfl, bseq hSw hb5⟩)))); (try simp only [Act.put, pA, pB, pC]))
   refine wpSt_nil ?_
   intro w3 hb3
   go_wp2_with fail
   exact bodyPost_ret (v := .tuple #[.int .i64 (K : Int), .int .i64 (K : Int)]) (by simp [results, Tryz.results35, go_sem]) rfl ⟨by rw [E1.out], bseq hw2 hb3⟩
  ·have p1 : ((K : Int) < (U : Int)) = False := by simp; omega
   have p2 : (K < U) = False := by simp; omega
   have e1 := (HMN.out U).2 q2
   have E1 := Lib.hid e1
   clear e1 q2
   refine wp_region_steady (fun w' => Below w2.heap.size w2 w') (by kernel_rfl) (by kernel_rfl) (Below.drew (Below.refl _ _)) ?_
   repeat ((first
    | (refine wpSt_read (v := ?_) (by rfl) (fun w6 hSw => ?_) ?_; rotate_left; (· (obtain ⟨y0, y1⟩ := HS.out _ hSw; go_simp; try with_reducible rfl)))
    | refine wpSt_not (by rfl) ?_
    | (refine wpSt_call (f := ?_) (args := ?_) (v := .int .i64 (U : Int)) (by rfl) (fun w6 hSw => ?_) (fun w6 hSw => ?_) ?_; rotate_left 2; (· (obtain ⟨y0, y1⟩ := HS.out _ hSw; go_simp; first | done | (constructor <;> with_reducible rfl) | with_reducible rfl)); (· ((with_reducible refine (HOA.out _ (bseq hw2 hSw)).mono ?_); rintro e w5 ⟨rfl, hb5⟩; exact ⟨rfl, bseq hSw hb5⟩)))); (try simp only [Act.put, pA, pB, pC]))
   refine wpSt_nil ?_
   intro w3 hb3
   go_wp2_with fail
   exact bodyPost_ret (v := .tuple #[.int .i64 (U : Int), .int .i64 (U : Int)]) (by simp [results, Tryz.results35, go_sem]) rfl ⟨by rw [E1.out], bseq hw2 hb3⟩
end
theorem sum_bytes {ds : List (Int × Int)} (hp : PosD ds) : (sumsOf ds).bytes = szS ds := by
 have := szS_bytes hp ds.length
 rwa [List.take_length] at this
theorem ofF_mono (ds : List (Int × Int)) {x y : Int} (h : x <= y) : ofF ds x <= ofF ds y := by
 unfold ofF
 exact cntE_mono _ (by omega)
theorem rowIx_mono (ds : List (Int × Int)) {x y : Int} (h : x <= y) : rowIx ds x false <= rowIx ds y false := by
 have := ofF_mono ds h
 unfold rowIx
 simp only [Bool.false_eq_true, if_false]
 omega
theorem edL_map {α β : Type} (f : Int -> α) (g : α -> β) : ∀ (es : List Ed) (l : List α), (edL f es l).map g = edL (fun x => g (f x)) es (l.map g) := by
 intro es
 induction es with
 | nil => intro l; rfl
 | cons e r ih =>
  intro l
  rw [edL_cons, edL_cons, <- ih l]
  unfold ed1
  rw [List.map_append, List.map_append, List.map_take, List.map_drop, List.map_map]
  rfl
theorem edA_edL (es : List Ed) (l : List (Int × Int)) : (edA es l).map Prod.fst = edL (fun x => x) es (l.map Prod.fst) := edL_map _ _ es l
theorem sizedA_ed (enc : Int) (es : List Ed) (ats : List (Int × Int)) : sizedA enc (edA es ats) = edD enc es (sizedA enc ats) := by
 have h1 : ∀ l : List (Int × Int), sizedA enc l = (l.map Prod.fst).map (fun x => (x, szA enc x)) := fun l => by
  unfold sizedA withSz
  first | rfl | simp
 rw [h1, h1, edA_edL, edL_map]
 rfl
theorem sized_fits {enc lim : Int} {es : List Ed} {ats : List (Int × Int)} (hp : PosD (sizedA enc ats)) (h : refF enc lim (sizedA enc ats) es = 0) (hl : lim <= 65536) (hs : szS (sizedA enc ats) <= 65536) : szS (sizedA enc (edA es ats)) <= lim := by
 rw [sizedA_ed]
 exact (refF_ok hp h hl hs).2.2.2.2
def PutI (w : World) (base : Nat) (e : Ed) : Prop := Ints w (fun b => base <= b /\ ∃ cs, Blk w b 3 cs) e.A e.n e.put
theorem PutI.ints {w : World} {base : Nat} {e : Ed} (h : PutI w base e) : Ints w (fun b => base <= b /\ ∃ cs, Blk w b 3 cs) e.A e.n e.put := h
theorem PutI.fr {w w' : World} {base : Nat} {e : Ed} {S : Nat -> Prop} (h : PutI w base e) (hf : Fr S w w') (hS : ∀ b, b < w.heap.size -> S b -> ¬ ∃ cs, Blk w b 3 cs) : PutI w' base e := by
 have h0 : Ints w (fun b => base <= b /\ ∃ cs, Blk w b 3 cs) e.A e.n e.put := h
 have h1 : Ints w' (fun b => b < w.heap.size /\ base <= b /\ ∃ cs, Blk w b 3 cs) e.A e.n e.put := Reads.fr (Reads.more h0 (D' := fun b => b < w.heap.size /\ base <= b /\ ∃ cs, Blk w b 3 cs) (fun b hb hlt => ⟨hlt, hb⟩) (by decide)) hf (fun b hb hlt hs => hS b hlt hs hb.2.2)
 exact Reads.more h1 (D' := fun b => base <= b /\ ∃ cs, Blk w' b 3 cs) (fun b hb _ => by
  obtain ⟨hlt, hle, cs, hb⟩ := hb
  exact ⟨hle, cs, hb.fr hf (fun hs => hS b hlt hs ⟨cs, hb⟩)⟩) (by decide)
theorem PutI.bel {w w' : World} {base : Nat} {e : Ed} (h : PutI w base e) (hb : Below w.heap.size w w') : PutI w' base e := h.fr (S := fun _ => False) (Fr.of_below hb) (fun _ _ hs => hs.elim)
theorem PutI.of_own {w : World} {base n c : Nat} {A : Option Addr} {f t : Int} {xs : List Int} (h : w.ownsRow base 3 1 (.slice A n c) n (xs.map (Value.int .i64))) : PutI w base ⟨f, t, A, n, c, xs⟩ := by
 refine ⟨h.1, fun hk => ?_⟩
 rcases h.2 with ⟨e0, h0⟩ | ⟨r, c', cur, e1, hb, hr, h1, h2, h3, h4⟩
 ·dsimp only at hk
  omega
 ·have hA : A = some ⟨r, 0, none⟩ := by injection e1
  obtain ⟨ad, e2, _, hc⟩ := (Reads.of_own h).2 hk
  rw [hA] at e2
  injection e2 with e2
  refine ⟨ad, by dsimp only; rw [hA, e2], ⟨?_, cur, ?_⟩, hc⟩
  ·rw [<- e2]
   exact hb
  ·rw [<- e2]
   exact hr
structure EdsS (w : World) (base : Nat) (v : Value) (es : List Ed) : Prop where
 row : w.ownsRow base 80 3 v es.length (es.flatMap fun e => e.cells.toList)
 put : ∀ e ∈ es, PutI w base e
theorem EdsS.eds {w : World} {base k c : Nat} {A : Option Addr} {es : List Ed} (h : EdsS w base (.slice A k c) es) (hk : es.length = k) : EdsAt w (fun b => base <= b /\ ((∃ cs, Blk w b 3 cs) \/ ∃ cs, Blk w b 80 cs)) A k es := by
 subst hk
 refine ⟨⟨h.row.1, fun hk => ?_⟩, fun e he => Reads.more (h.put e he).ints (fun b hb _ => ⟨hb.1, .inl hb.2⟩) (by decide)⟩
 rcases h.row.2 with ⟨_, h0⟩ | ⟨r, c', cur, e1, hb, hr, h1, h2, h3, h4⟩
 ·omega
 ·have hA : A = some ⟨r, 0, none⟩ := by injection e1
  obtain ⟨ad, e2, _, hc⟩ := (Reads.of_own h.row).2 hk
  rw [hA] at e2
  injection e2 with e2
  refine ⟨ad, by rw [hA, e2], ⟨?_, .inr ⟨cur, ?_⟩⟩, hc⟩
  ·rw [<- e2]
   exact hb
  ·rw [<- e2]
   exact hr
theorem EdsS.bel {w w' : World} {base : Nat} {v : Value} {es : List Ed} (h : EdsS w base v es) (hb : Below w.heap.size w w') : EdsS w' base v es :=
 ⟨own_bel h.row hb, fun e he => (h.put e he).fr (S := fun _ => False) (Fr.of_below hb) (fun _ _ hs => hs.elim)⟩
theorem EdsS.snoc {w w1 w2 : World} {base : Nat} {v v' : Value} {es : List Ed} {e : Ed} (h : EdsS w base v es) (hb : Below w.heap.size w w1) (hp : PutI w1 base e)
  (hg : w1.grownBy w2 v.ownBlock) (ho : w2.ownsRow base 80 3 v' (es.length + 1) ((es.flatMap fun e => e.cells.toList) ++ e.cells.toList)) : EdsS w2 base v' (es ++ [e]) := by
 have hF : Fr (OwnB v) w1 w2 := (Fr.refl _ w1).grown hg (fun k hk _ => hk)
 have hn : ∀ b, b < w1.heap.size -> OwnB v b -> ¬ ∃ cs, Blk w1 b 3 cs := fun b _ hs ⟨cs, hc⟩ => own_blk_ne (own_bel h.row hb) hc (by decide) hs
 refine ⟨?_, fun x hx => ?_⟩
 ·rw [List.length_append, List.flatMap_append]
  simpa using ho
 ·rcases List.mem_append.1 hx with hx | hx
  ·exact ((h.bel hb).put x hx).fr hF hn
  ·rw [List.mem_singleton] at hx
   subst hx
   exact hp.fr hF hn
theorem EdsS.nil (w : World) (base : Nat) : EdsS w base (.slice none 0 0) [] := ⟨World.ownsRow_nil _ _ _ _, fun e he => by cases he⟩
def PutV (w : World) (base : Nat) (v : Value) (n : Nat) (l : List Int) : Prop := ∃ A c, v = .slice A n c /\ PutI w base ⟨0, 0, A, n, c, l⟩
theorem PutV.at_ {w : World} {base : Nat} {A : Option Addr} {n m c : Nat} {f t : Int} {l : List Int} (h : PutV w base (.slice A n c) m l) : n = m /\ PutI w base ⟨f, t, A, n, c, l⟩ := by
 obtain ⟨A', c', e, h⟩ := h
 injection e with e1 e2 e3
 subst e1 e2
 exact ⟨rfl, h⟩
theorem PutV.of_new {w w' : World} {base : Nat} {e : Ending} {l : List Int} (h : NewInts l w e w') (hb : base <= w.heap.size) : ∃ v, e = .returned v /\ PutV w' base v l.length l /\ Below w.heap.size w w' := by
 obtain ⟨v, rfl, ho, hbl⟩ := h
 obtain ⟨A, c, rfl, _⟩ := own_slice ho
 have h1 : PutI w' w.heap.size ⟨0, 0, A, l.length, c, l⟩ := PutI.of_own ho
 refine ⟨_, rfl, ⟨A, c, rfl, ?_⟩, hbl⟩
 exact Reads.more (D' := fun b => base <= b /\ ∃ cs, Blk w' b 3 cs) h1.ints (fun b hb' _ => ⟨Nat.le_trans hb hb'.1, hb'.2⟩) (by decide)
theorem lfield0 (a b c d : Int) (w : World) : (Instr.field 75 (.agg #[.int .i64 a, .int .i64 b, .int .i64 c, .int .i64 d]) 0).run Tryz.prog w = .ok (.int .i64 a) w := by kernel_rfl
end Go.Proofs.YtkoakanpaehkmaaGreatDoor
