/-
  operate.Shift's act: the edits that shift lines.
-/
import Derived.Test.YtgiihhikdoikgaaGreatLType2
import Derived.Test.YtgiihhikdoikgaaGreatLEncode
import Derived.Laws.MakeOwn
import Derived.Test.YtgiihhikdoikgaaGreatLMapIs
import Derived.Test.YtgiihhikdoikgaaGreatLRow
import Derived.Test.YtgiihhikdoikgaaGreatLType
import Derived.Test.YtgiihhikdoikgaaGreatLSnip2
import Derived.Test.YtgiihhikdoikgaaGreatLDel
import Derived.Test.YtgiihhikdoikgaaGreatLOfLaw
import Derived.Test.YtgiihhikdoikgaaGreatLMove6
set_option linter.unusedSimpArgs false
set_option linter.unusedVariables false
set_option maxRecDepth 100000
set_option maxHeartbeats 32000000
namespace Go.Proofs.YtgiihhikdoikgaaGreat
open Go.RowKit
theorem tenc_any (D : Nat -> Prop) (g : Nat) (enc : Int) (ds : List (Int × Int)) (w : World) (h : TextAt w D g enc ds) :
  Calls Tryz.prog 47 #[.pointer (some ⟨g, 0, none⟩)] w fun e w' => e = .returned (.int .i64 enc) /\ w = w' := by
 obtain ⟨lim, t, a, add, h, rfl⟩ := h
 obtain ⟨c1, _⟩ := h.cells
 clear h
 go_enter Tryz.func47, Tryz.ntmps47
 go_wp2_with fail
 go_ret
 exact ⟨rfl, rfl⟩
section
variable {B gd gb g n : Nat} {enc lim : Int} {st : BkS} {dc : Array Value} {w : World}
theorem checked_ok (h : DeskIs w B gd gb g enc lim n st dc) (a b k : Int) (hk : k = 0 \/ k = 1) (ha : 0 <= a /\ a <= b /\ b <= (st.ats.length : Int)) :
  Calls Tryz.prog 27 #[.pointer (some ⟨gd, 0, none⟩), .agg #[.int .i64 a, .int .i64 b, .int .i64 k]] w fun e w' => e = .returned (.tuple #[]) /\ Below w.heap.size w w' := by
 have hle := fun (w' : World) (hb : Below w.heap.size w w') => len_any Any g enc (sizedA enc st.ats) w' (h.below hb).at_
 rw [sizedA_len] at hle
 obtain ⟨N, hN⟩ : ∃ N, st.ats.length = N := ⟨_, rfl⟩
 rw [hN] at hle ha
 have HLE := Lib.hid hle
 have HT := Lib.hid (fun (w' : World) (hb : Below w.heap.size w w') => text_desk (h.below hb))
 have hw1 : Below w.heap.size w (w.alloc (.cells #[.int .i64 a, .int .i64 b, .int .i64 k] 29)) := balloc (Below.refl _ _)
 have hB := Blk.new w 29 #[.int .i64 a, .int .i64 b, .int .i64 k]
 have p1 : (a < 0) = False := by simp; omega
 have p2 : (b < a) = False := by simp; omega
 have p3 : ((N : Int) < b) = False := by simp; omega
 clear h hle hN
 go_enter Tryz.func27, Tryz.ntmps27
 go_upto_region 1 with fail
 obtain ⟨w1, hw10⟩ : ∃ x, w.alloc (.cells #[.int .i64 a, .int .i64 b, .int .i64 k] 29) = x := ⟨_, rfl⟩
 rw [hw10] at hw1 hB ⊢
 clear hw10
 obtain ⟨c0, c1, c2⟩ := cells3 hB
 have hS : ∀ w', Below w1.heap.size w1 w' -> w'.cell? ⟨w.heap.size, 0, none⟩ = some (.int .i64 a) /\ w'.cell? ⟨w.heap.size, 1, none⟩ = some (.int .i64 b) := fun w' hb => ⟨(hB.below hb).cell 0, (hB.below hb).cell 1⟩
 have HS := Lib.hid hS
 clear hS hB
 rcases hk with rfl | rfl
 all_goals
  go_wp2_with fail
  refine wp_region_steady (fun w' => Below w1.heap.size w1 w') (by kernel_rfl) (by kernel_rfl) (Below.drew (Below.refl _ _)) ?_
  repeat ((first
   | (refine wpSt_read (v := ?_) (by rfl) (fun w6 hSw => ?_) ?_; rotate_left; (· (obtain ⟨y0, y1⟩ := HS.out _ hSw; go_simp; try with_reducible rfl)))
   | refine wpSt_not (by rfl) ?_
   | (refine wpSt_call (f := ?_) (args := ?_) (v := .pointer (some ⟨g, 0, none⟩)) (by rfl) (fun w6 hSw => ?_) (fun w6 hSw => ?_) ?_; rotate_left 2; (· (obtain ⟨y0, y1⟩ := HS.out _ hSw; go_simp; first | done | (constructor <;> with_reducible rfl) | with_reducible rfl)); (· (refine (HT.out _ (bseq hw1 hSw)).mono ?_; rintro e w5 ⟨rfl, rfl⟩; exact ⟨rfl, hSw⟩)))
   | (refine wpSt_call (f := ?_) (args := ?_) (v := .int .i64 (N : Int)) (by rfl) (fun w6 hSw => ?_) (fun w6 hSw => ?_) ?_; rotate_left 2; (· (obtain ⟨y0, y1⟩ := HS.out _ hSw; go_simp; first | done | (constructor <;> with_reducible rfl) | with_reducible rfl)); (· (refine (HLE.out _ (bseq hw1 hSw)).mono ?_; rintro e w5 ⟨rfl, hb5⟩; exact ⟨rfl, bseq hSw hb5⟩)))); (try simp only [Act.put, pA, pB, pC]))
  refine wpSt_nil ?_
  intro w2 hb2
  go_wp2_with fail
  show bodyPost _ _ _ _ _ _
  refine bodyPost_end (results_none rfl _ _ _) rfl ?_
  exact ⟨rfl, bseq hw1 hb2⟩
theorem rows_desk (h : DeskIs w B gd gb g enc lim n st dc) (a b k : Int) (ha : 0 <= a /\ a <= b /\ b <= (st.ats.length : Int)) :
  Calls Tryz.prog 32 #[.pointer (some ⟨gd, 0, none⟩), .agg #[.int .i64 a, .int .i64 b, .int .i64 k]] w fun e w' => e = .returned (.tuple #[.int .i64 (rowIx (sizedA enc st.ats) a false : Int), .int .i64 (rowIx (sizedA enc st.ats) (max a (b - 1)) false : Int)]) /\ Below w.heap.size w w' := by
 have hlen := h.len
 have hof := fun (x : Int) (w' : World) (hb : Below w.heap.size w w') => of_line Any g enc (sizedA enc st.ats) x w' (h.below hb).at_
 have hcn := fun (w' : World) (hb : Below w.heap.size w w') => count_line Any g enc (sizedA enc st.ats) w' (h.below hb).at_
 have hcp := @countF_pos (sizedA enc st.ats)
 have hte : totE (sizedA enc st.ats) <= 65536 := Nat.le_trans (cntE_le _ _) (by rw [sizedA_len]; exact hlen)
 have hR : ∀ x, rowIx (sizedA enc st.ats) x false = min (ofF (sizedA enc st.ats) x) (countF (sizedA enc st.ats) - 1) := fun x => rfl
 obtain ⟨m, hm⟩ : ∃ m, max a (b - 1) = m := ⟨_, rfl⟩
 rw [hR, hR, hm]
 obtain ⟨M, hM⟩ : ∃ M, countF (sizedA enc st.ats) = M := ⟨_, rfl⟩
 have hofa := hof a
 have hofm := hof m
 obtain ⟨V, hV⟩ : ∃ V, ofF (sizedA enc st.ats) a = V := ⟨_, rfl⟩
 obtain ⟨U, hU⟩ : ∃ U, ofF (sizedA enc st.ats) m = U := ⟨_, rfl⟩
 rw [hM] at hcn hcp ⊢
 rw [hV] at hofa ⊢
 rw [hU] at hofm ⊢
 obtain ⟨K, hK⟩ : ∃ K, M - 1 = K := ⟨_, rfl⟩
 rw [hK]
 have wm : IntKind.i64.wrap ((M : Int) - 1) = (K : Int) := by rw [IntWalk.i64_in _ (by omega)]; omega
 have wb : IntKind.i64.wrap (b - 1) = b - 1 := IntWalk.i64_in _ (by omega)
 have HCN := Lib.hid hcn
 have HOA := Lib.hid hofa
 have HOM := Lib.hid hofm
 have HT := Lib.hid (fun (w' : World) (hb : Below w.heap.size w w') => text_desk (h.below hb))
 have hw1 : Below w.heap.size w (w.alloc (.cells #[.int .i64 a, .int .i64 b, .int .i64 k] 29)) := balloc (Below.refl _ _)
 have hB := Blk.new w 29 #[.int .i64 a, .int .i64 b, .int .i64 k]
 have HMX := Lib.hid hm
 have HUV := Lib.hid (show m = a -> U = V from fun e => by rw [<- hU, <- hV, e])
 have hmab : (a < b - 1 /\ m = b - 1) \/ (¬ a < b - 1 /\ m = a) := by omega
 clear h hof hcn hofa hofm hM hV hU hm hK hR hlen hcp hte
 go_enter Tryz.func32, Tryz.ntmps32
 go_upto_region 1 with fail
 obtain ⟨w1, hw10⟩ : ∃ x, w.alloc (.cells #[.int .i64 a, .int .i64 b, .int .i64 k] 29) = x := ⟨_, rfl⟩
 rw [hw10] at hw1 hB ⊢
 clear hw10
 go_wp2_with fail
 refine (HT.out _ hw1).mono ?_
 rintro e w2 ⟨rfl, rfl⟩
 go_wp2_with fail
 refine (HCN.out _ hw1).mono ?_
 rintro e w2 ⟨rfl, hb2⟩
 have hw2 := bseq hw1 hb2
 have hS : ∀ w', Below w2.heap.size w2 w' -> w'.cell? ⟨w.heap.size, 0, none⟩ = some (.int .i64 a) /\ w'.cell? ⟨w.heap.size, 1, none⟩ = some (.int .i64 b) := fun w' hb => ⟨(hB.below (bseq hb2 hb)).cell 0, (hB.below (bseq hb2 hb)).cell 1⟩
 have HS := Lib.hid hS
 clear hS hB HCN HT
 go_upto_region 3 with fail
 have HMN := Lib.hid (show ∀ x : Nat, (K < x -> (min x K : Nat) = K) /\ (x <= K -> (min x K : Nat) = x) from fun x => ⟨fun h => by omega, fun h => by omega⟩)
 rcases hmab with ⟨q0, q1⟩ | ⟨q0, q1⟩
 ·subst q1
  have p0 : (a < b - 1) = True := by simp; omega
  clear q0
  rcases Nat.lt_or_ge K V with q2 | q2
  ·rcases Nat.lt_or_ge K U with q3 | q3
   ·have p1 : ((K : Int) < (V : Int)) = True := by simp; omega
    have p2 : (K < V) = True := by simp; omega
    have p3 : ((K : Int) < (U : Int)) = True := by simp; omega
    have p4 : (K < U) = True := by simp; omega
    have e1 := (HMN.out V).1 q2
    have e2 := (HMN.out U).1 q3
    have E1 := Lib.hid e1
    have E2 := Lib.hid e2
    clear e1 e2 q2 q3
    refine wp_region_steady (fun w' => Below w2.heap.size w2 w') (by kernel_rfl) (by kernel_rfl) (Below.drew (Below.refl _ _)) ?_
    repeat ((first
     | (refine wpSt_read (v := ?_) (by rfl) (fun w6 hSw => ?_) ?_; rotate_left; (· (obtain ⟨y0, y1⟩ := HS.out _ hSw; go_simp; try with_reducible rfl)))
     | refine wpSt_not (by rfl) ?_
     | (refine wpSt_call (f := ?_) (args := ?_) (v := .int .i64 (V : Int)) (by rfl) (fun w6 hSw => ?_) (fun w6 hSw => ?_) ?_; rotate_left 2; (· (obtain ⟨y0, y1⟩ := HS.out _ hSw; go_simp; first | done | (constructor <;> with_reducible rfl) | with_reducible rfl)); (· ((with_reducible refine (HOA.out _ (bseq hw2 hSw)).mono ?_); rintro e w5 ⟨rfl, hb5⟩; exact ⟨rfl, bseq hSw hb5⟩)))
     | (refine wpSt_call (f := ?_) (args := ?_) (v := .int .i64 (U : Int)) (by rfl) (fun w6 hSw => ?_) (fun w6 hSw => ?_) ?_; rotate_left 2; (· (obtain ⟨y0, y1⟩ := HS.out _ hSw; go_simp; first | done | (constructor <;> with_reducible rfl) | with_reducible rfl)); (· ((with_reducible refine (HOM.out _ (bseq hw2 hSw)).mono ?_); rintro e w5 ⟨rfl, hb5⟩; exact ⟨rfl, bseq hSw hb5⟩)))); (try simp only [Act.put, pA, pB, pC]))
    refine wpSt_nil ?_
    intro w3 hb3
    go_wp2_with fail
    exact bodyPost_ret (v := .tuple #[.int .i64 (K : Int), .int .i64 (K : Int)]) (by simp [results, Tryz.results32, go_sem]) rfl ⟨by rw [E1.out, E2.out], bseq hw2 hb3⟩
   ·have p1 : ((K : Int) < (V : Int)) = True := by simp; omega
    have p2 : (K < V) = True := by simp; omega
    have p3 : ((K : Int) < (U : Int)) = False := by simp; omega
    have p4 : (K < U) = False := by simp; omega
    have e1 := (HMN.out V).1 q2
    have e2 := (HMN.out U).2 q3
    have E1 := Lib.hid e1
    have E2 := Lib.hid e2
    clear e1 e2 q2 q3
    refine wp_region_steady (fun w' => Below w2.heap.size w2 w') (by kernel_rfl) (by kernel_rfl) (Below.drew (Below.refl _ _)) ?_
    repeat ((first
     | (refine wpSt_read (v := ?_) (by rfl) (fun w6 hSw => ?_) ?_; rotate_left; (· (obtain ⟨y0, y1⟩ := HS.out _ hSw; go_simp; try with_reducible rfl)))
     | refine wpSt_not (by rfl) ?_
     | (refine wpSt_call (f := ?_) (args := ?_) (v := .int .i64 (V : Int)) (by rfl) (fun w6 hSw => ?_) (fun w6 hSw => ?_) ?_; rotate_left 2; (· (obtain ⟨y0, y1⟩ := HS.out _ hSw; go_simp; first | done | (constructor <;> with_reducible rfl) | with_reducible rfl)); (· ((with_reducible refine (HOA.out _ (bseq hw2 hSw)).mono ?_); rintro e w5 ⟨rfl, hb5⟩; exact ⟨rfl, bseq hSw hb5⟩)))
     | (refine wpSt_call (f := ?_) (args := ?_) (v := .int .i64 (U : Int)) (by rfl) (fun w6 hSw => ?_) (fun w6 hSw => ?_) ?_; rotate_left 2; (· (obtain ⟨y0, y1⟩ := HS.out _ hSw; go_simp; first | done | (constructor <;> with_reducible rfl) | with_reducible rfl)); (· ((with_reducible refine (HOM.out _ (bseq hw2 hSw)).mono ?_); rintro e w5 ⟨rfl, hb5⟩; exact ⟨rfl, bseq hSw hb5⟩)))); (try simp only [Act.put, pA, pB, pC]))
    refine wpSt_nil ?_
    intro w3 hb3
    go_wp2_with fail
    exact bodyPost_ret (v := .tuple #[.int .i64 (K : Int), .int .i64 (U : Int)]) (by simp [results, Tryz.results32, go_sem]) rfl ⟨by rw [E1.out, E2.out], bseq hw2 hb3⟩
  ·rcases Nat.lt_or_ge K U with q3 | q3
   ·have p1 : ((K : Int) < (V : Int)) = False := by simp; omega
    have p2 : (K < V) = False := by simp; omega
    have p3 : ((K : Int) < (U : Int)) = True := by simp; omega
    have p4 : (K < U) = True := by simp; omega
    have e1 := (HMN.out V).2 q2
    have e2 := (HMN.out U).1 q3
    have E1 := Lib.hid e1
    have E2 := Lib.hid e2
    clear e1 e2 q2 q3
    refine wp_region_steady (fun w' => Below w2.heap.size w2 w') (by kernel_rfl) (by kernel_rfl) (Below.drew (Below.refl _ _)) ?_
    repeat ((first
     | (refine wpSt_read (v := ?_) (by rfl) (fun w6 hSw => ?_) ?_; rotate_left; (· (obtain ⟨y0, y1⟩ := HS.out _ hSw; go_simp; try with_reducible rfl)))
     | refine wpSt_not (by rfl) ?_
     | (refine wpSt_call (f := ?_) (args := ?_) (v := .int .i64 (V : Int)) (by rfl) (fun w6 hSw => ?_) (fun w6 hSw => ?_) ?_; rotate_left 2; (· (obtain ⟨y0, y1⟩ := HS.out _ hSw; go_simp; first | done | (constructor <;> with_reducible rfl) | with_reducible rfl)); (· ((with_reducible refine (HOA.out _ (bseq hw2 hSw)).mono ?_); rintro e w5 ⟨rfl, hb5⟩; exact ⟨rfl, bseq hSw hb5⟩)))
     | (refine wpSt_call (f := ?_) (args := ?_) (v := .int .i64 (U : Int)) (by rfl) (fun w6 hSw => ?_) (fun w6 hSw => ?_) ?_; rotate_left 2; (· (obtain ⟨y0, y1⟩ := HS.out _ hSw; go_simp; first | done | (constructor <;> with_reducible rfl) | with_reducible rfl)); (· ((with_reducible refine (HOM.out _ (bseq hw2 hSw)).mono ?_); rintro e w5 ⟨rfl, hb5⟩; exact ⟨rfl, bseq hSw hb5⟩)))); (try simp only [Act.put, pA, pB, pC]))
    refine wpSt_nil ?_
    intro w3 hb3
    go_wp2_with fail
    exact bodyPost_ret (v := .tuple #[.int .i64 (V : Int), .int .i64 (K : Int)]) (by simp [results, Tryz.results32, go_sem]) rfl ⟨by rw [E1.out, E2.out], bseq hw2 hb3⟩
   ·have p1 : ((K : Int) < (V : Int)) = False := by simp; omega
    have p2 : (K < V) = False := by simp; omega
    have p3 : ((K : Int) < (U : Int)) = False := by simp; omega
    have p4 : (K < U) = False := by simp; omega
    have e1 := (HMN.out V).2 q2
    have e2 := (HMN.out U).2 q3
    have E1 := Lib.hid e1
    have E2 := Lib.hid e2
    clear e1 e2 q2 q3
    refine wp_region_steady (fun w' => Below w2.heap.size w2 w') (by kernel_rfl) (by kernel_rfl) (Below.drew (Below.refl _ _)) ?_
    repeat ((first
     | (refine wpSt_read (v := ?_) (by rfl) (fun w6 hSw => ?_) ?_; rotate_left; (· (obtain ⟨y0, y1⟩ := HS.out _ hSw; go_simp; try with_reducible rfl)))
     | refine wpSt_not (by rfl) ?_
     | (refine wpSt_call (f := ?_) (args := ?_) (v := .int .i64 (V : Int)) (by rfl) (fun w6 hSw => ?_) (fun w6 hSw => ?_) ?_; rotate_left 2; (· (obtain ⟨y0, y1⟩ := HS.out _ hSw; go_simp; first | done | (constructor <;> with_reducible rfl) | with_reducible rfl)); (· ((with_reducible refine (HOA.out _ (bseq hw2 hSw)).mono ?_); rintro e w5 ⟨rfl, hb5⟩; exact ⟨rfl, bseq hSw hb5⟩)))
     | (refine wpSt_call (f := ?_) (args := ?_) (v := .int .i64 (U : Int)) (by rfl) (fun w6 hSw => ?_) (fun w6 hSw => ?_) ?_; rotate_left 2; (· (obtain ⟨y0, y1⟩ := HS.out _ hSw; go_simp; first | done | (constructor <;> with_reducible rfl) | with_reducible rfl)); (· ((with_reducible refine (HOM.out _ (bseq hw2 hSw)).mono ?_); rintro e w5 ⟨rfl, hb5⟩; exact ⟨rfl, bseq hSw hb5⟩)))); (try simp only [Act.put, pA, pB, pC]))
    refine wpSt_nil ?_
    intro w3 hb3
    go_wp2_with fail
    exact bodyPost_ret (v := .tuple #[.int .i64 (V : Int), .int .i64 (U : Int)]) (by simp [results, Tryz.results32, go_sem]) rfl ⟨by rw [E1.out, E2.out], bseq hw2 hb3⟩
 ·subst q1
  have huv := HUV.out rfl
  subst huv
  have p0 : (m < b - 1) = False := by simp; omega
  clear q0
  rcases Nat.lt_or_ge K U with q2 | q2
  ·have p1 : ((K : Int) < (U : Int)) = True := by simp; omega
   have p2 : (K < U) = True := by simp; omega
   have e1 := (HMN.out U).1 q2
   have E1 := Lib.hid e1
   clear e1 q2
   refine wp_region_steady (fun w' => Below w2.heap.size w2 w') (by kernel_rfl) (by kernel_rfl) (Below.drew (Below.refl _ _)) ?_
   repeat ((first
    | (refine wpSt_read (v := ?_) (by rfl) (fun w6 hSw => ?_) ?_; rotate_left; (· (obtain ⟨y0, y1⟩ := HS.out _ hSw; go_simp; try with_reducible rfl)))
    | refine wpSt_not (by rfl) ?_
    | (refine wpSt_call (f := ?_) (args := ?_) (v := .int .i64 (U : Int)) (by rfl) (fun w6 hSw => ?_) (fun w6 hSw => ?_) ?_; rotate_left 2; (· (obtain ⟨y0, y1⟩ := HS.out _ hSw; go_simp; first | done | (constructor <;> with_reducible rfl) | with_reducible rfl)); (· ((with_reducible refine (HOA.out _ (bseq hw2 hSw)).mono ?_); rintro e w5 ⟨rfl, hb5⟩; exact ⟨rfl, bseq hSw hb5⟩)))); (try simp only [Act.put, pA, pB, pC]))
   refine wpSt_nil ?_
   intro w3 hb3
   go_wp2_with fail
   exact bodyPost_ret (v := .tuple #[.int .i64 (K : Int), .int .i64 (K : Int)]) (by simp [results, Tryz.results32, go_sem]) rfl ⟨by rw [E1.out], bseq hw2 hb3⟩
  ·have p1 : ((K : Int) < (U : Int)) = False := by simp; omega
   have p2 : (K < U) = False := by simp; omega
   have e1 := (HMN.out U).2 q2
   have E1 := Lib.hid e1
   clear e1 q2
   refine wp_region_steady (fun w' => Below w2.heap.size w2 w') (by kernel_rfl) (by kernel_rfl) (Below.drew (Below.refl _ _)) ?_
   repeat ((first
    | (refine wpSt_read (v := ?_) (by rfl) (fun w6 hSw => ?_) ?_; rotate_left; (· (obtain ⟨y0, y1⟩ := HS.out _ hSw; go_simp; try with_reducible rfl)))
    | refine wpSt_not (by rfl) ?_
    | (refine wpSt_call (f := ?_) (args := ?_) (v := .int .i64 (U : Int)) (by rfl) (fun w6 hSw => ?_) (fun w6 hSw => ?_) ?_; rotate_left 2; (· (obtain ⟨y0, y1⟩ := HS.out _ hSw; go_simp; first | done | (constructor <;> with_reducible rfl) | with_reducible rfl)); (· ((with_reducible refine (HOA.out _ (bseq hw2 hSw)).mono ?_); rintro e w5 ⟨rfl, hb5⟩; exact ⟨rfl, bseq hSw hb5⟩)))); (try simp only [Act.put, pA, pB, pC]))
   refine wpSt_nil ?_
   intro w3 hb3
   go_wp2_with fail
   exact bodyPost_ret (v := .tuple #[.int .i64 (U : Int), .int .i64 (U : Int)]) (by simp [results, Tryz.results32, go_sem]) rfl ⟨by rw [E1.out], bseq hw2 hb3⟩
end
def IntsI (w : World) (A : Option Addr) (n : Nat) (l : List Int) : Prop := Ints w (fun b => ∃ cs, Blk w b 3 cs) A n l
theorem IntsI.fr {w w' : World} {A : Option Addr} {n : Nat} {l : List Int} {S : Nat -> Prop} (h : IntsI w A n l) (hf : Fr S w w') (hS : ∀ b, b < w.heap.size -> S b -> ¬ ∃ cs, Blk w b 3 cs) : IntsI w' A n l := by
 have h0 : Ints w (fun b => ∃ cs, Blk w b 3 cs) A n l := h
 have h1 : Ints w' (fun b => b < w.heap.size /\ ∃ cs, Blk w b 3 cs) A n l := Reads.fr (Reads.more h0 (D' := fun b => b < w.heap.size /\ ∃ cs, Blk w b 3 cs) (fun b hb hlt => ⟨hlt, hb⟩) (by decide)) hf (fun b hb hlt hs => hS b hlt hs hb.2)
 exact Reads.more h1 (D' := fun b => ∃ cs, Blk w' b 3 cs) (fun b hb _ => by
  obtain ⟨hlt, cs, hb⟩ := hb
  exact ⟨cs, hb.fr hf (fun hs => hS b hlt hs ⟨cs, hb⟩)⟩) (by decide)
theorem IntsI.bel {w w' : World} {A : Option Addr} {n : Nat} {l : List Int} (h : IntsI w A n l) (hb : Below w.heap.size w w') : IntsI w' A n l := h.fr (S := fun _ => False) (Fr.of_below hb) (fun _ _ hs => hs.elim)
theorem IntsI.any {w : World} {A : Option Addr} {n : Nat} {l : List Int} (h : IntsI w A n l) : Ints w Any A n l := by
 have h0 : Ints w (fun b => ∃ cs, Blk w b 3 cs) A n l := h
 exact Reads.more h0 (fun _ _ _ => trivial) (by decide)
theorem IntsI.of_own {w : World} {base n c : Nat} {A : Option Addr} {xs : List Int} (h : w.ownsRow base 3 1 (.slice A n c) n (xs.map (Value.int .i64))) : IntsI w A n xs := by
 refine ⟨h.1, fun hk => ?_⟩
 rcases h.2 with ⟨e0, h0⟩ | ⟨r, c', cur, e1, hb, hr, h1, h2, h3, h4⟩
 ·omega
 ·have hA : A = some ⟨r, 0, none⟩ := by injection e1
  obtain ⟨ad, e2, _, hc⟩ := (Reads.of_own h).2 hk
  rw [hA] at e2
  injection e2 with e2
  refine ⟨ad, by rw [hA, e2], ⟨cur, ?_⟩, hc⟩
  rw [<- e2]
  exact hr
def repeatL (l : List Int) : Nat -> List Int
 | 0 => []
 | k + 1 => repeatL l k ++ l
theorem repeatL_len (l : List Int) (k : Nat) : (repeatL l k).length = k * l.length := by
 induction k with
 | zero => simp [repeatL]
 | succ k ih => unfold repeatL; rw [List.length_append, ih, Nat.add_mul]; omega
def RepR (l : List Int) (K : Nat) (w : World) (k : Nat) (q5 q12 : Value) (wr : World) : Prop :=
 ∃ r : Nat, q12 = .int .i64 (r : Int) /\ r <= K /\ K - r <= k /\ Hid (wr.ownsRow w.heap.size 3 1 q5 (repeatL l r).length ((repeatL l r).map (Value.int .i64))) /\ Below w.heap.size w wr
theorem repeated_any (D : Nat -> Prop) (A : Option Addr) (N c K : Nat) (l : List Int) (w : World) (hl : Ints w D A N l) (hN : N * K <= 268435456) (hN1 : N <= 1073741824) (hK : K <= 1073741824) :
  Calls Tryz.prog 56 #[.slice A N c, .int .i64 (K : Int)] w (NewInts (repeatL l K) w) := by
 have hln := hl.len
 have HLN := Lib.hid hln
 obtain ⟨i0, hi0, hz0, hz1, hz2⟩ := info_parts int_info
 have HII := Lib.hid hi0
 have HL := Lib.hid hl
 have wm : IntKind.i64.wrap ((N : Int) * (K : Int)) = ((N * K : Nat) : Int) := by
  have : (N : Int) * (K : Int) = ((N * K : Nat) : Int) := by rw [Int.natCast_mul]
  rw [this]
  exact IntWalk.i64_in _ (by omega)
 have hmul : ∀ r, r <= K -> (repeatL l r).length <= 268435456 := fun r hr => by
  rw [repeatL_len, hln]
  have h := Nat.mul_le_mul hr (Nat.le_refl N)
  rw [Nat.mul_comm K N] at h
  omega
 obtain ⟨M, hM⟩ : ∃ M, N * K = M := ⟨_, rfl⟩
 rw [hM] at wm hN
 have HMUL := Lib.hid hmul
 clear hl hln hM hmul hi0
 go_enter Tryz.func56, Tryz.ntmps56
 go_wp2_with (at_make; refine wpList_make_own _ rfl _ _ 36 rfl w.heap.size 3 i0 (.int .i64 0) 1 Tryz.underlying36 HII.out hz0 hz1 _ _ _ M rfl rfl rfl (by rw [hz2]; omega) (by unfold maxLen; omega) (Nat.le_refl _) ?_)
 intro w1 ho1 hg1
 have hb1 : Below w.heap.size w w1 := below_grown hg1
 have HO1 := Lib.hid ho1
 clear ho1 hg1
 go_wp2_with fail
 go_loopg [5, 12] K (fun k q5 q12 wr => RepR l K w k q5 q12 wr)
 case atStart => exact ⟨0, rfl, Nat.zero_le _, by omega, HO1, hb1⟩
 case round =>
  obtain ⟨r, rfl, hr, hk, ho, hb⟩ := hrel
  by_cases hgo : r < K
  ·have q1 : ((r : Int) < (K : Int)) = True := by simp; omega
   have wr1 : IntKind.i64.wrap ((r : Int) + 1) = ((r + 1 : Nat) : Int) := by rw [IntWalk.i64_in _ (by omega)]; omega
   have hl1 : (repeatL l (r + 1)).length = (repeatL l r).length + N := by
    rw [repeatL_len, repeatL_len, HLN.out, Nat.add_mul]
    omega
   have hle := HMUL.out (r + 1) hgo
   rw [hl1] at hle
   have hs := hb.size
   have HL1 := Lib.hid hl1
   clear hl1
   go_wp2_with (at_builtin; refine wpList_append_all _ rfl (.tmp 14) (.tmp 15) 36 rfl w.heap.size 3 i0 (.int .i64 0) 1 8 Tryz.underlying36 HII.out hz0 hz1 hz2 rfl (by decide) u5 (repeatL l r).length _ rfl ho.out D A N c (l.map (Value.int .i64)) rfl (Reads.below HL.out hb) (by intro u hu; obtain ⟨x, _, rfl⟩ := List.mem_map.1 hu; rfl) (by unfold maxLen; omega) (by omega) hs ?_)
   intro v1 w2 ho2 hg2 _
   have hb2 : Below w.heap.size w w2 := below_grown2 hb hg2 (fun k hk => own_ge ho.out hk)
   have HO2 := Lib.hid ho2
   clear ho2 hg2
   go_wp2_with fail
   go_roundg (K - (r + 1))
   case measure => omega
   case rel =>
    refine ⟨r + 1, rfl, by omega, by omega, Lib.hid ?_, hb2⟩
    rw [HL1.out, show repeatL l (r + 1) = repeatL l r ++ l from rfl, List.map_append]
    exact HO2.out
  ·have q1 : ((r : Int) < (K : Int)) = False := by simp; omega
   have hrK : r = K := by omega
   have ho' := ho.out
   rw [hrK] at ho'
   have HO := Lib.hid ho'
   clear ho' ho hrK
   go_wp2_with fail
   go_ret
   exact ⟨_, rfl, HO.out, hb⟩
section
variable {B gd gb g n : Nat} {enc lim : Int} {st : BkS} {dc : Array Value} {w : World}
theorem fits_ok (h : DeskIs w B gd gb g enc lim n st dc) (more : Int) (hm : 0 <= more /\ more <= 2147483647) (hle : szS (sizedA enc st.ats) + more <= 65536) :
  Calls Tryz.prog 55 #[.pointer (some ⟨gd, 0, none⟩), .int .i64 more] w fun e w' => e = .returned (.tuple #[]) /\ Below w.heap.size w w' := by
 have hsz := size_any Any g enc (sizedA enc st.ats) w h.at_
 have hpos := szS_pos h.pos
 have hby : (sumsOf (sizedA enc st.ats)).bytes = szS (sizedA enc st.ats) := by
  have := szS_bytes h.pos (sizedA enc st.ats).length
  rwa [List.take_length] at this
 rw [hby] at hsz
 obtain ⟨S, hS⟩ : ∃ S, szS (sizedA enc st.ats) = S := ⟨_, rfl⟩
 rw [hS] at hsz hle hpos
 have HT := Lib.hid (text_desk h)
 have HSZ := Lib.hid hsz
 have wm : IntKind.i64.wrap (S + more) = S + more := IntWalk.i64_in _ (by omega)
 have q : (65536 < S + more) = False := by simp; omega
 clear h hsz hby hS
 go_enter Tryz.func55, Tryz.ntmps55
 go_wp2_with fail
 refine (HT.out).mono ?_
 rintro e w1 ⟨rfl, rfl⟩
 go_wp2_with fail
 refine (HSZ.out).mono ?_
 rintro e w2 ⟨rfl, hb⟩
 go_wp2_with fail
 show bodyPost _ _ _ _ _ _
 refine bodyPost_end (results_none rfl _ _ _) rfl ?_
 exact ⟨rfl, hb⟩
theorem fits_bad (h : DeskIs w B gd gb g enc lim n st dc) (more : Int) (hm : 0 <= more /\ more <= 2147483647) (hle : 65536 < szS (sizedA enc st.ats) + more) :
  Calls Tryz.prog 55 #[.pointer (some ⟨gd, 0, none⟩), .int .i64 more] w fun e w' => e = .panicked [errPanic 50] /\ Below w.heap.size w w' := by
 have hsz := size_any Any g enc (sizedA enc st.ats) w h.at_
 have hpos := szS_pos h.pos
 have hs6 := h.sz.1
 have hby : (sumsOf (sizedA enc st.ats)).bytes = szS (sizedA enc st.ats) := by
  have := szS_bytes h.pos (sizedA enc st.ats).length
  rwa [List.take_length] at this
 rw [hby] at hsz
 obtain ⟨S, hS⟩ : ∃ S, szS (sizedA enc st.ats) = S := ⟨_, rfl⟩
 rw [hS] at hsz hle hpos hs6
 have HT := Lib.hid (text_desk h)
 have HSZ := Lib.hid hsz
 have wm : IntKind.i64.wrap (S + more) = S + more := IntWalk.i64_in _ (by omega)
 have q : (65536 < S + more) = True := by simp; omega
 clear h hsz hby hS
 go_enter Tryz.func55, Tryz.ntmps55
 go_wp2_with fail
 refine (HT.out).mono ?_
 rintro e w1 ⟨rfl, rfl⟩
 go_wp2_with fail
 refine (HSZ.out).mono ?_
 rintro e w2 ⟨rfl, hb⟩
 go_wp2_with fail
 exact ⟨rfl, rfl, hb⟩
end
theorem ilt_or_ge (a b : Int) : a < b \/ b <= a := by omega
def abE (e : Ed) : Int × Int × List Int := (e.f, e.t, e.put)
theorem ordF_of (x y : Nat -> Int) (v : Nat -> List Int) (size : Int) : ∀ (ps : List Nat) (es : List Ed) (a : Int), es.map abE = ps.map (fun p => (x p, y p, v p)) -> ps.Pairwise (fun p q => y p <= x q) -> (∀ p ∈ ps, a <= x p /\ x p <= y p /\ y p <= size) -> ordF a size es = true := by
 intro ps
 induction ps with
 | nil =>
  intro es a he _ _
  have : es = [] := by simpa using he
  subst this
  rfl
 | cons p r ih =>
  intro es a he hs hm
  cases es with
  | nil => cases he
  | cons e es =>
   rw [List.map_cons, List.map_cons] at he
   injection he with he1 he2
   have hs' := List.pairwise_cons.1 hs
   have h1 := hm p List.mem_cons_self
   unfold abE at he1
   injection he1 with e1 he1
   injection he1 with e2 e3
   unfold ordF
   rw [e1, e2, if_neg (by omega)]
   exact ih es (y p) he2 hs'.2 (fun q hq => by
    have h2 := hs'.1 q hq
    have h3 := hm q (List.mem_cons_of_mem _ hq)
    omega)
def psF (ds : List (Int × Int)) (f m : Nat) : List Nat := (List.range' f m).flatMap fun i => if (lineF ds i).from_ < (lineF ds i).to_ then [(lineF ds i).from_.toNat] else []
theorem psF_succ (ds : List (Int × Int)) (f m : Nat) : psF ds f (m + 1) = psF ds f m ++ (if (lineF ds (f + m)).from_ < (lineF ds (f + m)).to_ then [(lineF ds (f + m)).from_.toNat] else []) := by
 unfold psF
 rw [List.range'_1_concat, List.flatMap_append, List.flatMap_cons, List.flatMap_nil, List.append_nil]
def spc (l : List Int) (n : Nat) : Nat -> Nat
 | 0 => 0
 | m + 1 => if n < l.length /\ l.getD n 0 = 32 then spc l (n + 1) m + 1 else 0
def ldStep (l : List Int) (n : Nat) : Nat := if n < l.length /\ l.getD n 0 = 9 then n + 1 else n + spc l n 4
def ldF (l : List Int) : Nat -> Nat -> Nat
 | 0, n => n
 | k + 1, n => if ldStep l n = n then n else ldF l k (ldStep l n)
theorem spc_le (l : List Int) : ∀ (m n : Nat), n <= l.length -> n + spc l n m <= l.length := by
 intro m
 induction m with
 | zero => intro n h; simpa [spc] using h
 | succ m ih =>
  intro n h
  unfold spc
  split
  ·rename_i h1
   have := ih (n + 1) (by omega)
   omega
  ·simpa using h
theorem ldStep_le (l : List Int) (n : Nat) (h : n <= l.length) : n <= ldStep l n /\ ldStep l n <= l.length := by
 unfold ldStep
 split
 ·omega
 ·have := spc_le l 4 n h
  omega
theorem ldF_le (l : List Int) : ∀ (k n : Nat), n <= l.length -> ldF l k n <= l.length := by
 intro k
 induction k with
 | zero => intro n h; exact h
 | succ k ih =>
  intro n h
  unfold ldF
  split
  ·exact h
  ·exact ih _ (ldStep_le l n h).2
def LeadR (l : List Int) (K : Nat) (w : World) (k : Nat) (q5 q8 : Value) (wr : World) : Prop :=
 ∃ r n : Nat, q5 = .int .i64 (n : Int) /\ q8 = .int .i64 (r : Int) /\ r <= K /\ K - r <= k /\ n <= l.length /\ Hid (ldF l (K - r) n = ldF l K 0) /\ wr = w
def LeadR2 (l : List Int) (n : Nat) (w : World) (k : Nat) (q5 : Value) (wr : World) : Prop :=
 ∃ J : Nat, q5 = .int .i64 (J : Int) /\ n <= J /\ J <= n + 4 /\ n + 4 - J <= k /\ J <= l.length /\ Hid (spc l n 4 = (J - n) + spc l J (n + 4 - J)) /\ wr = w
theorem lead_any (D : Nat -> Prop) (A : Option Addr) (N c K : Nat) (l : List Int) (w : World) (hl : Ints w D A N l) (hN : N <= 1073741824) (hK : K <= 1073741824) :
  Calls Tryz.prog 54 #[.slice A N c, .int .i64 (K : Int)] w fun e w' => e = .returned (.int .i64 (ldF l K 0 : Int)) /\ w' = w := by
 have hln := hl.len
 have HLN := Lib.hid hln
 obtain ⟨R, hR⟩ : ∃ R, ldF l K 0 = R := ⟨_, rfl⟩
 have HRR := Lib.hid hR
 rw [hR]
 clear hR hln
 go_enter Tryz.func54, Tryz.ntmps54
 go_wp2_with fail
 go_loopg [5, 8] K (fun k q5 q8 wr => LeadR l K w k q5 q8 wr)
 case atStart => exact ⟨0, 0, rfl, rfl, Nat.zero_le _, by omega, Nat.zero_le _, Lib.hid rfl, rfl⟩
 case round =>
  obtain ⟨r, n, rfl, rfl, hr, hk, hn, hinv, rfl⟩ := hrel
  rw [HLN.out] at hn
  by_cases hgo : r < K
  ·have q1 : ((r : Int) < (K : Int)) = True := by simp; omega
   have wr1 : IntKind.i64.wrap ((r : Int) + 1) = ((r + 1 : Nat) : Int) := by rw [IntWalk.i64_in _ (by omega)]; omega
   have hst : ldF l (K - r) n = if ldStep l n = n then n else ldF l (K - (r + 1)) (ldStep l n) := by
    rw [show K - r = (K - (r + 1)) + 1 by omega]
    rfl
   have HST := Lib.hid hst
   clear hst
   go_upto_block 2 with fail
   go_cut [5] (fun s wx => s = .int .i64 (ldStep l n : Int) /\ wx = wr)
   case first =>
    by_cases hnl : n < N
    ·obtain ⟨ad, rfl, _, cx⟩ := Ints.at_ hl hnl
     obtain ⟨x, hx⟩ : ∃ x, l.getD n 0 = x := ⟨_, rfl⟩
     rw [hx] at cx
     have HX := Lib.hid hx
     have q2 : ((n : Int) < (N : Int)) = True := by simp; omega
     have wn : IntKind.i64.wrap ((n : Int) + 1) = ((n + 1 : Nat) : Int) := by rw [IntWalk.i64_in _ (by omega)]; omega
     by_cases h9 : x = 9
     ·subst h9
      have hs : ldStep l n = n + 1 := by unfold ldStep; rw [if_pos ⟨by rw [HLN.out]; exact hnl, hx⟩]
      have HS := Lib.hid hs
      clear hx hs
      go_wp2_with fail
      go_meet
      exact ⟨by rw [HS.out]; simp, rfl⟩
     ·have q3 : (x == 9) = false := by rw [beq_eq_false_iff_ne]; exact h9
      have hs : ldStep l n = n + spc l n 4 := by unfold ldStep; rw [if_neg (fun h => h9 (hx ▸ h.2))]
      have HS := Lib.hid hs
      clear hx hs
      go_wp2_with fail
      go_loopg [5] 4 (fun k q5 wr' => LeadR2 l n wr k q5 wr')
      case atStart => exact ⟨n, rfl, Nat.le_refl _, by omega, by omega, by rw [HLN.out]; exact hn, Lib.hid (by rw [Nat.sub_self, show n + 4 - n = 4 by omega, Nat.zero_add]), rfl⟩
      case round =>
       obtain ⟨J, rfl, hJ1, hJ2, hk, hnj, hsp, rfl⟩ := hrel
       rw [HLN.out] at hnj
       have wn4 : IntKind.i64.wrap ((n : Int) + 4) = (n : Int) + 4 := IntWalk.i64_in _ (by omega)
       by_cases g1 : J < N
       ·have r1 : ((J : Int) < (N : Int)) = True := by simp; omega
        by_cases g2 : J < n + 4
        ·have r2 : ((J : Int) < (n : Int) + 4) = True := by simp; omega
         obtain ⟨ad', hA', _, cy⟩ := Ints.at_ hl g1
         injection hA' with hA'
         subst hA'
         obtain ⟨y, hy⟩ : ∃ y, l.getD J 0 = y := ⟨_, rfl⟩
         rw [hy] at cy
         have wj : IntKind.i64.wrap ((J : Int) + 1) = ((J + 1 : Nat) : Int) := by rw [IntWalk.i64_in _ (by omega)]; omega
         have hu : spc l J (n + 4 - J) = if y = 32 then spc l (J + 1) (n + 4 - (J + 1)) + 1 else 0 := by
          rw [show n + 4 - J = (n + 4 - (J + 1)) + 1 by omega]
          show (if J < l.length /\ l.getD J 0 = 32 then spc l (J + 1) (n + 4 - (J + 1)) + 1 else 0) = _
          rw [hy]
          by_cases h32 : y = 32
          ·rw [if_pos ⟨by rw [HLN.out]; exact g1, h32⟩, if_pos h32]
          ·rw [if_neg (fun h => h32 h.2), if_neg h32]
         have HU := Lib.hid hu
         by_cases h32 : y = 32
         ·subst h32
          clear hy hu
          go_wp2_with fail
          go_roundg (n + 4 - (J + 1))
          case measure => omega
          case rel =>
           refine ⟨J + 1, rfl, by omega, by omega, by omega, by rw [HLN.out]; omega, Lib.hid ?_, rfl⟩
           rw [hsp.out, HU.out, if_pos trivial]
           omega
         ·have q5 : (y == 32) = false := by rw [beq_eq_false_iff_ne]; exact h32
          have hval : ldStep l n = J := by
           rw [HS.out, hsp.out, HU.out, if_neg h32]
           omega
          have HVAL := Lib.hid hval
          clear hy hu hval
          go_wp2_with fail
          go_meet
          exact ⟨by rw [HVAL.out], rfl⟩
        ·have r2 : ((J : Int) < (n : Int) + 4) = False := by simp; omega
         have hval : ldStep l n = J := by
          rw [HS.out, hsp.out, show n + 4 - J = 0 by omega]
          show n + (J - n + 0) = J
          omega
         have HVAL := Lib.hid hval
         clear hval
         go_wp2_with fail
         go_meet
         exact ⟨by rw [HVAL.out], rfl⟩
       ·have r1 : ((J : Int) < (N : Int)) = False := by simp; omega
        have hz : ∀ m, spc l J m = 0 := fun m => by
         cases m with
         | zero => rfl
         | succ m =>
          unfold spc
          rw [if_neg (fun h => by have := HLN.out; omega)]
        have hval : ldStep l n = J := by
         rw [HS.out, hsp.out, hz]
         omega
        have HVAL := Lib.hid hval
        clear hz hval
        go_wp2_with fail
        go_meet
        exact ⟨by rw [HVAL.out], rfl⟩
    ·have q2 : ((n : Int) < (N : Int)) = False := by simp; omega
     have hs : ldStep l n = n := by
      have e0 : spc l n 4 = 0 := by
       unfold spc
       rw [if_neg (fun h => by have := HLN.out; omega)]
      unfold ldStep
      rw [if_neg (fun h => by have := HLN.out; omega), e0]
      rfl
     have HS := Lib.hid hs
     clear hs
     go_wp2_with fail
     go_loopg [5] 1 (fun k q5 wr' => q5 = .int .i64 (n : Int) /\ wr' = wr)
     case atStart => exact ⟨rfl, rfl⟩
     case round =>
      obtain ⟨rfl, rfl⟩ := hrel
      go_wp2_with fail
      go_meet
      exact ⟨by rw [HS.out], rfl⟩
   case rest =>
    obtain ⟨rfl, rfl⟩ := hcut
    have hle := ldStep_le l n (by rw [HLN.out]; exact hn)
    rw [HLN.out] at hle
    obtain ⟨n', hn'⟩ : ∃ n', ldStep l n = n' := ⟨_, rfl⟩
    rw [hn'] at HST hle ⊢
    clear hn'
    by_cases hs : n' = n
    ·subst hs
     have h1 := HST.out
     rw [if_pos rfl, hinv.out, HRR.out] at h1
     have HI := Lib.hid h1
     clear h1
     go_wp2_with fail
     go_ret
     exact ⟨ret_i (by rw [HI.out]), rfl⟩
    ·have q4 : ((n' : Int) == (n : Int)) = false := by rw [beq_eq_false_iff_ne]; omega
     have h1 := HST.out
     rw [if_neg hs, hinv.out] at h1
     have HI := Lib.hid h1
     clear h1
     go_wp2_with fail
     go_roundg (K - (r + 1))
     case measure => omega
     case rel => exact ⟨r + 1, n', rfl, by simp, by omega, by omega, by rw [HLN.out]; omega, Lib.hid HI.out.symm, rfl⟩
  ·have q1 : ((r : Int) < (K : Int)) = False := by simp; omega
   have hinv' := hinv.out
   rw [show K - r = 0 by omega, HRR.out] at hinv'
   have HI : n = R := hinv'
   have HI := Lib.hid HI
   clear hinv'
   go_wp2_with fail
   go_ret
   exact ⟨ret_i (by rw [HI.out]), rfl⟩
def tabs (s : Nat) : List Int := List.replicate s 9
theorem tabs_len (s : Nat) : (tabs s).length = s := List.length_replicate ..
theorem tabs_mem {s : Nat} {x : Int} (h : x ∈ tabs s) : x = 9 := List.eq_of_mem_replicate h
def shE (ds : List (Int × Int)) (k : Int) (i : Nat) : List (Int × Int × List Int) :=
 if k < 0 then (if 0 < ldF (cont ds i) (-k).toNat 0 then [((lineF ds i).from_, (lineF ds i).from_ + (ldF (cont ds i) (-k).toNat 0 : Int), [])] else [])
 else if (lineF ds i).from_ < (lineF ds i).to_ then [((lineF ds i).from_, (lineF ds i).from_, tabs k.toNat)] else []
def shL (ds : List (Int × Int)) (k : Int) (f m : Nat) : List (Int × Int × List Int) := (List.range' f m).flatMap (shE ds k)
theorem shL_succ (ds : List (Int × Int)) (k : Int) (f m : Nat) : shL ds k f (m + 1) = shL ds k f m ++ shE ds k (f + m) := by
 unfold shL
 rw [List.range'_1_concat, List.flatMap_append, List.flatMap_cons, List.flatMap_nil, List.append_nil]
theorem shL_cons (ds : List (Int × Int)) (k : Int) (f m : Nat) : shL ds k f (m + 1) = shE ds k f ++ shL ds k (f + 1) m := by
 unfold shL
 rw [List.range'_succ, List.flatMap_cons]
theorem shE_one {ds : List (Int × Int)} (hp : PosD ds) {k : Int} {i : Nat} (hi : i <= totE ds) : shE ds k i = [] \/ ∃ t v, shE ds k i = [((lineF ds i).from_, t, v)] /\ (lineF ds i).from_ <= t /\ t <= (lineF ds i).to_ /\ (v = [] \/ (0 <= k /\ t = (lineF ds i).from_ /\ v = tabs k.toNat)) := by
 have hbd := lineF_bd hp hi
 have hc := cont_len hp hi
 unfold shE
 by_cases hk : k < 0
 ·rw [if_pos hk]
  split
  ·have := ldF_le (cont ds i) (-k).toNat 0 (Nat.zero_le _)
   exact .inr ⟨_, _, rfl, by omega, by omega, .inl rfl⟩
  ·exact .inl rfl
 ·rw [if_neg hk]
  split
  ·exact .inr ⟨_, _, rfl, by omega, by omega, .inr ⟨by omega, rfl, rfl⟩⟩
  ·exact .inl rfl
theorem shL_right {ds : List (Int × Int)} {k : Int} (hk : 0 <= k) (f m : Nat) : shL ds k f m = (psF ds f m).map (fun p : Nat => ((p : Int), (p : Int), tabs k.toNat)) := by
 unfold shL psF
 rw [List.map_flatMap]
 congr 1
 funext i
 unfold shE
 rw [if_neg (by omega)]
 have := line_from ds i
 split
 ·rw [List.map_cons, List.map_nil, show (((lineF ds i).from_.toNat : Nat) : Int) = (lineF ds i).from_ by omega]
 ·rfl
theorem shL_len {ds : List (Int × Int)} (hp : PosD ds) (k : Int) (f : Nat) : ∀ m, f + m <= totE ds + 1 -> (shL ds k f m).length <= m := by
 intro m
 induction m with
 | zero => intro _; exact Nat.le_refl _
 | succ m ih =>
  intro h
  rw [shL_succ, List.length_append]
  have h1 := ih (by omega)
  rcases shE_one hp (k := k) (i := f + m) (by omega) with h2 | ⟨t, v, h2, _⟩
  ·rw [h2]; simp; omega
  ·rw [h2]; simp; omega
theorem sh_ord {ds : List (Int × Int)} (hp : PosD ds) (k : Int) : ∀ (m f : Nat) (a : Int) (es : List Ed), es.map abE = shL ds k f m -> f + m <= totE ds + 1 -> (0 < m -> a <= (lineF ds f).from_) -> ordF a ds.length es = true := by
 intro m
 induction m with
 | zero =>
  intro f a es he _ _
  have : es = [] := by simpa [shL] using he
  subst this
  rfl
 | succ m ih =>
  intro f a es he hm ha
  have hbd := lineF_bd hp (i := f) (by omega)
  have hnx : 0 < m -> (lineF ds f).to_ <= (lineF ds (f + 1)).from_ := fun h0 => by
   have := (line_form hp (i := f) (by omega)).2.2 (by omega)
   omega
  rw [shL_cons] at he
  rcases shE_one hp (k := k) (i := f) (by omega) with h2 | ⟨t, v, h2, h3, h4, _⟩
  ·rw [h2, List.nil_append] at he
   exact ih (f + 1) a es he (by omega) (fun h0 => by have := ha (by omega); have := hnx h0; omega)
  ·rw [h2, List.singleton_append] at he
   cases es with
   | nil => cases he
   | cons e es =>
    rw [List.map_cons] at he
    injection he with he1 he2
    unfold abE at he1
    injection he1 with e1 he1
    injection he1 with e2 e3
    have := ha (by omega)
    unfold ordF
    rw [e1, e2, if_neg (by omega)]
    exact ih (f + 1) t es he2 (by omega) (fun h0 => by have := hnx h0; omega)
theorem sh_mem {ds : List (Int × Int)} (hp : PosD ds) {k : Int} {f m : Nat} (hm : f + m <= totE ds + 1) {es : List Ed} (he : es.map abE = shL ds k f m) : ∀ e ∈ es, e.put = [] \/ (0 <= k /\ e.t = e.f /\ e.put = tabs k.toNat) := by
 intro e hin
 have h1 : abE e ∈ shL ds k f m := he ▸ List.mem_map_of_mem hin
 unfold shL at h1
 obtain ⟨i, hi, h2⟩ := List.mem_flatMap.1 h1
 rw [List.mem_range'_1] at hi
 rcases shE_one hp (k := k) (i := i) (by omega) with h3 | ⟨t, v, h3, _, _, h4⟩
 ·rw [h3] at h2; cases h2
 ·rw [h3, List.mem_singleton] at h2
  unfold abE at h2
  injection h2 with e1 h2
  injection h2 with e2 e3
  rcases h4 with h4 | ⟨h4, h5, h6⟩
  ·left; rw [e3, h4]
  ·right; exact ⟨h4, by omega, by rw [e3, h6]⟩
theorem szA_tab {enc : Int} (he : enc = 1 \/ enc = 2 \/ enc = 3 \/ enc = 4) : 1 <= szA enc 9 /\ szA enc 9 <= 2 := by
 rcases he with rfl | rfl | rfl | rfl <;> decide
theorem szL_tabs (enc : Int) (s : Nat) : szL_ enc (tabs s) = (s : Int) * szA enc 9 := by
 unfold szL_ tabs
 rw [List.map_replicate]
 induction s with
 | zero => simp
 | succ s ih =>
  rw [List.replicate_succ, List.sum_cons, ih, Int.natCast_add, Int.add_mul]
  omega
theorem sh_fit {enc : Int} (hE : enc = 1 \/ enc = 2 \/ enc = 3 \/ enc = 4) {ds : List (Int × Int)} (hp : PosD ds) {k : Int} {f m : Nat} (hm : f + m <= totE ds + 1) {es : List Ed} (he : es.map abE = shL ds k f m) : fitF enc es = true := by
 have ht := szA_tab hE
 unfold fitF
 rw [List.all_eq_true]
 intro e hin
 unfold fitP
 rw [List.all_eq_true]
 intro x hx
 rcases sh_mem hp hm he e hin with h | ⟨_, _, h⟩
 ·rw [h] at hx; cases hx
 ·rw [h] at hx
  rw [tabs_mem hx]
  simp
  omega
theorem sh_putB_left {enc : Int} {ds : List (Int × Int)} (hp : PosD ds) {k : Int} (hk : k < 0) {f m : Nat} (hm : f + m <= totE ds + 1) {es : List Ed} (he : es.map abE = shL ds k f m) : putB enc es = 0 /\ putN es = 0 := by
 have h1 := sh_mem hp hm he
 clear he
 induction es with
 | nil => exact ⟨rfl, rfl⟩
 | cons e r ih =>
  have h2 := ih (fun e he => h1 e (List.mem_cons_of_mem _ he))
  have h3 : e.put = [] := by
   rcases h1 e List.mem_cons_self with h | ⟨h, _⟩
   ·exact h
   ·omega
  rw [putB_cons, h2.1, h3]
  have h4 := h2.2
  unfold putN at h4 ⊢
  rw [List.map_cons, List.sum_cons, h4, h3]
  exact ⟨rfl, rfl⟩
theorem sh_right {enc : Int} {ds : List (Int × Int)} {s : Nat} {f m : Nat} {es : List Ed} (he : es.map abE = shL ds (s : Int) f m) : es.length = (psF ds f m).length /\ putB enc es = (es.length : Int) * ((s : Int) * szA enc 9) /\ remB ds es = 0 /\ putN es = es.length * s := by
 rw [shL_right (by omega)] at he
 have hl := congrArg List.length he
 rw [List.length_map, List.length_map] at hl
 have hall : ∀ e ∈ es, e.f = e.t /\ e.put = tabs s := fun e hin => by
  have h1 : abE e ∈ (psF ds f m).map (fun p : Nat => ((p : Int), (p : Int), tabs (s : Int).toNat)) := he ▸ List.mem_map_of_mem hin
  obtain ⟨p, _, h2⟩ := List.mem_map.1 h1
  unfold abE at h2
  injection h2 with e1 h2
  injection h2 with e2 e3
  exact ⟨by omega, by rw [<- e3]; rfl⟩
 refine ⟨hl, ?_⟩
 clear he hl
 induction es with
 | nil => exact ⟨by simp [putB], rfl, by simp [putN]⟩
 | cons e r ih =>
  have h2 := ih (fun e he => hall e (List.mem_cons_of_mem _ he))
  have h3 := hall e List.mem_cons_self
  refine ⟨?_, ?_, ?_⟩
  ·rw [putB_cons, h2.1, h3.2, szL_tabs, List.length_cons, Int.natCast_add, Int.add_mul]
   omega
  ·have h4 := h2.2.1
   unfold remB at h4 ⊢
   rw [List.map_cons, List.sum_cons, h4]
   unfold rem1
   rw [if_neg (by omega)]
   rfl
  ·have h4 := h2.2.2
   unfold putN at h4 ⊢
   rw [List.map_cons, List.sum_cons, h4, h3.2, tabs_len, List.length_cons, Nat.add_mul]
   omega
theorem sum_bytes {ds : List (Int × Int)} (hp : PosD ds) : (sumsOf ds).bytes = szS ds := by
 have := szS_bytes hp ds.length
 rwa [List.take_length] at this
theorem sh_ref_right {enc lim : Int} (hE : enc = 1 \/ enc = 2 \/ enc = 3 \/ enc = 4) {ds : List (Int × Int)} (hp : PosD ds) (hl : ds.length <= 65536) {s f m : Nat} (hm : f + m <= totE ds + 1) {es : List Ed} (he : es.map abE = shL ds (s : Int) f m) :
  refF enc lim ds es = if lim < szS ds + (psF ds f m).length * ((s : Int) * szA enc 9) then 50 else 0 := by
 have hte : totE ds <= 65536 := Nat.le_trans (cntE_le _ _) hl
 have h1 := shL_len hp (s : Int) f m hm
 have hlen := congrArg List.length he
 rw [List.length_map] at hlen
 obtain ⟨h2, h3, h4, _⟩ := sh_right (enc := enc) he
 unfold refF
 rw [if_neg (by omega), if_neg (by rw [sh_ord hp _ m f 0 es he hm (fun _ => by have := line_from ds f; omega)]; decide), if_neg (by rw [sh_fit hE hp hm he]; decide), h3, h4, h2, sum_bytes hp]
 simp only [Int.sub_zero]
theorem sh_ref_left {enc lim : Int} (hE : enc = 1 \/ enc = 2 \/ enc = 3 \/ enc = 4) {ds : List (Int × Int)} (hp : PosD ds) (hl : ds.length <= 65536) (hsz : szS ds <= lim) {k : Int} (hk : k < 0) {f m : Nat} (hm : f + m <= totE ds + 1) {es : List Ed} (he : es.map abE = shL ds k f m) :
  refF enc lim ds es = 0 := by
 have hte : totE ds <= 65536 := Nat.le_trans (cntE_le _ _) hl
 have h1 := shL_len hp k f m hm
 have hlen := congrArg List.length he
 rw [List.length_map] at hlen
 have hord := sh_ord hp k m f 0 es he hm (fun _ => by have := line_from ds f; omega)
 have h2 := (sh_putB_left (enc := enc) hp hk hm he).1
 have h3 := remB_ge hp es 0 hord (Int.le_refl _)
 unfold refF
 rw [if_neg (by omega), if_neg (by rw [hord]; decide), if_neg (by rw [sh_fit hE hp hm he]; decide), h2, sum_bytes hp, if_neg (by omega)]
theorem ofF_mono (ds : List (Int × Int)) {x y : Int} (h : x <= y) : ofF ds x <= ofF ds y := by
 unfold ofF
 exact cntE_mono _ (by omega)
theorem rowIx_mono (ds : List (Int × Int)) {x y : Int} (h : x <= y) : rowIx ds x false <= rowIx ds y false := by
 have := ofF_mono ds h
 unfold rowIx
 simp only [Bool.false_eq_true, if_false]
 omega
theorem edL_map {α β : Type} (f : Int -> α) (g : α -> β) : ∀ (es : List Ed) (l : List α), (edL f es l).map g = edL (fun x => g (f x)) es (l.map g) := by
 intro es
 induction es with
 | nil => intro l; rfl
 | cons e r ih =>
  intro l
  rw [edL_cons, edL_cons, <- ih l]
  unfold ed1
  rw [List.map_append, List.map_append, List.map_take, List.map_drop, List.map_map]
  rfl
theorem edit_info : (Tryz.prog.info? 89).map (fun i => (i.zero, i.size, i.bytes)) = some (some (.agg #[.int .i64 0, .int .i64 0, .slice none 0 0]), 3, 40) := by kernel_rfl
theorem edit_row : ∃ i z, Tryz.prog.info? 89 = some i /\ i.zero = some z /\ i.size = 3 /\ i.bytes = 40 /\ z.cells.size = 3 := by
 obtain ⟨i, h1, h2, h3, h4⟩ := info_parts edit_info
 exact ⟨i, _, h1, h2, h3, h4, rfl⟩
theorem edit_one (a b : Int) (A : Option Addr) (n c : Nat) : ∀ u ∈ [Value.int .i64 a, .int .i64 b, .slice A n c], u.oneCell' = true := by
 intro u hu
 simp at hu
 rcases hu with rfl | rfl | rfl <;> rfl
def PutI (w : World) (base : Nat) (e : Ed) : Prop := Ints w (fun b => base <= b /\ ∃ cs, Blk w b 3 cs) e.A e.n e.put
theorem PutI.ints {w : World} {base : Nat} {e : Ed} (h : PutI w base e) : Ints w (fun b => base <= b /\ ∃ cs, Blk w b 3 cs) e.A e.n e.put := h
theorem PutI.fr {w w' : World} {base : Nat} {e : Ed} {S : Nat -> Prop} (h : PutI w base e) (hf : Fr S w w') (hS : ∀ b, b < w.heap.size -> S b -> ¬ ∃ cs, Blk w b 3 cs) : PutI w' base e := by
 have h0 : Ints w (fun b => base <= b /\ ∃ cs, Blk w b 3 cs) e.A e.n e.put := h
 have h1 : Ints w' (fun b => b < w.heap.size /\ base <= b /\ ∃ cs, Blk w b 3 cs) e.A e.n e.put := Reads.fr (Reads.more h0 (D' := fun b => b < w.heap.size /\ base <= b /\ ∃ cs, Blk w b 3 cs) (fun b hb hlt => ⟨hlt, hb⟩) (by decide)) hf (fun b hb hlt hs => hS b hlt hs hb.2.2)
 exact Reads.more h1 (D' := fun b => base <= b /\ ∃ cs, Blk w' b 3 cs) (fun b hb _ => by
  obtain ⟨hlt, hle, cs, hb⟩ := hb
  exact ⟨hle, cs, hb.fr hf (fun hs => hS b hlt hs ⟨cs, hb⟩)⟩) (by decide)
theorem PutI.bel {w w' : World} {base : Nat} {e : Ed} (h : PutI w base e) (hb : Below w.heap.size w w') : PutI w' base e := h.fr (S := fun _ => False) (Fr.of_below hb) (fun _ _ hs => hs.elim)
theorem PutI.nil {w : World} {base : Nat} {e : Ed} (h1 : e.put = []) (h2 : e.n = 0) : PutI w base e := by
 unfold PutI
 rw [h1, h2]
 exact ⟨rfl, fun h => absurd h (by omega)⟩
theorem PutI.of_own {w : World} {base n c : Nat} {A : Option Addr} {f t : Int} {xs : List Int} (h : w.ownsRow base 3 1 (.slice A n c) n (xs.map (Value.int .i64))) : PutI w base ⟨f, t, A, n, c, xs⟩ := by
 refine ⟨h.1, fun hk => ?_⟩
 rcases h.2 with ⟨e0, h0⟩ | ⟨r, c', cur, e1, hb, hr, h1, h2, h3, h4⟩
 ·dsimp only at hk
  omega
 ·have hA : A = some ⟨r, 0, none⟩ := by injection e1
  obtain ⟨ad, e2, _, hc⟩ := (Reads.of_own h).2 hk
  rw [hA] at e2
  injection e2 with e2
  refine ⟨ad, by dsimp only; rw [hA, e2], ⟨?_, cur, ?_⟩, hc⟩
  ·rw [<- e2]
   exact hb
  ·rw [<- e2]
   exact hr
structure EdsS (w : World) (base : Nat) (v : Value) (es : List Ed) : Prop where
 row : w.ownsRow base 89 3 v es.length (es.flatMap fun e => e.cells.toList)
 put : ∀ e ∈ es, PutI w base e
theorem EdsS.eds {w : World} {base k c : Nat} {A : Option Addr} {es : List Ed} (h : EdsS w base (.slice A k c) es) (hk : es.length = k) : EdsAt w (fun b => base <= b /\ ((∃ cs, Blk w b 3 cs) \/ ∃ cs, Blk w b 89 cs)) A k es := by
 subst hk
 refine ⟨⟨h.row.1, fun hk => ?_⟩, fun e he => Reads.more (h.put e he).ints (fun b hb _ => ⟨hb.1, .inl hb.2⟩) (by decide)⟩
 rcases h.row.2 with ⟨_, h0⟩ | ⟨r, c', cur, e1, hb, hr, h1, h2, h3, h4⟩
 ·omega
 ·have hA : A = some ⟨r, 0, none⟩ := by injection e1
  obtain ⟨ad, e2, _, hc⟩ := (Reads.of_own h.row).2 hk
  rw [hA] at e2
  injection e2 with e2
  refine ⟨ad, by rw [hA, e2], ⟨?_, .inr ⟨cur, ?_⟩⟩, hc⟩
  ·rw [<- e2]
   exact hb
  ·rw [<- e2]
   exact hr
theorem EdsS.bel {w w' : World} {base : Nat} {v : Value} {es : List Ed} (h : EdsS w base v es) (hb : Below w.heap.size w w') : EdsS w' base v es :=
 ⟨own_bel h.row hb, fun e he => (h.put e he).fr (S := fun _ => False) (Fr.of_below hb) (fun _ _ hs => hs.elim)⟩
theorem EdsS.snoc {w w1 w2 : World} {base : Nat} {v v' : Value} {es : List Ed} {e : Ed} (h : EdsS w base v es) (hb : Below w.heap.size w w1) (hp : PutI w1 base e)
  (hg : w1.grownBy w2 v.ownBlock) (ho : w2.ownsRow base 89 3 v' (es.length + 1) ((es.flatMap fun e => e.cells.toList) ++ e.cells.toList)) : EdsS w2 base v' (es ++ [e]) := by
 have hF : Fr (OwnB v) w1 w2 := (Fr.refl _ w1).grown hg (fun k hk _ => hk)
 have hn : ∀ b, b < w1.heap.size -> OwnB v b -> ¬ ∃ cs, Blk w1 b 3 cs := fun b _ hs ⟨cs, hc⟩ => own_blk_ne (own_bel h.row hb) hc (by decide) hs
 refine ⟨?_, fun x hx => ?_⟩
 ·rw [List.length_append, List.flatMap_append]
  simpa using ho
 ·rcases List.mem_append.1 hx with hx | hx
  ·exact ((h.bel hb).put x hx).fr hF hn
  ·rw [List.mem_singleton] at hx
   subst hx
   exact hp.fr hF hn
theorem EdsS.nil (w : World) (base : Nat) : EdsS w base (.slice none 0 0) [] := ⟨World.ownsRow_nil _ _ _ _, fun e he => by cases he⟩
theorem psF_len_mono (ds : List (Int × Int)) (f : Nat) {j m : Nat} (h : j <= m) : (psF ds f j).length <= (psF ds f m).length := by
 induction m with
 | zero => rw [show j = 0 by omega]; exact Nat.le_refl _
 | succ m ih =>
  rcases Nat.lt_or_ge m j with h1 | h1
  ·rw [show j = m + 1 by omega]; exact Nat.le_refl _
  ·have := ih h1
   rw [psF_succ, List.length_append]
   omega
theorem repeatL_tab (s : Nat) : repeatL [9] s = tabs s := by
 induction s with
 | zero => rfl
 | succ s ih =>
  unfold repeatL
  rw [ih]
  unfold tabs
  rw [List.replicate_succ']
def ShR (ds : List (Int × Int)) (k tb S : Int) (f l : Nat) (w : World) (m : Nat) (q6 q8 : Value) (wr : World) : Prop :=
 ∃ (j i : Nat) (es : List Ed), q8 = .int .i64 (i : Int) /\ Hid (i = f + j) /\ Hid (EdsS wr w.heap.size q6 es) /\ Hid (es.map abE = shL ds k f j) /\ Hid (0 <= k -> S + (es.length : Int) * (k * tb) <= 65536) /\ f + j <= l + 1 /\ l + 1 - (f + j) <= m /\ Below w.heap.size w wr
theorem ShR.same {ds : List (Int × Int)} {k tb S : Int} {f l : Nat} {w : World} {m j i : Nat} {q6 : Value} {es : List Ed} {wr w2 : World} (hi : i = f + j) (hE : EdsS wr w.heap.size q6 es) (he : es.map abE = shL ds k f j) (hS : 0 <= k -> S + (es.length : Int) * (k * tb) <= 65536)
  (hb : Below w.heap.size w wr) (hb2 : Below wr.heap.size wr w2) (hil : i <= l) (hm : l + 1 - (f + (j + 1)) <= m) (hsh : shE ds k i = []) : ShR ds k tb S f l w m q6 (.int .i64 ((i + 1 : Nat) : Int)) w2 := by
 refine ⟨j + 1, i + 1, es, rfl, Lib.hid (by omega), Lib.hid (hE.bel hb2), Lib.hid ?_, Lib.hid hS, by omega, hm, bseq hb hb2⟩
 rw [shL_succ, <- hi, hsh, List.append_nil]
 exact he
theorem ShR.more {ds : List (Int × Int)} {k tb S : Int} {f l : Nat} {w : World} {m j i : Nat} {q6 : Value} {es : List Ed} {e : Ed} {w2 : World} (hi : i = f + j) (hE : EdsS w2 w.heap.size q6 (es ++ [e])) (he : es.map abE = shL ds k f j) (hS : 0 <= k -> S + ((es.length : Int) + 1) * (k * tb) <= 65536)
  (hb : Below w.heap.size w w2) (hil : i <= l) (hm : l + 1 - (f + (j + 1)) <= m) (hsh : shE ds k i = [abE e]) : ShR ds k tb S f l w m q6 (.int .i64 ((i + 1 : Nat) : Int)) w2 := by
 refine ⟨j + 1, i + 1, es ++ [e], rfl, Lib.hid (by omega), Lib.hid hE, Lib.hid ?_, Lib.hid (fun h => ?_), by omega, hm, hb⟩
 ·rw [shL_succ, <- hi, hsh, List.map_append, he]
  rfl
 ·rw [List.length_append]
  exact hS h
def stepsF (s : Int) : Int := min (max s (-9999)) 9999
def IntsW (w : World) (v : Value) (n : Nat) (l : List Int) : Prop := ∃ A c, v = .slice A n c /\ IntsI w A n l
theorem IntsW.at_ {w : World} {A : Option Addr} {n m c : Nat} {l : List Int} (h : IntsW w (.slice A n c) m l) : n = m /\ IntsI w A n l := by
 obtain ⟨A', c', e, h⟩ := h
 injection e with e1 e2 e3
 subst e1 e2
 exact ⟨rfl, h⟩
theorem IntsW.form {w : World} {v : Value} {n : Nat} {l : List Int} (h : IntsW w v n l) : ∃ A c, v = .slice A n c := by
 obtain ⟨A, c, rfl, _⟩ := h
 exact ⟨A, c, rfl⟩
theorem IntsW.one (w : World) (x : Int) : IntsW (w.alloc (.cells #[.int .i64 x] 3)) (.slice (some ⟨w.heap.size, 0, none⟩) 1 1) 1 [x] := by
 refine ⟨_, _, rfl, rfl, fun _ => ⟨_, rfl, ⟨_, Blk.new w _ _⟩, fun j u hu => ?_⟩⟩
 cases j with
 | zero =>
  rw [add_cell, (Blk.new w 3 #[.int .i64 x]).cell]
  simpa using hu
 | succ j => simp at hu
def PutV (w : World) (base : Nat) (v : Value) (n : Nat) (l : List Int) : Prop := ∃ A c, v = .slice A n c /\ PutI w base ⟨0, 0, A, n, c, l⟩
theorem PutV.at_ {w : World} {base : Nat} {A : Option Addr} {n m c : Nat} {f t : Int} {l : List Int} (h : PutV w base (.slice A n c) m l) : n = m /\ PutI w base ⟨f, t, A, n, c, l⟩ := by
 obtain ⟨A', c', e, h⟩ := h
 injection e with e1 e2 e3
 subst e1 e2
 exact ⟨rfl, h⟩
theorem PutV.form {w : World} {base : Nat} {v : Value} {n : Nat} {l : List Int} (h : PutV w base v n l) : ∃ A c, v = .slice A n c := by
 obtain ⟨A, c, rfl, _⟩ := h
 exact ⟨A, c, rfl⟩
theorem PutV.of_new {w w' : World} {base : Nat} {e : Ending} {l : List Int} (h : NewInts l w e w') (hb : base <= w.heap.size) : ∃ v, e = .returned v /\ PutV w' base v l.length l /\ Below w.heap.size w w' := by
 obtain ⟨v, rfl, ho, hbl⟩ := h
 obtain ⟨A, c, rfl, _⟩ := own_slice ho
 have h1 : PutI w' w.heap.size ⟨0, 0, A, l.length, c, l⟩ := PutI.of_own ho
 refine ⟨_, rfl, ⟨A, c, rfl, ?_⟩, hbl⟩
 exact Reads.more (D' := fun b => base <= b /\ ∃ cs, Blk w' b 3 cs) h1.ints (fun b hb' _ => ⟨Nat.le_trans hb hb'.1, hb'.2⟩) (by decide)
theorem lfield0 (a b c d : Int) (w : World) : (Instr.field 59 (.agg #[.int .i64 a, .int .i64 b, .int .i64 c, .int .i64 d]) 0).run Tryz.prog w = .ok (.int .i64 a) w := by kernel_rfl
def Shift1Post (B gd gb g b2 : Nat) (enc lim : Int) (n : Nat) (st : BkS) (o : OpS) (dc : Array Value) (k : Int) (f l : Nat) (w : World) (e : Ending) (w' : World) : Prop :=
 (∃ (es : List Ed) (x : Int), es.map abE = shL (sizedA enc st.ats) k f (l + 1 - f) /\ refF enc lim (sizedA enc st.ats) es = 0 /\ (∃ i, HereAt (sizedA enc (edA es st.ats)) (lineF (sizedA enc st.ats) f).from_ i /\ SignAt (sizedA enc (edA es st.ats)) i x) /\
  e = .returned (.int .i64 x) /\ DeskIs w' B gd gb g enc lim (n + 131072) { st with ats := edA es st.ats, now := some { o with moves := o.moves ++ [es.map mvOf], changed := o.changed || es.any chg } } dc /\ DFr B (· = b2) w w') \/
 (0 < k /\ lim < szS (sizedA enc st.ats) + ((psF (sizedA enc st.ats) f (l + 1 - f)).length : Int) * (k * szA enc 9) /\ e = .panicked [errPanic 50] /\ DeskIs w' B gd gb g enc lim n st dc /\ DFr B (· = b2) w w')
end Go.Proofs.YtgiihhikdoikgaaGreat
