/-
  The walks of package piece: Breaks.
-/
import Derived.Test.YtcdhfmkfkhhnoaaGreatLAhead
import Derived.Test.YtcdhfmkfkhhnoaaGreatLWalk2
set_option linter.unusedSimpArgs false
set_option linter.unusedVariables false
namespace Go.Proofs.YtcdhfmkfkhhnoaaGreat
open Go.RowKit

/-- how many breaks end at an offset or ahead of it -/
def bF (ds : List (Int × Int)) (at_ : Int) : Int :=
  if at_ ≤ 0 then 0 else if ds.length ≤ at_ then (sumsOf ds).breaks else
  if (sumsOf (ds.take at_.toNat)).cr = true ∧ (ds.map Prod.fst).getD at_.toNat 0 = 10 then (sumsOf (ds.take at_.toNat)).breaks - 1 else (sumsOf (ds.take at_.toNat)).breaks
theorem seg_one (l : List Int) (k : Nat) (h : k < l.length) : seg (k : Int) ((k : Int) + 1) l = [l.getD k 0] := by
  unfold seg
  rw [show ((k : Int) + 1).toNat - (k : Int).toNat = 1 by omega, Int.toNat_natCast, List.drop_eq_getElem_cons h, List.getD_eq_getElem?_getD, List.getElem?_eq_getElem h]
  rfl
set_option maxRecDepth 100000 in
set_option maxHeartbeats 2000000 in
theorem breaksT_any (D : Nat → Prop) (g : Nat) (enc : Int) (ds : List (Int × Int)) (at_ : Int) (w : World) (h : TextAt w D g enc ds) :
    Calls Tryz.prog 51 #[.pointer (some ⟨g, 0, none⟩), .int .i64 at_] w fun e w' => e = .returned (.int .i64 (bF ds at_)) ∧ Below w.heap.size w w' := by
  have hlen := h.len
  by_cases h0 : at_ ≤ 0
  · have e : bF ds at_ = 0 := if_pos h0
    rw [e]
    clear e
    go_enter Tryz.func51, Tryz.ntmps51
    go_wp2_with fail
    go_ret
    exact ⟨rfl, Below.refl _ _⟩
  · have h0' : 0 < at_ := by omega
    have hl := len_any D g enc ds w h
    obtain ⟨n, hn⟩ : ∃ n, ds.length = n := ⟨_, rfl⟩
    rw [hn] at hl hlen
    have HN := Lib.hid hn
    have HL := Lib.hid hl
    clear hl hn
    by_cases h1 : (n : Int) ≤ at_
    · obtain ⟨V, hV⟩ : ∃ V, bF ds at_ = V := ⟨_, rfl⟩
      have e : V = (sumsOf ds).breaks := by rw [← hV]; unfold bF; rw [if_neg h0, if_pos (by rw [HN.out]; exact h1)]
      rw [hV, e]
      clear hV e
      obtain ⟨lim, t, a, add, hT, rfl⟩ := h
      obtain ⟨S, hS⟩ : ∃ S, sumsOf (decL enc t.list) = S := ⟨_, rfl⟩
      rw [hS]
      have HS := Lib.hid hS
      clear hS
      go_enter Tryz.func51, Tryz.ntmps51
      go_wp2_with fail
      refine (HL.out).mono ?_
      rintro e w1 ⟨rfl, hb1⟩
      have hT1 := hT.below hb1
      obtain ⟨c0, c2⟩ := hT1.cells
      have hc := tsum_any t a w1 hT1.node
      rw [hT1.sum, HS.out] at hc
      have HC := Lib.hid hc
      have kf := field2 S.atoms S.bytes S.breaks S.lf S.cr
      clear hc HL
      go_wp2_with fail
      refine (HC.out).mono ?_
      rintro e w2 ⟨rfl, hb2⟩
      go_wp2_with fail
      go_ret
      exact ⟨rfl, bseq hb1 hb2⟩
    · have h1' : at_ < (n : Int) := by omega
      obtain ⟨k, rfl⟩ : ∃ k : Nat, at_ = (k : Int) := ⟨at_.toNat, by omega⟩
      obtain ⟨⟨sa, sb, sk, sl, sc⟩, hS⟩ : ∃ S, sumsOf (ds.take k) = S := ⟨_, rfl⟩
      obtain ⟨c, hc⟩ : ∃ c, (ds.map Prod.fst).getD k 0 = c := ⟨_, rfl⟩
      have e : bF ds k = if sc = true ∧ c = 10 then sk - 1 else sk := by
        unfold bF
        rw [if_neg h0, if_neg (by rw [HN.out]; omega), Int.toNat_natCast, hS, hc]
      have hat := fun (w' : World) (hb : Below w.heap.size w w') => tatoms_any D g enc ds (k : Int) ((k : Int) + 1) w' (h.below hb) (by omega) (by omega)
      rw [seg_one _ k (by rw [List.length_map, HN.out]; omega), hc] at hat
      have hsg := sumsOf_good' (h.pos.take k)
      rw [hS] at hsg
      obtain ⟨⟨s1, s2, s3, _⟩, s4, hsg'⟩ := hsg
      dsimp only at s1 s2 s3 s4
      have hbk : 0 ≤ sk ∧ sk ≤ 1073741824 := ⟨s1, by rw [List.length_take] at s4; omega⟩
      obtain ⟨hbk1, hbk2⟩ := hbk
      rw [e]
      have HAT := Lib.hid hat
      have hah' : ∀ w', Below w.heap.size w w' → Calls Tryz.prog 76 #[.pointer (some ⟨g, 0, none⟩), .int .i64 (k : Int)] w' fun e w2 => e = .returned (.agg (Sums.mk sa sb sk sl sc).cells) ∧ Below w'.heap.size w' w2 := fun w' hb => by
        obtain ⟨lim, t, a, add, hT, rfl⟩ := h
        have := ahead_any D g enc lim t a add (k : Int) w' (hT.below hb) (by omega) (by rw [HN.out]; omega)
        rw [Int.toNat_natCast, hS] at this
        exact this
      simp only [Sums.cells] at hah'
      have HAH := Lib.hid hah'
      clear hat hah' e hS hc s1 s2 s3 s4 hsg'
      cases sc
      · rw [if_neg (by simp)]
        go_enter Tryz.func51, Tryz.ntmps51
        go_wp2_with fail
        refine (HL.out).mono ?_
        rintro e w1 ⟨rfl, hb1⟩
        clear HL
        go_wp2_with fail
        refine (HAH.out _ hb1).mono ?_
        rintro e w2 ⟨rfl, hb2⟩
        have hW2 := bseq hb1 hb2
        clear HAH
        go_wp2_with fail
        go_ret
        exact ⟨rfl, balloc hW2⟩
      · have q : ∀ V : Int, V = (if true = true ∧ c = 10 then sk - 1 else sk) → Ending.returned (.int .i64 V) = .returned (.int .i64 (if true = true ∧ c = 10 then sk - 1 else sk)) := fun V h => by rw [h]
        obtain ⟨V, hV⟩ : ∃ V : Int, (if true = true ∧ c = 10 then sk - 1 else sk) = V := ⟨_, rfl⟩
        rw [hV]
        have HV := Lib.hid hV
        clear q hV
        go_enter Tryz.func51, Tryz.ntmps51
        go_wp2_with fail
        refine (HL.out).mono ?_
        rintro e w1 ⟨rfl, hb1⟩
        clear HL
        go_wp2_with fail
        refine (HAH.out _ hb1).mono ?_
        rintro e w2 ⟨rfl, hb2⟩
        have hW2 := bseq hb1 hb2
        have hW3 := balloc (o := .cells (Sums.mk sa sb sk sl true).cells 112) hW2
        have b5 : Blk (w2.alloc (.cells (Sums.mk sa sb sk sl true).cells 112)) w2.heap.size 112 (Sums.mk sa sb sk sl true).cells := Blk.new w2 _ _
        have hat' := HAT.out _ hW3
        simp only [Sums.cells] at hat' b5
        have HATT := Lib.hid hat'
        clear hat' HAT HAH hb1 hb2
        go_wp2_with fail
        refine (HATT.out).mono ?_
        rintro e w3 ⟨v, rfl, hown, hb3⟩
        have hW4 := bseq hW3 hb3
        have b6 := b5.below hb3
        have c2 := b6.cell 2
        simp at c2
        obtain ⟨r, cap, rfl, hr1, hr2⟩ := hown.form (by simp)
        have c0 := hown.cells (g := r) rfl 0 (.int .i64 c) (by simp)
        have qc : (c == 10) = decide (c = 10) := by rw [Bool.eq_iff_iff]; simp
        have HO := Lib.hid hown
        simp [Addr.add] at c0
        clear hown HATT
        by_cases hc : c = 10
        · subst hc
          go_wp2_with fail
          go_ret
          refine ⟨ret_i ?_, hW4⟩
          have := HV.out
          simp at this
          omega
        · have q : (c == 10) = false := by rw [beq_eq_false_iff_ne]; exact hc
          have hv := HV.out
          rw [if_neg (fun h => hc h.2)] at hv
          have HV2 := Lib.hid hv
          clear hv hc qc
          go_wp2_with fail
          go_ret
          exact ⟨ret_i HV2.out, hW4⟩
end Go.Proofs.YtcdhfmkfkhhnoaaGreat
