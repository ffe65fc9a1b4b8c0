/-
  What is typed, where no line end is typed (lines.Typed).
-/
import Derived.Test.YtkocknfhdojmbaaGreatLUndoLaw
import Derived.Test.YtkocknfhdojmbaaGreatLLineLaw
set_option linter.unusedSimpArgs false
set_option linter.unusedVariables false
set_option maxRecDepth 100000
set_option maxHeartbeats 32000000
namespace Go.Proofs.YtkocknfhdojmbaaGreat
open Go.RowKit
def TypedR (xs : List Int) (w0 : World) (k : Nat) (q12 q14 q56 : Value) (wr : World) : Prop :=
 ∃ (i : Nat) (a : Int), q56 = .int .i64 (i : Int) /\ q12 = .int .i64 a /\ i <= xs.length /\ xs.length - i <= k /\ Hid (wr.ownsRow w0.heap.size 3 1 q14 i ((xs.take i).map (Value.int .i64))) /\ Below w0.heap.size w0 wr
theorem typed_plain (D : Nat -> Prop) (g : Nat) (enc : Int) (ds : List (Int × Int)) (at_ b : Int) (A : Option Addr) (n c : Nat) (xs : List Int) (w : World) (h : TextAt w D g enc ds) (hat : 0 <= at_ /\ at_ <= (ds.length : Int)) (hb : b = 1 \/ b = 2 \/ b = 3) (hx : Ints w Any A n xs) (hn : n <= 1073741824) (hno : ∀ x ∈ xs, x ≠ 10) :
    Calls Tryz.prog 82 #[.pointer (some ⟨g, 0, none⟩), .int .i64 at_, .slice A n c, .int .i64 b] w fun e w' => ∃ v, e = .returned (.tuple #[v, .int .i64 0]) /\ w'.ownsRow w.heap.size 3 1 v n (xs.map (Value.int .i64)) /\ Below w.heap.size w w' := by
  have hlen := h.len
  have hxl := hx.len
  have hle := fun (w' : World) (hb : Below w.heap.size w w') => len_any D g enc ds w' (h.below hb)
  have hat2 := fun (w' : World) (hb : Below w.heap.size w w') => tatoms_any D g enc ds (at_ - 1) (at_ + 1) w' (h.below hb) (by omega) (by omega)
  have hsl : 0 < at_ -> 0 < (seg (at_ - 1) (at_ + 1) (ds.map Prod.fst)).length := fun h0 => by
    have e : (((at_ + 1) - (at_ - 1)).toNat) = 2 := by omega
    unfold seg
    rw [List.length_take, List.length_drop, List.length_map]
    omega
  obtain ⟨S, hS⟩ : ∃ S, seg (at_ - 1) (at_ + 1) (ds.map Prod.fst) = S := ⟨_, rfl⟩
  have hS2 : S.length <= 1073741824 := by rw [<- hS]; unfold seg; rw [List.length_take, List.length_drop, List.length_map]; omega
  rw [hS] at hat2 hsl
  obtain ⟨m, hm⟩ : ∃ m, ds.length = m := ⟨_, rfl⟩
  rw [hm] at hle hat hlen
  have q1 : (at_ < 0) = False := by simp; omega
  have q2 : ((m : Int) < at_) = False := by simp; omega
  have w1 : IntKind.i64.wrap (at_ - 1) = at_ - 1 := IntWalk.i64_in _ (by omega)
  have w2 : IntKind.i64.wrap (at_ + 1) = at_ + 1 := IntWalk.i64_in _ (by omega)
  obtain ⟨i0, hi0, hz0, hz1, hz2⟩ := info_parts int_info
  have HLE := Lib.hid hle
  have HAT := Lib.hid hat2
  have HSL := Lib.hid hsl
  have HNO := Lib.hid hno
  have HX := Lib.hid hx
  have HXL := Lib.hid hxl
  clear hle hat2 hsl hS hm h hno hx hxl
  rcases hb with rfl | rfl | rfl
  all_goals
    go_enter Tryz.func82, Tryz.ntmps82
    go_wp2_with fail
    refine (HLE.out _ ?_).mono ?_
    · first
        | exact balloc (Below.refl _ _)
        | exact balloc (balloc (Below.refl _ _))
    rintro e wa ⟨rfl, hba⟩
    have hb0 : Below w.heap.size w wa := by
      first
        | exact bseq (balloc (Below.refl _ _)) hba
        | exact bseq (balloc (balloc (Below.refl _ _))) hba
    clear hba
    go_wp2_with fail
    refine (HAT.out _ hb0).mono ?_
    rintro e wb ⟨v, rfl, hown, hbb⟩
    obtain ⟨A1, c1, rfl, hc1⟩ := own_slice hown
    have hI : Ints wb Any A1 S.length S := Reads.more (Reads.of_own hown) (fun _ _ _ => trivial) (by decide)
    have hbw := bseq hb0 hbb
    clear hown hbb hb0 HLE HAT
    obtain ⟨N, hN⟩ : ∃ N, S.length = N := ⟨_, rfl⟩
    have hsl := HSL.out
    rw [hN] at hI hc1 hS2 hsl ⊢
    have HI := Lib.hid hI
    clear hN HSL hI
    have HBW := Lib.hid hbw
    clear hbw
    go_upto_if 42 with fail
    go_cut [11, 12] (fun s11 s12 wx => ∃ (A2 : Option Addr) (N2 c2 : Nat) (l2 : List Int) (a : Int), s11 = .slice A2 N2 c2 /\ s12 = .int .i64 a /\ Hid (Ints wx Any A2 N2 l2) /\ N2 <= 1073741824 /\ wx = wb)
    case first =>
      by_cases h0 : 0 < at_
      · have hs0 := hsl h0
        obtain ⟨bA, oA, rfl, _, cA⟩ := ints_form HI.out hs0
        have c0 := cA 0 hs0
        rw [Nat.add_zero] at c0
        obtain ⟨a, ha⟩ : ∃ a, S.getD 0 0 = a := ⟨_, rfl⟩
        rw [ha] at c0
        have p1 : ((1 : Int) <= (N : Int)) = True := by simp; omega
        have p2 : 1 <= N := hs0
        have p3 : (0 : Int) < (N : Int) := by omega
        have p4 : ((N : Int) <= (c1 : Int)) = True := by simp; omega
        clear ha
        go_wp2_with fail
        all_goals
          go_meet
          refine ⟨_, N - 1, _, S.drop 1, a, rfl, rfl, Lib.hid ⟨by rw [List.length_map, List.length_drop, HI.out.len, Nat.mul_one], fun h1 => ?_⟩, by omega, rfl⟩
          first
            | (exfalso; omega)
            | (refine ⟨_, rfl, trivial, fun j u hu => ?_⟩
               rw [List.getElem?_map, List.getElem?_drop] at hu
               have hj : 1 + j < N := by
                 rcases Nat.lt_or_ge (1 + j) N with h2 | h2
                 · exact h2
                 · rw [List.getElem?_eq_none (by rw [HI.out.len]; omega)] at hu
                   cases hu
               have := cA (1 + j) hj
               rw [add_cell, show oA + 1 + j = oA + (1 + j) by omega, this]
               rw [List.getElem?_eq_getElem (by rw [HI.out.len]; omega)] at hu
               rw [List.getD_eq_getElem?_getD, List.getElem?_eq_getElem (by rw [HI.out.len]; omega)]
               simpa using hu)
      · go_wp2_with fail
        go_meet
        exact ⟨A1, N, c1, S, 0, rfl, rfl, HI, hS2, rfl⟩
    case rest =>
      obtain ⟨A2, N2, c2, l2, a, rfl, rfl, hI2, hN2, rfl⟩ := hcut
      clear HI hsl hS2 hc1
      go_upto_if 50 with fail
      go_cut [13] (fun s wx => ∃ z : Int, s = .int .i64 z /\ wx = wc)
      case first =>
        by_cases h0 : 0 < N2
        · obtain ⟨bA, oA, rfl, _, cA⟩ := ints_form hI2.out h0
          have c0 := cA 0 h0
          rw [Nat.add_zero] at c0
          obtain ⟨z, hz⟩ : ∃ z, l2.getD 0 0 = z := ⟨_, rfl⟩
          rw [hz] at c0
          have p3 : (0 : Int) < (N2 : Int) := by omega
          clear hz
          go_wp2_with fail
          go_meet
          exact ⟨_, rfl, rfl⟩
        · have p3 : ((0 : Int) < (N2 : Int)) = False := by simp; omega
          go_wp2_with fail
          go_meet
          exact ⟨0, rfl, rfl⟩
      case rest =>
        obtain ⟨z, rfl, rfl⟩ := hcut
        clear hI2 hN2
        go_wp2_with fail
        go_loopg [12, 14, 56] n (fun k q12 q14 q56 wr => TypedR xs w k q12 q14 q56 wr)
        case atStart => exact ⟨0, a, rfl, rfl, Nat.zero_le _, by rw [HXL.out]; omega, Lib.hid (World.ownsRow_nil _ _ _ _), HBW.out⟩
        case round =>
          obtain ⟨i, a', rfl, rfl, hi, hk, hown, hb⟩ := hrel
          have hxl := HXL.out
          rw [hxl] at hi hk
          by_cases hgo : i < n
          · obtain ⟨ad, rfl, _, cx⟩ := Ints.at_ (Reads.below HX.out hb) hgo
            have hx10 : xs.getD i 0 ≠ 10 := HNO.out _ (by rw [List.getD_eq_getElem?_getD, List.getElem?_eq_getElem (by omega)]; exact List.getElem_mem _)
            obtain ⟨x, hx⟩ : ∃ x, xs.getD i 0 = x := ⟨_, rfl⟩
            rw [hx] at cx hx10
            have q3 : ((i : Int) < (n : Int)) = True := by simp; omega
            have q4 : (x != 10) = true := by rw [bne_iff_ne]; exact hx10
            have HXI := Lib.hid hx
            have HXL2 := Lib.hid hxl
            have hs0 := hb.size
            clear hx hx10 hxl
            go_wp2_with (at_builtin; refine wpList_append_own_at _ rfl (.tmp 67) (.tmp 69) 35 rfl w.heap.size 3 i0 (.int .i64 0) 1 8 Tryz.underlying35 hi0 hz0 hz1 hz2 rfl (by decide) u14 i _ rfl (hown.out.alloc _) ⟨wr.heap.size, 0, none⟩ 1 1 [.int .i64 x] rfl rfl (cell_one_new _ _ _) (by simp [Value.oneCell']) (by unfold maxLen; omega) (by omega) (by simp; omega) ?_)
            intro v1 w4 hown1 hgr _ _
            have hb1 : Below w.heap.size w w4 := below_grown2 (balloc hb) hgr (fun k hk => own_ge hown.out hk)
            obtain ⟨A4, c4, rfl, hc4⟩ := own_slice hown1
            have hI0 := Reads.of_own hown1
            have e0 : (xs.map (Value.int .i64)).take i ++ [.int .i64 x] = (xs.take i ++ [x]).map (Value.int .i64) := by simp [List.map_take]
            rw [e0] at hI0 hown1
            have hI4 := Ints.at_ (show Ints w4 _ A4 (i + 1) (xs.take i ++ [x]) from hI0) (k := i) (by omega)
            obtain ⟨ad4, rfl, _, cx4⟩ := hI4
            have hg4 : ((xs.take i) ++ [x]).getD i 0 = x := by
              rw [List.getD_eq_getElem?_getD, List.getElem?_append_right (by rw [List.length_take]; omega), List.length_take, Nat.min_eq_left (by rw [HXL2.out]; omega), Nat.sub_self]
              rfl
            rw [hg4] at cx4
            have wi : IntKind.i64.wrap (((i + 1 : Nat) : Int) - 1) = (i : Int) := by rw [IntWalk.i64_in _ (by omega)]; omega
            have p1 : (i : Int) < ((i + 1 : Nat) : Int) := by omega
            have p2 : (0 : Int) <= (i : Int) := by omega
            have HO := Lib.hid hown1
            clear hown1 hgr cx hg4 hown hi0 hz0 hz1 hz2 q4 hI0 e0
            go_wp2_with fail
            go_roundg (n - (i + 1))
            case measure => omega
            case rel =>
              refine ⟨i + 1, x, by simp, rfl, by rw [HXL2.out]; omega, by rw [HXL2.out]; omega, Lib.hid ?_, hb1⟩
              rw [List.take_succ_eq_append_getElem (by rw [HXL2.out]; omega)]
              have e1 : xs[i]'(by rw [HXL2.out]; omega) = x := by
                have := HXI.out
                rw [List.getD_eq_getElem?_getD, List.getElem?_eq_getElem (by rw [HXL2.out]; omega)] at this
                simpa using this
              rw [e1]
              exact HO.out
          · have q3 : ((i : Int) < (n : Int)) = False := by simp; omega
            have hin : i = n := by omega
            subst hin
            have ho := hown.out
            rw [List.take_of_length_le (by omega)] at ho
            have HO := Lib.hid ho
            clear ho hown
            go_wp2_with fail
            refine bodyPost_ret (v := .tuple #[u14, .int .i64 0]) (by simp [results, Tryz.results82, go_sem]) rfl ?_
            exact ⟨u14, rfl, HO.out, hb⟩
end Go.Proofs.YtkocknfhdojmbaaGreat
