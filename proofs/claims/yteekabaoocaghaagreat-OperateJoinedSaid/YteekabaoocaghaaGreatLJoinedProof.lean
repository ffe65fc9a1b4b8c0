/-
  What is typed, where no line end is typed (lines.Typed). operate.Type, where no line end is typed and the cursor is in the text. operate.Type on a desk whose book changes (no line end is typed, the cursor is in the text). A desk that was just made is one whose book may change; its atoms and tags, as the statements read them. copyistlaw12.(*Both).typed: does the desk do anything? operate.Join's act, walked through. operate.Join on a desk whose book changes. copyistlaw12.OperateJoined, walked through. OperateJoined answers true at every input, and writes nothing that was there. Conditions: none. (The frame of the row's proof follows the kit's proof-skeleton.mjs; the walk is joined_any of the text Joined.)
-/
import Derived.Test.YteekabaoocaghaaGreatLJoin1
import Derived.Test.YteekabaoocaghaaGreatLRow6
import Derived.Test.YteekabaoocaghaaGreatLUndo
import Derived.Lib.SlBytesConst
import Derived.Test.YteekabaoocaghaaGreatRows
import Derived.WalkKit
import Derived.ProofKit
import Derived.OpenShut
import Derived.ShutString
import Derived.ChangeOld
import Derived.Below
set_option linter.unusedSimpArgs false
set_option linter.unusedVariables false
namespace Go.Proofs.YteekabaoocaghaaGreat
open Go.RowKit

def TypedR (xs : List Int) (w0 : World) (k : Nat) (q12 q14 q56 : Value) (wr : World) : Prop :=
  ∃ (i : Nat) (a : Int), q56 = .int .i64 (i : Int) ∧ q12 = .int .i64 a ∧ i ≤ xs.length ∧ xs.length - i ≤ k ∧ Hid (wr.ownsRow w0.heap.size 3 1 q14 i ((xs.take i).map (Value.int .i64))) ∧ Below w0.heap.size w0 wr
set_option maxRecDepth 100000 in
set_option maxHeartbeats 8000000 in
theorem typed_plain (D : Nat → Prop) (g : Nat) (enc : Int) (ds : List (Int × Int)) (at_ b : Int) (A : Option Addr) (n c : Nat) (xs : List Int) (w : World) (h : TextAt w D g enc ds) (hat : 0 ≤ at_ ∧ at_ ≤ (ds.length : Int)) (hb : b = 1 ∨ b = 2 ∨ b = 3) (hx : Ints w Any A n xs) (hn : n ≤ 1073741824) (hno : ∀ x ∈ xs, x ≠ 10) :
    Calls Tryz.prog 57 #[.pointer (some ⟨g, 0, none⟩), .int .i64 at_, .slice A n c, .int .i64 b] w fun e w' => ∃ v, e = .returned (.tuple #[v, .int .i64 0]) ∧ w'.ownsRow w.heap.size 3 1 v n (xs.map (Value.int .i64)) ∧ Below w.heap.size w w' := by
  have hlen := h.len
  have hxl := hx.len
  have hle := fun (w' : World) (hb : Below w.heap.size w w') => len_any D g enc ds w' (h.below hb)
  have hat2 := fun (w' : World) (hb : Below w.heap.size w w') => tatoms_any D g enc ds (at_ - 1) (at_ + 1) w' (h.below hb) (by omega) (by omega)
  have hsl : 0 < at_ → 0 < (seg (at_ - 1) (at_ + 1) (ds.map Prod.fst)).length := fun h0 => by
    have e : (((at_ + 1) - (at_ - 1)).toNat) = 2 := by omega
    unfold seg
    rw [List.length_take, List.length_drop, List.length_map]
    omega
  obtain ⟨S, hS⟩ : ∃ S, seg (at_ - 1) (at_ + 1) (ds.map Prod.fst) = S := ⟨_, rfl⟩
  have hS2 : S.length ≤ 1073741824 := by rw [← hS]; unfold seg; rw [List.length_take, List.length_drop, List.length_map]; omega
  rw [hS] at hat2 hsl
  obtain ⟨m, hm⟩ : ∃ m, ds.length = m := ⟨_, rfl⟩
  rw [hm] at hle hat hlen
  have q1 : (at_ < 0) = False := by simp; omega
  have q2 : ((m : Int) < at_) = False := by simp; omega
  have w1 : IntKind.i64.wrap (at_ - 1) = at_ - 1 := IntWalk.i64_in _ (by omega)
  have w2 : IntKind.i64.wrap (at_ + 1) = at_ + 1 := IntWalk.i64_in _ (by omega)
  obtain ⟨i0, hi0, hz0, hz1, hz2⟩ := info_parts int_info
  have HLE := Lib.hid hle
  have HAT := Lib.hid hat2
  have HSL := Lib.hid hsl
  have HNO := Lib.hid hno
  have HX := Lib.hid hx
  have HXL := Lib.hid hxl
  clear hle hat2 hsl hS hm h hno hx hxl
  rcases hb with rfl | rfl | rfl
  all_goals
    go_enter Tryz.func57, Tryz.ntmps57
    go_wp2_with fail
    refine (HLE.out _ ?_).mono ?_
    · first
        | exact balloc (Below.refl _ _)
        | exact balloc (balloc (Below.refl _ _))
    rintro e wa ⟨rfl, hba⟩
    have hb0 : Below w.heap.size w wa := by
      first
        | exact bseq (balloc (Below.refl _ _)) hba
        | exact bseq (balloc (balloc (Below.refl _ _))) hba
    clear hba
    go_wp2_with fail
    refine (HAT.out _ hb0).mono ?_
    rintro e wb ⟨v, rfl, hown, hbb⟩
    obtain ⟨A1, c1, rfl, hc1⟩ := own_slice hown
    have hI : Ints wb Any A1 S.length S := Reads.more (Reads.of_own hown) (fun _ _ _ => trivial) (by decide)
    have hbw := bseq hb0 hbb
    clear hown hbb hb0 HLE HAT
    obtain ⟨N, hN⟩ : ∃ N, S.length = N := ⟨_, rfl⟩
    have hsl := HSL.out
    rw [hN] at hI hc1 hS2 hsl ⊢
    have HI := Lib.hid hI
    clear hN HSL hI
    have HBW := Lib.hid hbw
    clear hbw
    go_upto_if 42 with fail
    go_cut [11, 12] (fun s11 s12 wx => ∃ (A2 : Option Addr) (N2 c2 : Nat) (l2 : List Int) (a : Int), s11 = .slice A2 N2 c2 ∧ s12 = .int .i64 a ∧ Hid (Ints wx Any A2 N2 l2) ∧ N2 ≤ 1073741824 ∧ wx = wb)
    case first =>
      by_cases h0 : 0 < at_
      · have hs0 := hsl h0
        obtain ⟨bA, oA, rfl, _, cA⟩ := ints_form HI.out hs0
        have c0 := cA 0 hs0
        rw [Nat.add_zero] at c0
        obtain ⟨a, ha⟩ : ∃ a, S.getD 0 0 = a := ⟨_, rfl⟩
        rw [ha] at c0
        have p1 : ((1 : Int) ≤ (N : Int)) = True := by simp; omega
        have p2 : 1 ≤ N := hs0
        have p3 : (0 : Int) < (N : Int) := by omega
        have p4 : ((N : Int) ≤ (c1 : Int)) = True := by simp; omega
        clear ha
        go_wp2_with fail
        all_goals
          go_meet
          refine ⟨_, N - 1, _, S.drop 1, a, rfl, rfl, Lib.hid ⟨by rw [List.length_map, List.length_drop, HI.out.len, Nat.mul_one], fun h1 => ?_⟩, by omega, rfl⟩
          first
            | (exfalso; omega)
            | (refine ⟨_, rfl, trivial, fun j u hu => ?_⟩
               rw [List.getElem?_map, List.getElem?_drop] at hu
               have hj : 1 + j < N := by
                 rcases Nat.lt_or_ge (1 + j) N with h2 | h2
                 · exact h2
                 · rw [List.getElem?_eq_none (by rw [HI.out.len]; omega)] at hu
                   cases hu
               have := cA (1 + j) hj
               rw [add_cell, show oA + 1 + j = oA + (1 + j) by omega, this]
               rw [List.getElem?_eq_getElem (by rw [HI.out.len]; omega)] at hu
               rw [List.getD_eq_getElem?_getD, List.getElem?_eq_getElem (by rw [HI.out.len]; omega)]
               simpa using hu)
      · go_wp2_with fail
        go_meet
        exact ⟨A1, N, c1, S, 0, rfl, rfl, HI, hS2, rfl⟩
    case rest =>
      obtain ⟨A2, N2, c2, l2, a, rfl, rfl, hI2, hN2, rfl⟩ := hcut
      clear HI hsl hS2 hc1
      go_upto_if 50 with fail
      go_cut [13] (fun s wx => ∃ z : Int, s = .int .i64 z ∧ wx = wc)
      case first =>
        by_cases h0 : 0 < N2
        · obtain ⟨bA, oA, rfl, _, cA⟩ := ints_form hI2.out h0
          have c0 := cA 0 h0
          rw [Nat.add_zero] at c0
          obtain ⟨z, hz⟩ : ∃ z, l2.getD 0 0 = z := ⟨_, rfl⟩
          rw [hz] at c0
          have p3 : (0 : Int) < (N2 : Int) := by omega
          clear hz
          go_wp2_with fail
          go_meet
          exact ⟨_, rfl, rfl⟩
        · have p3 : ((0 : Int) < (N2 : Int)) = False := by simp; omega
          go_wp2_with fail
          go_meet
          exact ⟨0, rfl, rfl⟩
      case rest =>
        obtain ⟨z, rfl, rfl⟩ := hcut
        clear hI2 hN2
        go_wp2_with fail
        go_loopg [12, 14, 56] n (fun k q12 q14 q56 wr => TypedR xs w k q12 q14 q56 wr)
        case atStart => exact ⟨0, a, rfl, rfl, Nat.zero_le _, by rw [HXL.out]; omega, Lib.hid (World.ownsRow_nil _ _ _ _), HBW.out⟩
        case round =>
          obtain ⟨i, a', rfl, rfl, hi, hk, hown, hb⟩ := hrel
          have hxl := HXL.out
          rw [hxl] at hi hk
          by_cases hgo : i < n
          · obtain ⟨ad, rfl, _, cx⟩ := Ints.at_ (Reads.below HX.out hb) hgo
            have hx10 : xs.getD i 0 ≠ 10 := HNO.out _ (by rw [List.getD_eq_getElem?_getD, List.getElem?_eq_getElem (by omega)]; exact List.getElem_mem _)
            obtain ⟨x, hx⟩ : ∃ x, xs.getD i 0 = x := ⟨_, rfl⟩
            rw [hx] at cx hx10
            have q3 : ((i : Int) < (n : Int)) = True := by simp; omega
            have q4 : (x != 10) = true := by rw [bne_iff_ne]; exact hx10
            have HXI := Lib.hid hx
            have HXL2 := Lib.hid hxl
            have hs0 := hb.size
            clear hx hx10 hxl
            go_wp2_with (at_builtin; refine wpList_append_own_at _ rfl (.tmp 67) (.tmp 69) 35 rfl w.heap.size 3 i0 (.int .i64 0) 1 8 Tryz.underlying35 hi0 hz0 hz1 hz2 rfl (by decide) u14 i _ rfl (hown.out.alloc _) ⟨wr.heap.size, 0, none⟩ 1 1 [.int .i64 x] rfl rfl (cell_one_new _ _ _) (by simp [Value.oneCell']) (by unfold maxLen; omega) (by omega) (by simp; omega) ?_)
            intro v1 w4 hown1 hgr _ _
            have hb1 : Below w.heap.size w w4 := below_grown2 (balloc hb) hgr (fun k hk => own_ge hown.out hk)
            obtain ⟨A4, c4, rfl, hc4⟩ := own_slice hown1
            have hI0 := Reads.of_own hown1
            have e0 : (xs.map (Value.int .i64)).take i ++ [.int .i64 x] = (xs.take i ++ [x]).map (Value.int .i64) := by simp [List.map_take]
            rw [e0] at hI0 hown1
            have hI4 := Ints.at_ (show Ints w4 _ A4 (i + 1) (xs.take i ++ [x]) from hI0) (k := i) (by omega)
            obtain ⟨ad4, rfl, _, cx4⟩ := hI4
            have hg4 : ((xs.take i) ++ [x]).getD i 0 = x := by
              rw [List.getD_eq_getElem?_getD, List.getElem?_append_right (by rw [List.length_take]; omega), List.length_take, Nat.min_eq_left (by rw [HXL2.out]; omega), Nat.sub_self]
              rfl
            rw [hg4] at cx4
            have wi : IntKind.i64.wrap (((i + 1 : Nat) : Int) - 1) = (i : Int) := by rw [IntWalk.i64_in _ (by omega)]; omega
            have p1 : (i : Int) < ((i + 1 : Nat) : Int) := by omega
            have p2 : (0 : Int) ≤ (i : Int) := by omega
            have HO := Lib.hid hown1
            clear hown1 hgr cx hg4 hown hi0 hz0 hz1 hz2 q4 hI0 e0
            go_wp2_with fail
            go_roundg (n - (i + 1))
            case measure => omega
            case rel =>
              refine ⟨i + 1, x, by simp, rfl, by rw [HXL2.out]; omega, by rw [HXL2.out]; omega, Lib.hid ?_, hb1⟩
              rw [List.take_succ_eq_append_getElem (by rw [HXL2.out]; omega)]
              have e1 : xs[i]'(by rw [HXL2.out]; omega) = x := by
                have := HXI.out
                rw [List.getD_eq_getElem?_getD, List.getElem?_eq_getElem (by rw [HXL2.out]; omega)] at this
                simpa using this
              rw [e1]
              exact HO.out
          · have q3 : ((i : Int) < (n : Int)) = False := by simp; omega
            have hin : i = n := by omega
            subst hin
            have ho := hown.out
            rw [List.take_of_length_le (by omega)] at ho
            have HO := Lib.hid ho
            clear ho hown
            go_wp2_with fail
            refine bodyPost_ret (v := .tuple #[u14, .int .i64 0]) (by simp [results, Tryz.results57, go_sem]) rfl ?_
            exact ⟨u14, rfl, HO.out, hb⟩
end Go.Proofs.YteekabaoocaghaaGreat
namespace Go.Proofs.YteekabaoocaghaaGreat
open Go.RowKit

def typeE (at_ : Int) (xs : List Int) (A : Option Addr) (c : Nat) : Ed := ⟨at_, at_, A, xs.length, c, xs⟩
theorem own_ints {w : World} {base n c : Nat} {A : Option Addr} {xs : List Int} (h : w.ownsRow base 3 1 (.slice A n c) n (xs.map (Value.int .i64))) : Ints w (fun b => base ≤ b ∧ ∃ cs, Blk w b 3 cs) A n xs := by
  refine ⟨h.1, fun hk => ?_⟩
  rcases h.2 with ⟨e0, h0⟩ | ⟨r, c', cur, e1, hb, hr, h1, h2, h3, h4⟩
  · omega
  · have hA : A = some ⟨r, 0, none⟩ := by injection e1
    obtain ⟨ad, e2, _, hc⟩ := (Reads.of_own h).2 hk
    rw [hA] at e2
    injection e2 with e2
    refine ⟨ad, by rw [hA, e2], ⟨?_, cur, ?_⟩, hc⟩
    · rw [← e2]
      exact hb
    · rw [← e2]
      exact hr
def Type1Post (B gd gb g : Nat) (enc lim : Int) (n : Nat) (st : BkS) (o : OpS) (dc : Array Value) (at_ : Int) (xs : List Int) (w : World) (e : Ending) (w' : World) : Prop :=
  ∃ A c, e = .returned (.int .i64 (at_ + xs.length)) ∧
    DeskIs w' B gd gb g enc lim (n + 131072) { st with ats := edA [typeE at_ xs A c] st.ats, now := some { o with moves := o.moves ++ [[mvOf (typeE at_ xs A c)]], changed := true } } dc ∧ BkFr B w w'
def GotV (W : World) (vt : Value → Prop) (n : Nat) (xs : List Int) (v : Value) (w' : World) : Prop := ∃ A c, v = .tuple #[.slice A n c, .int .i64 0] ∧ n ≤ c ∧ w'.ownsRow W.heap.size 3 1 (.slice A n c) n (xs.map (Value.int .i64)) ∧ Below W.heap.size W w'
set_option maxRecDepth 100000 in
set_option maxHeartbeats 8000000 in
theorem type1_any (B gd gb g n b0 b1 b2 : Nat) (enc lim at_ b : Int) (st : BkS) (o : OpS) (dc : Array Value) (A : Option Addr) (m c : Nat) (xs : List Int) (w : World) (h : DeskIs w B gd gb g enc lim n st dc) (hn : st.now = some o) (hom : o.moves.length < 1048576)
    (h9 : dc[9]? = some (.int .i64 b)) (hb : b = 1 ∨ b = 2 ∨ b = 3)
    (k0 : Blk w b0 25 #[.pointer (some ⟨gd, 0, none⟩)]) (k1 : Blk w b1 3 #[.int .i64 at_]) (k2 : Blk w b2 35 #[.slice A m c])
    (hx : Ints w Any A m xs) (hm : 0 < m ∧ m ≤ 1048576) (hno : ∀ x ∈ xs, x ≠ 10) (hat : 0 ≤ at_ ∧ at_ ≤ (st.ats.length : Int)) (hz : ∀ A' c', refF enc lim (sizedA enc st.ats) [typeE at_ xs A' c'] = 0) (hnn : n + 131072 ≤ 1073741824) :
    Calls Tryz.prog 56 #[.pointer (some ⟨b0, 0, none⟩), .pointer (some ⟨b1, 0, none⟩), .pointer (some ⟨b2, 0, none⟩)] w (Type1Post B gd gb g enc lim n st o dc at_ xs w) := by
  have hxl := hx.len
  have hlen := h.len
  have hBX : ∀ w', Below w.heap.size w w' → w'.cell? ⟨b0, 0, none⟩ = some (.pointer (some ⟨gd, 0, none⟩)) ∧ w'.cell? ⟨b1, 0, none⟩ = some (.int .i64 at_) ∧ w'.cell? ⟨b2, 0, none⟩ = some (.slice A m c) := fun w' hb =>
    ⟨(k0.below hb).cell 0, (k1.below hb).cell 0, (k2.below hb).cell 0⟩
  have hT := fun (w' : World) (hb : Below w.heap.size w w') => text_desk (h.below hb)
  have hN := fun (w' : World) (hb' : Below w.heap.size w w') => native_any gd dc b w' (h.below hb').desk h9 (by omega)
  have hTy := fun (w' : World) (hb' : Below w.heap.size w w') => typed_plain Any g enc (sizedA enc st.ats) at_ b A m c xs w' (h.below hb').at_ (by rw [sizedA_len]; exact hat) hb (Reads.below hx hb') (by omega) hno
  have HBX := Lib.hid hBX
  have HT := Lib.hid hT
  have HN := Lib.hid hN
  have HTY := Lib.hid hTy
  have HH := Lib.hid h
  have HNW := Lib.hid hn
  have HZ := Lib.hid hz
  have HXL := Lib.hid hxl
  have HK1 := Lib.hid k1
  have wa : IntKind.i64.wrap (at_ + (m : Int)) = at_ + (m : Int) := IntWalk.i64_in _ (by omega)
  have q0 : ((0 : Int) < (m : Int)) = True := by simp; omega
  clear hBX hT hN hTy h hn hz hx k0 k1 k2 hno hxl h9
  go_enter Tryz.func56, Tryz.ntmps56
  go_wp2_with fail
  refine wp_region_lin (fun w' => Below w.heap.size w w') (fun w' => Below w.heap.size w w') (fun k => k == 1 || k == 5 || k == 6) (fun _ => false) (fun _ => false) (by kernel_rfl) (by kernel_rfl) (Below.drew (Below.refl _ _)) (fun _ h => h) ?_
  repeat (first
    | (refine wpL_read (v := ?_) (by rfl) (by rfl) (fun w6 hSw => ?_) ?_; rotate_left; (· (obtain ⟨y0, y1, y2⟩ := HBX.out _ hSw; go_simp; first | done | with_reducible rfl)); (try simp only [Act.put, List.setIfInBounds_toArray, List.set_cons_zero, List.set_cons_succ]))
    | (refine wpL_free (v := ?_) (by rfl) (fun w6 => ?_) ?_; rotate_left; (· (go_simp; first | done | with_reducible rfl)); (try simp only [Act.put, List.setIfInBounds_toArray, List.set_cons_zero, List.set_cons_succ]))
    | (refine wpL_not (by rfl) ?_; (try simp only [Act.put, List.setIfInBounds_toArray, List.set_cons_zero, List.set_cons_succ])))
  refine wpL_call1 (f := ?_) (args := ?_) (v := .pointer (some ⟨g, 0, none⟩)) (by rfl) (by rfl) (fun w6 hSw => ?_) (fun _ h => h) (fun w6 hSw => ?_) ?_
  rotate_left 2
  · (skip; go_simp; first | done | (constructor <;> with_reducible rfl) | with_reducible rfl)
  · (refine (HT.out _ hSw).mono ?_; rintro e w5 ⟨rfl, rfl⟩; exact ⟨rfl, hSw⟩)
  (try simp only [Act.put, List.setIfInBounds_toArray, List.set_cons_zero, List.set_cons_succ])
  repeat (first
    | (refine wpL_read (v := ?_) (by rfl) (by rfl) (fun w6 hSw => ?_) ?_; rotate_left; (· (obtain ⟨y0, y1, y2⟩ := HBX.out _ hSw; go_simp; first | done | with_reducible rfl)); (try simp only [Act.put, List.setIfInBounds_toArray, List.set_cons_zero, List.set_cons_succ]))
    | (refine wpL_free (v := ?_) (by rfl) (fun w6 => ?_) ?_; rotate_left; (· (go_simp; first | done | with_reducible rfl)); (try simp only [Act.put, List.setIfInBounds_toArray, List.set_cons_zero, List.set_cons_succ]))
    | (refine wpL_not (by rfl) ?_; (try simp only [Act.put, List.setIfInBounds_toArray, List.set_cons_zero, List.set_cons_succ])))
  refine wpL_call1 (f := ?_) (args := ?_) (v := .int .i64 b) (by rfl) (by rfl) (fun w6 hSw => ?_) (fun _ h => h) (fun w6 hSw => ?_) ?_
  rotate_left 2
  · (skip; go_simp; first | done | (constructor <;> with_reducible rfl) | with_reducible rfl)
  · (refine (HN.out _ hSw).mono ?_; rintro e w5 ⟨rfl, rfl⟩; exact ⟨rfl, hSw⟩)
  (try simp only [Act.put, List.setIfInBounds_toArray, List.set_cons_zero, List.set_cons_succ])
  repeat (first
    | (refine wpL_read (v := ?_) (by rfl) (by rfl) (fun w6 hSw => ?_) ?_; rotate_left; (· (obtain ⟨y0, y1, y2⟩ := HBX.out _ hSw; go_simp; first | done | with_reducible rfl)); (try simp only [Act.put, List.setIfInBounds_toArray, List.set_cons_zero, List.set_cons_succ]))
    | (refine wpL_free (v := ?_) (by rfl) (fun w6 => ?_) ?_; rotate_left; (· (go_simp; first | done | with_reducible rfl)); (try simp only [Act.put, List.setIfInBounds_toArray, List.set_cons_zero, List.set_cons_succ]))
    | (refine wpL_not (by rfl) ?_; (try simp only [Act.put, List.setIfInBounds_toArray, List.set_cons_zero, List.set_cons_succ])))
  refine wpL_call (f := ?_) (args := ?_) (GotV w (fun _ => True) m xs) (by rfl) (by rfl) (fun w6 hSw => ?_) (fun w6 hSw => ?_) (.inr (fun v6 w6 hT6 => ?_)) (fun v6 hv6 => ?_)
  rotate_left 2
  · (skip; go_simp; first | done | (constructor <;> with_reducible rfl) | with_reducible rfl)
  · (refine (HTY.out _ hSw).mono ?_; rintro e w5 ⟨v5, rfl, ho5, hb5⟩; obtain ⟨A5, c5, rfl, hc5⟩ := own_slice ho5; exact ⟨_, rfl, A5, c5, rfl, hc5, ownsRow_le ho5 hSw.size, bseq hSw hb5⟩)
  · (obtain ⟨_, _, _, _, _, hb5⟩ := hT6; exact hb5)
  obtain ⟨w7, A7, c7, rfl, hc7, -, -⟩ := hv6
  (try simp only [Act.put, List.setIfInBounds_toArray, List.set_cons_zero, List.set_cons_succ])
  repeat (first
    | (refine wpL_read (v := ?_) (by rfl) (by rfl) (fun w6 hSw => ?_) ?_; rotate_left; (· (obtain ⟨y0, y1, y2⟩ := HBX.out _ hSw; go_simp; first | done | with_reducible rfl)); (try simp only [Act.put, List.setIfInBounds_toArray, List.set_cons_zero, List.set_cons_succ]))
    | (refine wpL_free (v := ?_) (by rfl) (fun w6 => ?_) ?_; rotate_left; (· (go_simp; first | done | with_reducible rfl)); (try simp only [Act.put, List.setIfInBounds_toArray, List.set_cons_zero, List.set_cons_succ]))
    | (refine wpL_not (by rfl) ?_; (try simp only [Act.put, List.setIfInBounds_toArray, List.set_cons_zero, List.set_cons_succ])))
  refine wpL_nil ?_
  rintro w2 ⟨A2, c2, e2, hc2, ho2, hb2⟩
  simp at e2
  obtain ⟨rfl, rfl⟩ := e2
  go_wp2_with fail
  refine (must_ok _).mono ?_
  rintro e w3 ⟨rfl, rfl⟩
  obtain ⟨y0, y1, y2⟩ := HBX.out _ hb2
  have hb3 : Below w.heap.size w (w2.alloc (.cells #[.int .i64 at_, .int .i64 at_, .slice A7 m c7] 79)) := balloc hb2
  have hE3 : Blk (w2.alloc (.cells #[.int .i64 at_, .int .i64 at_, .slice A7 m c7] 79)) w2.heap.size 79 #[.int .i64 at_, .int .i64 at_, .slice A7 m c7] := Blk.new w2 _ _
  have hI3 := own_ints (own_bel ho2 (balloc (o := .cells #[.int .i64 at_, .int .i64 at_, .slice A7 m c7] 79) (Below.refl _ _)))
  go_wp2_with fail
  obtain ⟨w3, hw3⟩ : ∃ x, w2.alloc (.cells #[.int .i64 at_, .int .i64 at_, .slice A7 m c7] 79) = x := ⟨_, rfl⟩
  rw [hw3] at hb3 hE3 hI3 ⊢
  have hEd : EdsAt w3 (fun b => (∃ cs, Blk w3 b 3 cs) ∨ ∃ cs, Blk w3 b 79 cs) (some ⟨w2.heap.size, 0, none⟩) 1 [typeE at_ xs A7 c7] := by
    refine ⟨⟨rfl, fun _ => ⟨_, rfl, .inr ⟨_, hE3⟩, fun j u hu => ?_⟩⟩, fun e he => ?_⟩
    · rw [add_cell, hE3.cell, Nat.zero_add]
      simp only [typeE, Ed.cells, HXL.out, List.flatMap_cons, List.flatMap_nil, List.append_nil] at hu
      rw [← hu]
      simp
    · simp at he
      subst he
      have h1 := Reads.more hI3 (D' := fun b => (∃ cs, Blk w3 b 3 cs) ∨ ∃ cs, Blk w3 b 79 cs) (fun b hb _ => .inl hb.2) (by decide)
      simp only [typeE, HXL.out]
      exact h1
  have hch : (o.changed || [typeE at_ xs A7 c7].any chg) = true := by
    have : chg (typeE at_ xs A7 c7) = true := by
      unfold chg typeE
      simp [HXL.out]
      omega
    simp [this]
  have hDC := dchange_desk (c := 1) (HH.out.below hb3) HNW.out hEd (fun b hb _ => by
    rcases hb with ⟨cs, hb⟩ | ⟨cs, hb⟩
    · exact ⟨_, cs, hb, by decide⟩
    · exact ⟨_, cs, hb, by decide⟩) (by simp [putN, typeE, HXL.out]; omega) hnn hom (HZ.out A7 c7)
  rw [hch] at hDC
  have HDC := Lib.hid hDC
  clear hDC hch hEd hI3 hE3 hw3 y0 y1 y2 ho2
  refine (HDC.out).mono ?_
  rintro e w4 ⟨rfl, hd4, hb4⟩
  have y1 := (hb4.blk (HK1.out.below hb3) (by decide)).cell 0
  simp at y1
  have HD4 := Lib.hid hd4
  clear hd4
  go_wp2_with fail
  go_ret
  exact ⟨A7, c7, ret_i (by rw [HXL.out]), HD4.out, (BkFr.below hb3).trans hb4⟩
end Go.Proofs.YteekabaoocaghaaGreat
namespace Go.Proofs.YteekabaoocaghaaGreat
open Go.RowKit

def TypeAct (st : BkS) (n : Nat) (at_ : Int) (xs : List Int) (c x : Int) (ats' : List (Int × Int)) (o' : OpS) (n' : Nat) : Prop :=
  ∃ (A : Option Addr) (k : Nat), x = at_ + xs.length ∧ ats' = edA [typeE at_ xs A k] st.ats ∧ o' = ⟨st.ats, c, [[mvOf (typeE at_ xs A k)]], st.state, true⟩ ∧ n' = n + 131072
/-- a book behind typing -/
def typeS (st : BkS) (at_ : Int) (xs : List Int) (A : Option Addr) (k : Nat) : BkS :=
  { st with ats := edA [typeE at_ xs A k] st.ats, now := none, undo := st.undo ++ [⟨st.ats, edA [typeE at_ xs A k] st.ats, at_, at_ + xs.length, [[mvOf (typeE at_ xs A k)]], st.state, st.last + 1⟩], redo := [], state := st.last + 1, last := st.last + 1 }
def TypePost (B gd gb g : Nat) (enc lim : Int) (n : Nat) (st : BkS) (dc : Array Value) (at_ : Int) (xs : List Int) (w : World) (e : Ending) (w' : World) : Prop :=
  e = .returned (.int .i64 0) ∧ ∃ (A : Option Addr) (k : Nat), DeskIs w' B gd gb g enc lim (n + 131072) (typeS st at_ xs A k) (dc.setIfInBounds 2 (.int .i64 (at_ + xs.length))) ∧ DFr B (· = gd) w w'
theorem edA_type {at_ : Int} {xs : List Int} {A : Option Addr} {k : Nat} {ats : List (Int × Int)} : edA [typeE at_ xs A k] ats = ats.take at_.toNat ++ xs.map (fun x => (x, -1)) ++ ats.drop at_.toNat := rfl
theorem type_work (B gd gb g n b0 b1 b2 : Nat) (enc lim at_ b : Int) (st : BkS) (dc : Array Value) (A : Option Addr) (m c : Nat) (xs : List Int) (w : World) (h : DeskIs w B gd gb g enc lim n st dc) (hn : st.now = none) (hdz : dc.size = 10)
    (h9 : dc[9]? = some (.int .i64 b)) (hb : b = 1 ∨ b = 2 ∨ b = 3)
    (k0 : Blk w b0 25 #[.pointer (some ⟨gd, 0, none⟩)]) (k1 : Blk w b1 3 #[.int .i64 at_]) (k2 : Blk w b2 35 #[.slice A m c])
    (hx : Ints w (fun b => b < w.heap.size ∧ ∃ cs, Blk w b 3 cs) A m xs) (hm : 0 < m ∧ m ≤ 1048576) (hno : ∀ x ∈ xs, x ≠ 10) (hat : 0 ≤ at_ ∧ at_ ≤ (st.ats.length : Int)) (hz : ∀ A' c', refF enc lim (sizedA enc st.ats) [typeE at_ xs A' c'] = 0) (hnn : n + 131072 ≤ 1073741824)
    (hud : (st.undo.length : Int) < st.depth) (hla : st.last < 1073741824) :
    Calls Tryz.prog 27 #[.pointer (some ⟨gd, 0, none⟩), .int .i64 at_, .func (.func 56) #[] #[.pointer (some ⟨b0, 0, none⟩), .pointer (some ⟨b1, 0, none⟩), .pointer (some ⟨b2, 0, none⟩)]] w (TypePost B gd gb g enc lim n st dc at_ xs w) := by
  have hxl := hx.len
  refine (work_ok B gd gb g n enc lim at_ st dc _ _ (fun _ => False) (TypeAct st n at_ xs at_) w h hn hat hdz Tryz.call56 (fun _ hx => hx.elim) (fun w1 hd1 hf1 => ?_) (fun at' ats' o' n' ha => ?_)).mono ?_
  · refine (type1_any B gd gb g n b0 b1 b2 enc lim at_ b { st with now := some ⟨st.ats, at_, [], st.state, false⟩ } ⟨st.ats, at_, [], st.state, false⟩ dc A m c xs w1 hd1 rfl (by simp) h9 hb (hf1.blk k0 (by decide) (fun hx => hx)) (hf1.blk k1 (by decide) (fun hx => hx)) (hf1.blk k2 (by decide) (fun hx => hx))
      (Reads.more (Reads.fr hx hf1 (fun b hb _ hs => ?_)) (fun _ _ _ => trivial) (by decide)) hm hno hat hz hnn).mono ?_
    · rcases hs with ⟨_, T, cs, hT, hB⟩ | hs
      · obtain ⟨_, cs', hc'⟩ := hb
        have : T = 3 := by
          unfold Blk at hT hc'
          rw [hT] at hc'
          injection hc' with hc'
          injection hc' with _ hc'
        subst this
        exact absurd hB (by decide)
      · exact hs
    · rintro e w2 ⟨A', c', rfl, hd2, hf2⟩
      exact ⟨_, _, _, _, ⟨A', c', rfl, rfl, rfl, rfl⟩, rfl, hd2, DFr.of_bk hf2⟩
  · obtain ⟨A', k, rfl, rfl, rfl, rfl⟩ := ha
    refine ⟨⟨by omega, ?_⟩, fun _ => ⟨hud, hla⟩⟩
    rw [edA_type]
    simp
    omega
  · rintro e w2 ⟨rfl, at', ats', o', n', ⟨A', k, rfl, rfl, rfl, rfl⟩, hd, hf⟩
    exact ⟨rfl, A', k, hd, hf.wide (Nat.le_refl _) (fun b _ hb => hb.resolve_left (fun h => h))⟩
theorem keep2_set {w : World} {p q a : Addr} {u v : Value} (x : Value) (hp : p.block ≠ a.block) (hq : q.block ≠ a.block) (h : w.cell? p = some u ∧ w.cell? q = some v) : (w.setCell a x).cell? p = some u ∧ (w.setCell a x).cell? q = some v :=
  ⟨(World.cell?_of_block (w := w) (Below.heap_setCell w a x p.block hp)).trans h.1, (World.cell?_of_block (w := w) (Below.heap_setCell w a x q.block hq)).trans h.2⟩
set_option maxRecDepth 100000 in
set_option maxHeartbeats 8000000 in
theorem type_any (B gd gb g n : Nat) (enc lim at_ b : Int) (st : BkS) (dc : Array Value) (A : Option Addr) (m c : Nat) (xs : List Int) (w : World) (h : DeskIs w B gd gb g enc lim n st dc) (hn : st.now = none) (hdz : dc.size = 10)
    (h2 : dc[2]? = some (.int .i64 at_)) (h9 : dc[9]? = some (.int .i64 b)) (hb : b = 1 ∨ b = 2 ∨ b = 3)
    (hx : Ints w (fun b => b < w.heap.size ∧ ∃ cs, Blk w b 3 cs) A m xs) (hm : 0 < m ∧ m ≤ 1048576) (hno : ∀ x ∈ xs, x ≠ 10) (hat : 0 ≤ at_ ∧ at_ ≤ (st.ats.length : Int)) (hz : ∀ A' c', refF enc lim (sizedA enc st.ats) [typeE at_ xs A' c'] = 0) (hnn : n + 131072 ≤ 1073741824)
    (hud : (st.undo.length : Int) < st.depth) (hla : st.last < 1073741824) :
    Calls Tryz.prog 20 #[.pointer (some ⟨gd, 0, none⟩), .slice A m c] w (TypePost B gd gb g enc lim n st dc at_ xs w) := by
  have hmf : ∀ (fn : Fn) (first cap : Array Value) (w : World), (Instr.makeFunc fn first cap).run Tryz.prog w = .ok (.func fn first cap) w := fun _ _ _ _ => rfl
  have hlen := h.len
  have hw2 : Below w.heap.size w ((w.alloc (.cells #[.pointer (some ⟨gd, 0, none⟩)] 25)).alloc (.cells #[.slice A m c] 35)) := balloc (balloc (Below.refl _ _))
  have b0 : Blk ((w.alloc (.cells #[.pointer (some ⟨gd, 0, none⟩)] 25)).alloc (.cells #[.slice A m c] 35)) w.heap.size 25 #[.pointer (some ⟨gd, 0, none⟩)] := (Blk.new w _ _).alloc _
  have b2 : Blk ((w.alloc (.cells #[.pointer (some ⟨gd, 0, none⟩)] 25)).alloc (.cells #[.slice A m c] 35)) (w.heap.size + 1) 35 #[.slice A m c] := Blk.new' (by simp)
  have HH := Lib.hid h
  have HT := Lib.hid (fun (w' : World) (hb : Below w.heap.size w w') => text_desk (h.below hb))
  have hle := fun (w' : World) (hb : Below w.heap.size w w') => len_any Any g enc (sizedA enc st.ats) w' (h.below hb).at_
  rw [sizedA_len] at hle
  have HLE := Lib.hid hle
  obtain ⟨N, hN⟩ : ∃ N, st.ats.length = N := ⟨_, rfl⟩
  rw [hN] at HLE hat hlen
  have HNN := Lib.hid hN
  have HX := Lib.hid hx
  clear h hle hN hx
  go_enter Tryz.func20, Tryz.ntmps20
  go_upto_region 1 with fail
  obtain ⟨w2, hw20⟩ : ∃ x', ((w.alloc (.cells #[.pointer (some ⟨gd, 0, none⟩)] 25)).alloc (.cells #[.slice A m c] 35)) = x' := ⟨_, rfl⟩
  rw [hw20] at hw2 b0 b2 ⊢
  clear hw20
  have s0 : w2.cell? ⟨w.heap.size, 0, none⟩ = some (.pointer (some ⟨gd, 0, none⟩)) ∧ w2.cell? ⟨gd, 2, none⟩ = some (.int .i64 at_) := ⟨b0.cell 0, ((HH.out.below hw2).desk.cell 2).trans h2⟩
  go_cut [5] (fun s wx => ∃ b5, s = .pointer (some ⟨b5, 0, none⟩) ∧ Hid (Blk wx b5 3 #[.int .i64 at_]) ∧ Below w2.heap.size w2 wx)
  case first =>
    have p1 : (at_ < 0) = False := by simp; omega
    have p2 : ((N : Int) < at_) = False := by simp; omega
    have p3 : max at_ 0 = at_ := by omega
    have p4 : min at_ (N : Int) = at_ := by omega
    have s1 := keep2 (Below.drew (Below.refl _ _)) s0
    have n1 : w.heap.size ≠ w2.heap.size := by have := b0.lt; omega
    have n2 : gd ≠ w2.heap.size := by have := HH.out.desk.lt; have := hw2.size; omega
    have n3 : ∀ w5 : World, w2.heap.size ≤ w5.heap.size → w.heap.size ≠ w5.heap.size ∧ gd ≠ w5.heap.size := fun w5 h5 => by have := b0.lt; have := HH.out.desk.lt; have := hw2.size; omega
    go_region_held3 (fun w' => w'.cell? ⟨w.heap.size, 0, none⟩ = some (.pointer (some ⟨gd, 0, none⟩)) ∧ w'.cell? ⟨gd, 2, none⟩ = some (.int .i64 at_)) (first | (with_reducible assumption) | (with_reducible exact keep2 (Below.drew (balloc (Below.refl _ _))) s0) | (with_reducible exact keep2 (balloc (Below.refl _ _)) s1) | (with_reducible exact keep2 (balloc (Below.refl _ _)) s3) | (with_reducible exact keep2_set _ n1 n2 s3) | (with_reducible exact keep2_set _ (n3 _ z5).1 (n3 _ z5).2 (keep2 (balloc (Below.refl _ _)) s3))) (first | (go_at_call 26; (with_reducible refine (HT.out _ (bseq hw2 (Below.drew (Below.refl _ _)))).mono ?_); rintro e w5 ⟨rfl, rfl⟩) | (go_at_call 26; (with_reducible refine (HT.out _ (bseq hw2 (Below.drew (balloc (Below.refl _ _))))).mono ?_); rintro e w5 ⟨rfl, rfl⟩) | (go_at_call 23; (with_reducible refine (HLE.out _ (bseq hw2 (Below.drew (Below.refl _ _)))).mono ?_); rintro e w5 ⟨rfl, hb5⟩; have s3 := keep2 hb5 s1; have z5 : w2.heap.size ≤ w5.heap.size := hb5.size) | (go_at_call 23; (with_reducible refine (HLE.out _ (bseq hw2 (Below.drew (balloc (Below.refl _ _))))).mono ?_); rintro e w5 ⟨rfl, hb5⟩; have s3 := keep2 (bseq (Below.drew (balloc (Below.refl _ _))) hb5) s0; have hbz := ((Blk.new w2 3 #[.int .i64 0]).drew).below hb5; have z0 : w5.cell? ⟨w2.heap.size, 0, none⟩ = some (.int .i64 0) := hbz.cell 0; have zf := hbz.frozen 0))
    all_goals
      go_wp2_with fail
      go_meet
      first
        | exact ⟨_, rfl, Lib.hid (Blk.new _ _ _), balloc (bdrew hb5)⟩
        | exact ⟨_, rfl, Lib.hid ((hbz.set_ 0 _).eq_ (by simp)), (bseq (Below.drew (balloc (Below.refl _ _))) hb5).setCell (Nat.le_refl _) _⟩
  case rest =>
    obtain ⟨b5, rfl, hB5, hbc⟩ := hcut
    have hwc := bseq hw2 hbc
    have k0 := b0.below hbc
    have k2 := b2.below hbc
    have y0 := k0.cell 0
    have y5 := hB5.out.cell 0
    simp at y0 y5
    have hxc : Ints wc (fun b => b < wc.heap.size ∧ ∃ cs, Blk wc b 3 cs) A m xs := Reads.more (Reads.below HX.out hwc) (fun b hb hlt => by
      obtain ⟨_, cs, hb⟩ := hb
      exact ⟨hlt, cs, hb.below hwc⟩) (by decide)
    rw [← HNN.out] at hat
    have HWK := Lib.hid (type_work B gd gb g n w.heap.size b5 (w.heap.size + 1) enc lim at_ b st dc A m c xs wc (HH.out.below hwc) hn hdz h9 hb k0 hB5.out k2 hxc hm hno hat hz hnn hud hla)
    clear hxc k0 k2 HX hz h2 h9 hdz hn s0 b0 b2
    go_wp2_with fail
    refine (HWK.out).mono ?_
    rintro e w9 ⟨rfl, A', k, hd, hf⟩
    have HD := Lib.hid hd
    clear hd
    go_wp2_with fail
    go_ret
    exact ⟨rfl, A', k, HD.out, (DFr.of_below hwc).trans hf⟩
end Go.Proofs.YteekabaoocaghaaGreat
namespace Go.Proofs.YteekabaoocaghaaGreat
open Go.RowKit

def newS (enc depth : Int) (l : List Int) : BkS := { ats := tagF 0 0 (dec enc l), undo := [], redo := [], now := none, state := 0, saved := 0, last := 0, depth := depth }
def deskC (gb gk : Nat) (native : Int) : Array Value := #[.pointer (some ⟨gb, 0, none⟩), .pointer (some ⟨gk, 0, none⟩), .int .i64 0, .slice none 0 0, .slice none 0 0, .slice none 0 0, .int .i64 0, .bool false, .bool false, .int .i64 native]
theorem newS_sized {enc depth : Int} {l : List Int} (he : enc = 1 ∨ enc = 2 ∨ enc = 3 ∨ enc = 4) (hB : Byt l) : sizedA enc (newS enc depth l).ats = dec enc l := by
  have h1 := dec_sized enc he l.length l (Nat.le_refl _) hB
  unfold sizedA newS
  dsimp only
  rw [tagF_fst]
  exact h1.symm
theorem newS_sz {enc : Int} {l : List Int} : szS (dec enc l) = (l.length : Int) := sum_dec enc l.length l (Nat.le_refl _)
theorem NewDesk.is {B : Nat} {enc lim native depth : Int} {l : List Int} {w : World} {gd gb gt m gk mk : Nat} (h : NewDesk B enc lim native depth l w gd gb gt m gk mk) (hl : l.length ≤ 65536) (hlim : lim ≤ 65536) (hd : 1 ≤ depth ∧ depth ≤ 200) :
    DeskIs w B gd gb gt enc lim 0 (newS enc depth l) (deskC gb gk (natF ((dec enc l).map Prod.fst) native)) := by
  have hsz : ((dec enc l).map Prod.snd).sum ≤ 65536 := by rw [sum_dec enc l.length l (Nat.le_refl _)]; omega
  obtain ⟨t, a, hT, hds, hats⟩ := h.text.textM hsz
  have hge := h.ge
  have hlt := h.book.1.lt
  have hT' : TextM w B gt enc lim 0 (.slice none 0 0) t a [] := ⟨hT.blk, World.ownsRow_nil _ _ _ _, hT.enc4, by omega, hT.tree⟩
  refine ⟨h.desk, rfl, hge.1, w.heap.size, .slice none 0 0, t, a, [], m, .slice none 0 0, .slice none 0 0, none, 0, Nat.le_refl _, ?_⟩
  refine ⟨h.book.1, hT', hats, by rw [hds]; exact hsz, hlim, h.book.2, ?_, ?_, fun b hb => (by cases hb), rfl, Nat.le_refl _, ⟨Int.le_refl 0, (show (0 : Int) ≤ 1073741824 by decide), hd.1, hd.2⟩, ⟨hge.2.1, hge.2.2.1, by omega, fun p hp => (by cases hp)⟩⟩
  · exact ⟨[], World.ownsRow_nil _ _ _ _, rfl, fun i p G hi => by simp at hi, by simp [newS]⟩
  · exact ⟨[], World.ownsRow_nil _ _ _ _, rfl, fun i p G hi => by simp at hi, by simp [newS]⟩
theorem TextTag.old {w : World} {g : Nat} {enc : Int} {ats : List (Int × Int)} (h : TextTag w Any g enc ats) : TextTag w (fun b => b < w.heap.size) g enc ats := by
  obtain ⟨lim, t, a, add, h, e⟩ := h
  exact ⟨lim, t, a, add, ⟨h.blk, h.enc4, h.node, h.len, h.tot, h.ok, fun p hp => Reads.more (h.bts p hp) (fun b _ hlt => hlt) (by decide)⟩, e⟩
theorem TextTag.below {w w' : World} {D : Nat → Prop} {g : Nat} {enc : Int} {ats : List (Int × Int)} (h : TextTag w D g enc ats) (hb : Below w.heap.size w w') : TextTag w' D g enc ats := by
  obtain ⟨lim, t, a, add, h, e⟩ := h
  exact ⟨lim, t, a, add, h.below hb, e⟩
set_option maxRecDepth 100000 in
set_option maxHeartbeats 1000000 in
theorem ttagsT_any (g : Nat) (enc : Int) (ats : List (Int × Int)) (f tt : Int) (w : World) (h : TextTag w Any g enc ats) (f0 : -2147483648 ≤ f) (t0 : tt ≤ 2147483648) :
    Calls Tryz.prog 55 #[.pointer (some ⟨g, 0, none⟩), .int .i64 f, .int .i64 tt] w fun e w' => NewInts (seg f tt (ats.map Prod.snd)) w e w' := by
  have hW : Below w.heap.size w (w.alloc (.cells #[.slice none 0 0] 35)) := balloc (Below.refl _ w)
  have ht := h.old.below hW
  have hc := twalk_any 88 #[.pointer (some ⟨w.heap.size, 0, none⟩)] (fun (s : List Int) X w' => SeeJ w.heap.size w.heap.size s X w' ∧ w.heap.size ≤ w'.heap.size) (fun s _ t => s ++ [t]) List.length (seeT_sees _ _ (Nat.le_refl _))
    (fun b => b < w.heap.size) g enc ats f tt [] (fun b => b = w.heap.size ∨ (Value.slice none 0 0).ownBlock = some b) _ ht (fun b hb _ hx => by rcases hx with rfl | hx; exact absurd hb (Nat.lt_irrefl _); simp [Value.ownBlock] at hx)
    ⟨⟨_, Blk.new w _ _, ⟨rfl, .inl ⟨rfl, rfl⟩⟩, rfl⟩, by simp⟩ (by simp) f0 t0
  rw [foldl_snd, seg_map, List.nil_append] at hc
  obtain ⟨L, hL⟩ : ∃ L, seg f tt (ats.map Prod.snd) = L := ⟨_, rfl⟩
  rw [hL] at hc ⊢
  have HC := Lib.hid hc
  clear hc hL
  go_enter Tryz.func55, Tryz.ntmps55
  go_wp2_with fail
  refine (HC.out).mono ?_
  rintro e w1 ⟨rfl, ⟨X', ⟨⟨v, hb, ho, rfl⟩, hs⟩, hx⟩, hf⟩
  have c0 := hb.cell 0
  simp at c0
  have HO := Lib.hid ho
  have hfin : Below w.heap.size w w1 := bfr hW hf (fun b hb => by rcases hb with rfl | hb; exact Nat.le_refl _; simp [Value.ownBlock] at hb)
  clear ho hx
  go_wp2_with fail
  go_ret
  exact ⟨v, rfl, HO.out, hfin⟩
theorem seg_whole {α : Type} (l : List α) : seg 0 (l.length : Int) l = l := by unfold seg; simp
section
variable {B gd gb g n : Nat} {enc lim : Int} {st : BkS} {dc : Array Value} {w : World}
theorem btext_desk (h : DeskIs w B gd gb g enc lim n st dc) : Calls Tryz.prog 7 #[.pointer (some ⟨gb, 0, none⟩)] w fun e w' => e = .returned (.pointer (some ⟨g, 0, none⟩)) ∧ w = w' := by
  obtain ⟨cs, hb, h0⟩ := h.blkB
  exact btext_any w gb g cs hb h0
set_option maxRecDepth 100000 in
theorem batoms_any (h : DeskIs w B gd gb g enc lim n st dc) {gB : Nat} {vR : Value} (hB : Blk w gB 28 #[.pointer (some ⟨gd, 0, none⟩), vR]) :
    Calls Tryz.prog 8 #[.pointer (some ⟨gB, 0, none⟩)] w fun e w' => NewInts (st.ats.map Prod.fst) w e w' := by
  have HT := Lib.hid (btext_desk h)
  have hlen := h.len
  have hl := len_any Any g enc (sizedA enc st.ats) w h.at_
  rw [sizedA_len] at hl
  have ha := fun (w' : World) (hb : Below w.heap.size w w') => tatoms_any Any g enc (sizedA enc st.ats) 0 (st.ats.length : Int) w' (h.below hb).at_ (by omega) (by omega)
  have e1 : seg 0 (st.ats.length : Int) ((sizedA enc st.ats).map Prod.fst) = st.ats.map Prod.fst := by
    rw [sizedA_fst]
    have := seg_whole (st.ats.map Prod.fst)
    rwa [List.length_map] at this
  rw [e1] at ha
  obtain ⟨N, hN⟩ : ∃ N, st.ats.length = N := ⟨_, rfl⟩
  rw [hN] at hl ha
  have HL := Lib.hid hl
  have HA := Lib.hid ha
  have cd := (h.desk.cell 0).trans h.c0
  obtain ⟨cb, -⟩ := cells2 hB
  clear hl ha h e1 hN hB
  go_enter Tryz.func8, Tryz.ntmps8
  go_wp2_with fail
  refine (HT.out).mono ?_
  rintro e w1 ⟨rfl, rfl⟩
  go_wp2_with fail
  refine (HL.out).mono ?_
  rintro e w1 ⟨rfl, hb1⟩
  go_wp2_with fail
  refine (HA.out _ hb1).mono ?_
  rintro e w2 ⟨v, rfl, ho, hb2⟩
  have HO := Lib.hid ho
  clear ho
  go_wp2_with fail
  go_ret
  exact ⟨v, rfl, ownsRow_le HO.out hb1.size, bseq hb1 hb2⟩
set_option maxRecDepth 100000 in
theorem btags_any (h : DeskIs w B gd gb g enc lim n st dc) {gB : Nat} {vR : Value} (hB : Blk w gB 28 #[.pointer (some ⟨gd, 0, none⟩), vR]) :
    Calls Tryz.prog 21 #[.pointer (some ⟨gB, 0, none⟩)] w fun e w' => NewInts (st.ats.map Prod.snd) w e w' := by
  have HT := Lib.hid (btext_desk h)
  have hlen := h.len
  have hl := len_any Any g enc (sizedA enc st.ats) w h.at_
  rw [sizedA_len] at hl
  have ha := fun (w' : World) (hb : Below w.heap.size w w') => ttagsT_any g enc st.ats 0 (st.ats.length : Int) w' (h.below hb).tags (by omega) (by omega)
  have e1 : seg 0 (st.ats.length : Int) (st.ats.map Prod.snd) = st.ats.map Prod.snd := by
    have := seg_whole (st.ats.map Prod.snd)
    rwa [List.length_map] at this
  rw [e1] at ha
  obtain ⟨N, hN⟩ : ∃ N, st.ats.length = N := ⟨_, rfl⟩
  rw [hN] at hl ha
  have HL := Lib.hid hl
  have HA := Lib.hid ha
  have cd := (h.desk.cell 0).trans h.c0
  obtain ⟨cb, -⟩ := cells2 hB
  clear hl ha h e1 hN hB
  go_enter Tryz.func21, Tryz.ntmps21
  go_wp2_with fail
  refine (HT.out).mono ?_
  rintro e w1 ⟨rfl, rfl⟩
  go_wp2_with fail
  refine (HL.out).mono ?_
  rintro e w1 ⟨rfl, hb1⟩
  go_wp2_with fail
  refine (HA.out _ hb1).mono ?_
  rintro e w2 ⟨v, rfl, ho, hb2⟩
  have HO := Lib.hid ho
  clear ho
  go_wp2_with fail
  go_ret
  exact ⟨v, rfl, ownsRow_le HO.out hb1.size, bseq hb1 hb2⟩
theorem undo_desk (h : DeskIs w B gd gb g enc lim n st dc) (hn : st.now = none) {us : List Gr} {G : Gr} (hu : st.undo = us ++ [G]) (hr : st.redo.length < 1048576) (hmb : ∀ mv, mv ∈ G.moves → mv.length ≤ 1048576) :
    Calls Tryz.prog 15 #[.pointer (some ⟨gb, 0, none⟩)] w fun e w' => e = .returned (.tuple #[.int .i64 G.bgn, .int .i64 0]) ∧ DeskIs w' B gd gb g enc lim n { st with ats := G.before, undo := us, redo := st.redo ++ [G], state := G.old } dc ∧ BkFr B w w' := by
  obtain ⟨N, add, t, a, xs, m, vu, vr, now, n', hn', hk⟩ := h.book
  refine (undo_none N B gb g enc lim n' add st t a xs m vu vr now us G w hk hn hu hr hmb).mono ?_
  rintro e w' ⟨rfl, ⟨t', a', vu', vr', hk'⟩, hf⟩
  exact ⟨rfl, h.bk hf ⟨N, add, t', a', xs, m, vu', vr', none, n', hn', hk'⟩, hf⟩
end
end Go.Proofs.YteekabaoocaghaaGreat
namespace Go.Proofs.YteekabaoocaghaaGreat
open Go.RowKit

def abS : Start := ⟨0, 0, 0, 9, [97, 98]⟩
theorem ab_dec : dec 1 [97, 98] = [(97, 1), (98, 1)] := by kernel_rfl
theorem ab_E : abS.E = 1 := by kernel_rfl
theorem ab_l : abS.l = [97, 98] := by kernel_rfl
theorem ab_lim : abS.lim = 11 := by kernel_rfl
theorem ab_nat : abS.nat = 1 := by kernel_rfl
theorem ab_dep : abS.dep = 1 := by kernel_rfl
theorem ab_natF : natF ((dec 1 [97, 98]).map Prod.fst) 1 = 1 := by kernel_rfl
def abN : BkS := newS 1 1 [97, 98]
theorem ab_ats : abN.ats = [(97, 0), (98, 1)] := by kernel_rfl
theorem ab_ref (A : Option Addr) (c : Nat) : refF 1 11 (sizedA 1 abN.ats) [typeE 2 [120] A c] = 0 := by
  rw [ab_ats]
  rfl
theorem ab_typed (A : Option Addr) (k : Nat) : (typeS abN 2 [120] A k).ats.map Prod.fst = [97, 98, 120] ∧ (typeS abN 2 [120] A k).ats.map Prod.snd = [0, 1, -1] := by
  unfold typeS
  dsimp only
  rw [edA_type, ab_ats]
  exact ⟨rfl, rfl⟩
theorem NewInts.slice {l : List Int} {w w' : World} {e : Ending} (h : NewInts l w e w') : ∃ A c, e = .returned (.slice A l.length c) ∧ Ints w' Any A l.length l ∧ l.length ≤ c ∧ Below w.heap.size w w' := by
  obtain ⟨v, rfl, ho, hb⟩ := h
  obtain ⟨A, c, rfl, hc⟩ := own_slice ho
  exact ⟨A, c, rfl, Reads.more (Reads.of_own ho) (fun _ _ _ => trivial) (by decide), hc, hb⟩
theorem ints_new (w : World) (l : List Int) (H : Nat) (hH : w.heap.size = H) : Ints (w.alloc (.cells (l.map (Value.int .i64)).toArray 3)) Any (some ⟨H, 0, none⟩) l.length l := by
  subst hH
  refine ⟨by simp, fun _ => ⟨_, rfl, trivial, fun j u hu => ?_⟩⟩
  exact cells_new w 3 _ j u (by simpa using hu)
set_option maxRecDepth 100000 in
set_option maxHeartbeats 16000000 in
theorem both_typed (w : World) (gB : Nat) : Calls Tryz.prog 6 #[.pointer (some ⟨gB, 0, none⟩)] w fun e w' => e = .returned (.bool true) ∧ Below w.heap.size w w' := by
  have hw1 : Below w.heap.size w (w.alloc (.cells #[.int .u8 97, .int .u8 98] 5 (2, 3))) := balloc (Below.refl _ _)
  have hI1 : Bts (w.alloc (.cells #[.int .u8 97, .int .u8 98] 5 (2, 3))) Any (some ⟨w.heap.size, 0, none⟩) 2 abS.data := by
    refine ⟨rfl, fun _ => ⟨_, rfl, trivial, fun j u hu => ?_⟩⟩
    rw [add_cell, cell_of_row _ _ _ _ _ (2, 3) (heap_alloc_new w _), Nat.zero_add]
    simpa [abS] using hu
  have hbg : Calls Tryz.prog 5 #[.agg #[.int .i64 0, .slice (some ⟨w.heap.size, 0, none⟩) 2 2, .int .i64 0, .int .i64 0, .int .i64 9]] (w.alloc (.cells #[.int .u8 97, .int .u8 98] 5 (2, 3))) fun e w' => BegunPost abS (w.alloc (.cells #[.int .u8 97, .int .u8 98] 5 (2, 3))) e w' := begun_any abS _ 2 2 _ hI1 (fun x hx => by simp [abS] at hx; omega) ⟨by decide, by decide⟩ ⟨by decide, by decide⟩ ⟨by decide, by decide⟩
  have hcv := Lib.run_convert_bytes_const (P := Tryz.prog) w 22 5 #[.int .u8 97, .int .u8 98] 2 2 Tryz.underlying22 Tryz.underlying5
  have hsz2 : (#[Value.int .u8 97, .int .u8 98] : Array Value).size = 2 := rfl
  rw [hsz2] at hcv
  clear hsz2
  have HBG := Lib.hid hbg
  clear hbg
  go_enter Tryz.func6, Tryz.ntmps6
  go_wp2_with fail
  refine (HBG.out).mono ?_
  rintro e w2 ⟨gd, gb, gt, m, gk, mk, gd', gb', gt', gk', ld, rfl, hBe, hb2⟩
  have hD := hBe.D
  rw [ab_E, ab_l, ab_lim, ab_nat, ab_dep] at hD
  have hd := hD.is (by decide) (by decide) (by decide)
  rw [ab_natF] at hd
  have HD := Lib.hid hd
  clear hd hD hBe HBG
  obtain ⟨w1, hw10⟩ : ∃ x, w.alloc (.cells #[.int .u8 97, .int .u8 98] 5 (2, 3)) = x := ⟨_, rfl⟩
  rw [hw10] at hw1 hI1 hb2 HD
  clear hw10 hI1 hcv
  obtain ⟨B, hB⟩ : ∃ B, w1.heap.size = B := ⟨_, rfl⟩
  rw [hB] at HD
  have hBw : w.heap.size ≤ B := by have h1 := hw1.size; rw [hB] at h1; exact h1
  clear hB
  go_upto_region 4 with fail
  have hw2 := bseq hw1 hb2
  have hBo : Blk (w2.alloc (.cells #[.pointer (some ⟨gd, 0, none⟩), .pointer (some ⟨gd', 0, none⟩)] 28)) w2.heap.size 28 #[.pointer (some ⟨gd, 0, none⟩), .pointer (some ⟨gd', 0, none⟩)] := Blk.new w2 _ _
  have hd3 := HD.out.below (balloc (o := .cells #[.pointer (some ⟨gd, 0, none⟩), .pointer (some ⟨gd', 0, none⟩)] 28) (Below.refl w2.heap.size w2))
  have hw3 : Below w.heap.size w (w2.alloc (.cells #[.pointer (some ⟨gd, 0, none⟩), .pointer (some ⟨gd', 0, none⟩)] 28)) := balloc hw2
  obtain ⟨bo, hbo⟩ : ∃ x, w2.heap.size = x := ⟨_, rfl⟩
  obtain ⟨w3, hw30⟩ : ∃ x, w2.alloc (.cells #[.pointer (some ⟨gd, 0, none⟩), .pointer (some ⟨gd', 0, none⟩)] 28) = x := ⟨_, rfl⟩
  rw [hbo] at hBo ⊢
  rw [hw30] at hBo hd3 hw3 ⊢
  clear hw30 hbo hb2 hw1 hw2 HD
  obtain ⟨c0, -⟩ := cells2 hBo
  have e2 := hd3.desk.cell 2
  have f2 := hd3.desk.frozen 2
  simp [deskC] at e2
  have hd4 := hd3.set (i := 2) (by decide) (.int .i64 2)
  have hBo4 := hBo.far (p := ⟨gd, 2, none⟩) (Blk.ne_ hBo hd3.desk (by decide)) (.int .i64 2)
  have hF4 : DFr B (· = gd) w3 (w3.setCell ⟨gd, 2, none⟩ (.int .i64 2)) := DFr.of_x ((Fr.refl _ _).set1 2 _)
  have hgB : B ≤ gd := hd3.low
  have hne : bo ≠ gd := Blk.ne_ hBo hd3.desk (by decide)
  go_upto_region 5 with fail
  obtain ⟨dc4, hdc4⟩ : ∃ x, (deskC gb gk 1).setIfInBounds 2 (.int .i64 2) = x := ⟨_, rfl⟩
  have z4 : dc4.size = 10 := by rw [← hdc4]; rfl
  have y42 : dc4[2]? = some (.int .i64 2) := by rw [← hdc4]; rfl
  have y49 : dc4[9]? = some (.int .i64 1) := by rw [← hdc4]; rfl
  have hw4 : Below w.heap.size w (w3.setCell ⟨gd, 2, none⟩ (.int .i64 2)) := hw3.setCell (Nat.le_trans hBw hgB) _
  obtain ⟨w4, hw40⟩ : ∃ x, w3.setCell ⟨gd, 2, none⟩ (.int .i64 2) = x := ⟨_, rfl⟩
  rw [hw40] at hd4 hBo4 hw4 ⊢
  rw [hdc4] at hd4
  clear hw40 hdc4 hd3 hBo hw3 hF4 e2 f2 c0
  have hBo5 := hBo4.alloc (.cells #[.int .i64 120] 3)
  have hw5 : Below w.heap.size w (w4.alloc (.cells #[.int .i64 120] 3)) := balloc hw4
  have hI5 : Ints (w4.alloc (.cells #[.int .i64 120] 3)) (fun b => b < (w4.alloc (.cells #[.int .i64 120] 3)).heap.size ∧ ∃ cs, Blk (w4.alloc (.cells #[.int .i64 120] 3)) b 3 cs) (some ⟨w4.heap.size, 0, none⟩) 1 [120] :=
    ⟨rfl, fun _ => ⟨_, rfl, ⟨by simp, _, Blk.new w4 _ _⟩, cell_one_new _ _ _⟩⟩
  have hT := type_any B gd gb gt 0 1 11 2 1 (newS 1 1 [97, 98]) dc4 (some ⟨w4.heap.size, 0, none⟩) 1 1 [120] _ (hd4.below (balloc (Below.refl _ _))) rfl z4 y42 y49 (.inl rfl) hI5 ⟨by decide, by decide⟩ (fun x hx => by simp at hx; omega) ⟨by decide, (show (2 : Int) ≤ (abN.ats.length : Int) by rw [ab_ats]; decide)⟩ ab_ref (by decide) (by decide) (by decide)
  have HT := Lib.hid hT
  obtain ⟨c0, -⟩ := cells2 hBo4
  clear hT hI5 hd4
  go_wp2_with fail
  refine (HT.out).mono ?_
  rintro e w6 ⟨rfl, A', k', hd6, hf6⟩
  have hBo6 := hf6.blk hBo5 (by decide) hne
  have hw6 : Below w.heap.size w w6 := bfr hw5 hf6 (fun i hs => by
    rcases hs with ⟨h1, _⟩ | h1
    · omega
    · omega)
  have hat6 := batoms_any hd6 hBo6
  rw [show (typeS (newS 1 1 [97, 98]) 2 [120] A' k').ats.map Prod.fst = [97, 98, 120] from (ab_typed A' k').1] at hat6
  have HAT6 := Lib.hid hat6
  have HD6 := Lib.hid hd6
  clear hat6 hd6 hf6 c0 HT hw4 hw5 hBo4 hBo5
  go_wp2_with fail
  refine (HAT6.out).mono ?_
  intro e w7 hNI
  obtain ⟨A7, c7, rfl, hI7, hc7, hb7⟩ := hNI.slice
  simp only [List.length_cons, List.length_nil, Nat.zero_add, Nat.reduceAdd] at hI7 hc7 ⊢
  have hw7 := bseq hw6 hb7
  have hS7 := same_eq (c := c7) (c' := 3) (Reads.below hI7 (balloc (o := .cells #[.int .i64 97, .int .i64 98, .int .i64 120] 3) (Below.refl w7.heap.size w7))) (ints_new w7 [97, 98, 120] _ rfl) (by decide)
  have HS7 := Lib.hid hS7
  clear hS7 hNI hI7 hc7
  go_wp2_with fail
  refine (HS7.out).mono ?_
  rintro e w8 ⟨rfl, hb8⟩
  have hb68 := bseq hb7 (bseq (balloc (o := .cells #[.int .i64 97, .int .i64 98, .int .i64 120] 3) (Below.refl w7.heap.size w7)) hb8)
  have hw8 := bseq hw6 hb68
  have hBo8 := hBo6.below hb68
  have hd8 := HD6.out.below hb68
  obtain ⟨c0, -⟩ := cells2 hBo8
  have e2 := hd8.desk.cell 2
  rw [Array.getElem?_setIfInBounds_self_of_lt (by omega)] at e2
  simp only [List.length_cons, List.length_nil] at e2
  have htg := btags_any hd8 hBo8
  rw [show (typeS (newS 1 1 [97, 98]) 2 [120] A' k').ats.map Prod.snd = [0, 1, -1] from (ab_typed A' k').2] at htg
  have HTG := Lib.hid htg
  clear htg hd8 hb8 hb7 hw7 HS7 HAT6
  go_wp2_with fail
  refine (HTG.out).mono ?_
  intro e w9 hNI
  obtain ⟨A9, c9, rfl, hI9, hc9, hb9⟩ := hNI.slice
  simp only [List.length_cons, List.length_nil, Nat.zero_add, Nat.reduceAdd] at hI9 hc9 ⊢
  have hS9 := same_eq (c := c9) (c' := 3) (Reads.below hI9 (balloc (o := .cells #[.int .i64 0, .int .i64 1, .int .i64 (-1)] 3) (Below.refl w9.heap.size w9))) (ints_new w9 [0, 1, -1] _ rfl) (by decide)
  have HS9 := Lib.hid hS9
  clear hS9 hNI hI9 hc9 c0 e2
  go_wp2_with fail
  refine (HS9.out).mono ?_
  rintro e w10 ⟨rfl, hb10⟩
  have hb610 := bseq hb68 (bseq hb9 (bseq (balloc (o := .cells #[.int .i64 0, .int .i64 1, .int .i64 (-1)] 3) (Below.refl w9.heap.size w9)) hb10))
  have hw10 := bseq hw6 hb610
  have hBo10 := hBo6.below hb610
  have hd10 := HD6.out.below hb610
  obtain ⟨c0, -⟩ := cells2 hBo10
  have e0 := (hd10.desk.cell 0).trans hd10.c0
  have hun := undo_desk hd10 rfl (us := []) (G := ⟨abN.ats, edA [typeE 2 [120] A' k'] abN.ats, 2, 2 + ([120] : List Int).length, [[mvOf (typeE 2 [120] A' k')]], 0, 1⟩) rfl (show (0 : Nat) < 1048576 by decide) (fun mv hm => by simp at hm; subst hm; simp)
  have HUN := Lib.hid hun
  clear hun hd10 hb10 hb9 hw8 HS9 HTG hb68 hBo8
  go_wp2_with fail
  refine (HUN.out).mono ?_
  rintro e w11 ⟨rfl, hd11, hf11⟩
  have hBo11 := hf11.blk hBo10 (by decide)
  have hw11 : Below w.heap.size w w11 := bfr hw10 hf11 (fun i hs => by have := hs.1; omega)
  have hat11 := batoms_any hd11 hBo11
  rw [show List.map Prod.fst (abN.ats) = [97, 98] by rw [ab_ats]; rfl] at hat11
  have HAT11 := Lib.hid hat11
  clear hat11 hd11 hf11 hBo10 HUN c0 e0
  go_wp2_with fail
  refine (HAT11.out).mono ?_
  intro e w12 hNI
  obtain ⟨A12, c12, rfl, hI12, hc12, hb12⟩ := hNI.slice
  simp only [List.length_cons, List.length_nil, Nat.zero_add, Nat.reduceAdd] at hI12 hc12 ⊢
  have hS12 := same_eq (c := c12) (c' := 2) (Reads.below hI12 (balloc (o := .cells #[.int .i64 97, .int .i64 98] 3) (Below.refl w12.heap.size w12))) (ints_new w12 [97, 98] _ rfl) (by decide)
  have HS12 := Lib.hid hS12
  clear hS12 hNI hI12 hc12
  go_wp2_with fail
  refine (HS12.out).mono ?_
  rintro e w13 ⟨rfl, hb13⟩
  have hw13 := bseq hw11 (bseq hb12 (bseq (balloc (o := .cells #[.int .i64 97, .int .i64 98] 3) (Below.refl w12.heap.size w12)) hb13))
  go_wp2_with fail
  go_ret
  exact ⟨rfl, hw13⟩
end Go.Proofs.YteekabaoocaghaaGreat
namespace Go.Proofs.YteekabaoocaghaaGreat
open Go.RowKit

theorem edit_info : (Tryz.prog.info? 79).map (fun i => (i.zero, i.size, i.bytes)) = some (some (.agg #[.int .i64 0, .int .i64 0, .slice none 0 0]), 3, 40) := by kernel_rfl
theorem edit_row : ∃ i z, Tryz.prog.info? 79 = some i ∧ i.zero = some z ∧ i.size = 3 ∧ i.bytes = 40 ∧ z.cells.size = 3 := by
  obtain ⟨i, h1, h2, h3, h4⟩ := info_parts edit_info
  exact ⟨i, _, h1, h2, h3, h4, rfl⟩
theorem edit_one (a b : Int) (A : Option Addr) (n c : Nat) : ∀ u ∈ [Value.int .i64 a, .int .i64 b, .slice A n c], u.oneCell' = true := by
  intro u hu
  simp at hu
  rcases hu with rfl | rfl | rfl <;> rfl
theorem word10 : wordF 10 = 0 := by kernel_rfl
theorem word13 : wordF 13 = 0 := by kernel_rfl
theorem word32 : wordF 32 = 0 := by kernel_rfl
/-- what the rounds keep -/
def JoinR (nb : Int → Bool) (bare : Bool) (ds : List (Int × Int)) (f l b7 : Nat) (w : World) (k : Nat) (q6 q8 q9 q10 q11 : Value) (wr : World) : Prop :=
  ∃ (j i : Nat) (es : List Ed) (A8 : Option Addr) (n8 c8 : Nat) (l8 : List Int) (m a : Int), q8 = .slice A8 n8 c8 ∧ q9 = .int .i64 m ∧ q10 = .int .i64 a ∧ q11 = .int .i64 (i : Int) ∧ Hid (i = f + 1 + j) ∧ Hid (EdsJ wr w.heap.size q6 j es) ∧ Hid (JEs nb bare ds f es) ∧ Hid (IntsI wr A8 n8 l8) ∧ n8 ≤ 1073741824 ∧
    Hid (Blk wr b7 49 (lineF ds (f + j)).cells) ∧ f + j ≤ l ∧ l - (f + j) ≤ k ∧ Below w.heap.size w wr
/-- what an edit's making leaves -/
def JCut (nb : Int → Bool) (bare : Bool) (ds : List (Int × Int)) (i0 be base : Nat) (w4 : World) (s : Value) (wx : World) : Prop :=
  ∃ (A : Option Addr) (N c : Nat) (l : List Int) (e : Ed), s = .slice A N c ∧ Hid (IntsI wx A N l) ∧ N ≤ 1073741824 ∧ Hid (JStep nb bare ds i0 e) ∧ Hid (PutAt wx base e) ∧ Hid (Blk wx be 79 e.cells) ∧ Fr (· = be) w4 wx
theorem jcells4 {w : World} {g : Nat} {T : TypeId} {a0 a1 a2 a3 : Value} (h : Blk w g T #[a0, a1, a2, a3]) : (w.cell? ⟨g, 0, none⟩ = some a0 ∧ w.cell? ⟨g, 1, none⟩ = some a1 ∧ w.cell? ⟨g, 2, none⟩ = some a2 ∧ w.cell? ⟨g, 3, none⟩ = some a3) ∧
    w.frozen? ⟨g, 0, none⟩ = false ∧ w.frozen? ⟨g, 1, none⟩ = false ∧ w.frozen? ⟨g, 2, none⟩ = false ∧ w.frozen? ⟨g, 3, none⟩ = false := ⟨⟨h.cell 0, h.cell 1, h.cell 2, h.cell 3⟩, h.frozen 0, h.frozen 1, h.frozen 2, h.frozen 3⟩
def Join1Post (B gd gb g : Nat) (enc lim : Int) (n : Nat) (st : BkS) (o : OpS) (dc : Array Value) (nb : Int → Bool) (bare : Bool) (f l : Nat) (w : World) (e : Ending) (w' : World) : Prop :=
  ∃ (es : List Ed) (x : Int), JEs nb bare (sizedA enc st.ats) f es ∧ es.length = l - f ∧ (0 ≤ x ∧ x ≤ ((edA es st.ats).length : Int)) ∧ e = .returned (.int .i64 x) ∧
    DeskIs w' B gd gb g enc lim (n + 131072) { st with ats := edA es st.ats, now := some { o with moves := o.moves ++ [es.map mvOf], changed := o.changed || es.any chg } } dc ∧ BkFr B w w'
set_option maxRecDepth 100000 in
set_option maxHeartbeats 16000000 in
theorem join1_any (B gd gb g n b0 b1 b2 b3 b4 f l : Nat) (enc lim : Int) (st : BkS) (o : OpS) (dc : Array Value) (bare : Bool) (w : World) (h : DeskIs w B gd gb g enc lim n st dc) (hn : st.now = some o) (hom : o.moves.length < 1048576)
    (k0 : Blk w b0 25 #[.pointer (some ⟨gd, 0, none⟩)]) (k1 : Blk w b1 3 #[.int .i64 (f : Int)]) (k2 : Blk w b2 32 #[.pointer (some ⟨g, 0, none⟩)]) (k3 : Blk w b3 3 #[.int .i64 (l : Int)]) (k4 : Blk w b4 4 #[.bool bare])
    (hfl : f < l) (hl : l ≤ totE (sizedA enc st.ats)) (hsz : szS (sizedA enc st.ats) ≤ lim) (hnn : n + 131072 ≤ 1073741824) :
    Calls Tryz.prog 29 #[.pointer (some ⟨b0, 0, none⟩), .pointer (some ⟨b1, 0, none⟩), .pointer (some ⟨b2, 0, none⟩), .pointer (some ⟨b3, 0, none⟩), .pointer (some ⟨b4, 0, none⟩)] w (Join1Post B gd gb g enc lim n st o dc nbF bare f l w) := by
  have hp := h.pos
  have hlen : (sizedA enc st.ats).length ≤ 65536 := by rw [sizedA_len]; exact h.len
  have hte : totE (sizedA enc st.ats) ≤ 65536 := Nat.le_trans (cntE_le _ _) hlen
  have hBX : ∀ w', Below w.heap.size w w' → w'.cell? ⟨b0, 0, none⟩ = some (.pointer (some ⟨gd, 0, none⟩)) ∧ w'.cell? ⟨b1, 0, none⟩ = some (.int .i64 (f : Int)) ∧ w'.cell? ⟨b2, 0, none⟩ = some (.pointer (some ⟨g, 0, none⟩)) ∧ w'.cell? ⟨b3, 0, none⟩ = some (.int .i64 (l : Int)) ∧ w'.cell? ⟨b4, 0, none⟩ = some (.bool bare) := fun w' hb =>
    ⟨(k0.below hb).cell 0, (k1.below hb).cell 0, (k2.below hb).cell 0, (k3.below hb).cell 0, (k4.below hb).cell 0⟩
  have hLI := fun (w' : World) (hb : Below w.heap.size w w') (i : Nat) (hi : i ≤ totE (sizedA enc st.ats)) => line_desk (h.below hb) i hi
  have hAT := fun (w' : World) (hb : Below w.heap.size w w') (x y : Int) (hx : 0 ≤ x) (hy : y ≤ 65536) => tatoms_any Any g enc (sizedA enc st.ats) x y w' (h.below hb).at_ (by omega) (by omega)
  obtain ⟨ds, hds⟩ : ∃ ds, sizedA enc st.ats = ds := ⟨_, rfl⟩
  rw [hds] at hp hlen hte hLI hAT hl hsz
  have HDS := Lib.hid hds
  have HBX := Lib.hid hBX
  have HLI := Lib.hid hLI
  have HAT := Lib.hid hAT
  have HH := Lib.hid h
  have HP := Lib.hid hp
  have HSZ := Lib.hid hsz
  have HN := Lib.hid hn
  have HOM := Lib.hid hom
  have HK0 := Lib.hid k0
  obtain ⟨ie, ze, hie, he0, he1, he2, he3⟩ := edit_row
  obtain ⟨c0, c1, c2, c3, c4⟩ := hBX w (Below.refl _ _)
  have hli := hLI w (Below.refl _ _) f (by omega)
  have hbd := lineF_bd hp (i := f) (by omega)
  obtain ⟨⟨x0, x1, x2, x3⟩, hL⟩ : ∃ L, lineF ds f = L := ⟨_, rfl⟩
  rw [hL] at hli hbd
  unfold Ln.cells at hli
  dsimp only at hli hbd
  have HL := Lib.hid hL
  have HLIf := Lib.hid hli
  have wf : IntKind.i64.wrap ((f : Int) + 1) = ((f + 1 : Nat) : Int) := by rw [IntWalk.i64_in _ (by omega)]; omega
  have WF := Lib.hid wf
  clear hds hBX hLI hAT h hp hsz hn hom hli hL wf k0 k1 k2 k3 k4
  go_enter Tryz.func29, Tryz.ntmps29
  go_wp2_with fail
  refine (HLIf.out).mono ?_
  rintro e w1 ⟨rfl, hb1⟩
  go_upto_region 3 with fail
  have hb2 : Below w.heap.size w (w1.alloc (.cells #[.int .i64 x0, .int .i64 x1, .int .i64 x2, .int .i64 x3] 49)) := balloc hb1
  have hB7 : Blk (w1.alloc (.cells #[.int .i64 x0, .int .i64 x1, .int .i64 x2, .int .i64 x3] 49)) w1.heap.size 49 #[.int .i64 x0, .int .i64 x1, .int .i64 x2, .int .i64 x3] := Blk.new w1 _ _
  have hz7 : w.heap.size ≤ w1.heap.size := hb1.size
  obtain ⟨b7, hb7⟩ : ∃ x, w1.heap.size = x := ⟨_, rfl⟩
  obtain ⟨w2, hw2⟩ : ∃ x, w1.alloc (.cells #[.int .i64 x0, .int .i64 x1, .int .i64 x2, .int .i64 x3] 49) = x := ⟨_, rfl⟩
  rw [hb7] at hB7 hz7 ⊢
  rw [hw2] at hb2 hB7 ⊢
  clear hw2 hb7 c0 c1 c2 c3 c4 HLIf
  obtain ⟨c0, c1, c2, c3, c4⟩ := HBX.out _ hb2
  obtain ⟨⟨d0, d1, d2, d3⟩, -⟩ := jcells4 hB7
  have hat := HAT.out w2 hb2 x0 x1 (by omega) (by omega)
  obtain ⟨S, hS⟩ : ∃ S, seg x0 x1 (ds.map Prod.fst) = S := ⟨_, rfl⟩
  have hSl : S.length ≤ 1073741824 := by rw [← hS]; unfold seg; rw [List.length_take, List.length_drop, List.length_map]; omega
  rw [hS] at hat
  have HATf := Lib.hid hat
  clear hat hS
  go_wp2_with fail
  refine (HATf.out).mono ?_
  rintro e w3 ⟨v, rfl, hown, hb3⟩
  obtain ⟨A8, c8, rfl, hc8⟩ := own_slice hown
  have hI8 : IntsI w3 A8 S.length S := IntsI.of_own hown
  have hb23 := bseq hb2 hb3
  have hB73 := hB7.below hb3
  obtain ⟨-, c1', -⟩ := HBX.out _ hb23
  have wf := WF.out
  clear HATf hown hb3 hb2 hB7 hb1 d0 d1 d2 d3 c0 c1 c2 c3 c4
  go_upto_region 5 with fail
  go_wp2_with fail
  have HIE := Lib.hid hie
  clear wf c1'
  go_loopg [6, 8, 9, 10, 11] (l - f) (fun k q6 q8 q9 q10 q11 wr => JoinR nbF bare ds f l b7 w k q6 q8 q9 q10 q11 wr)
  case atStart => exact ⟨0, f + 1, [], A8, S.length, c8, S, 0, 0, rfl, rfl, rfl, rfl, Lib.hid rfl, Lib.hid ⟨World.ownsRow_nil _ _ _ _, rfl, fun e he => by cases he⟩, Lib.hid (JEs.nil _ _ _ _), Lib.hid hI8, hSl, Lib.hid (by rw [Nat.add_zero, HL.out]; exact hB73), by omega, by omega, hb23⟩
  case round =>
    obtain ⟨j, i, es, A8, n8, c8, l8, m, a, rfl, rfl, rfl, rfl, hi, hE, hJ, h8, hn8, hB7, hjl, hk, hb⟩ := hrel
    have hie1 : i ≤ f + 1 + j := Nat.le_of_eq hi.out
    have hie2 : f + 1 + j ≤ i := Nat.le_of_eq hi.out.symm
    have hs0 := hb.size
    by_cases hgo : i ≤ l
    · have q1 : ((i : Int) ≤ (l : Int)) = True := by simp; omega
      obtain ⟨c0, c1, c2, c3, c4⟩ := HBX.out _ hb
      have hli := HLI.out _ hb i (by omega)
      have hbd2 := lineF_bd HP.out (i := i) (by omega)
      have hbd1 := lineF_bd HP.out (i := f + j) (by omega)
      have hcl := cont_len HP.out (i := i) (by omega)
      obtain ⟨⟨z0, z1, z2, z3⟩, hL2⟩ : ∃ L, lineF ds i = L := ⟨_, rfl⟩
      obtain ⟨⟨y0, y1, y2, y3⟩, hL1⟩ : ∃ L, lineF ds (f + j) = L := ⟨_, rfl⟩
      have hB7' := hB7.out
      have hS2 : cont ds i = seg z0 z1 (ds.map Prod.fst) := by unfold cont; rw [hL2]
      rw [hL2] at hli hbd2 hcl
      rw [hL1] at hB7' hbd1
      unfold Ln.cells at hli hB7'
      dsimp only at hli hB7' hbd2 hbd1 hcl
      obtain ⟨C, hC⟩ : ∃ C, cont ds i = C := ⟨_, rfl⟩
      rw [hC] at hcl hS2
      have hcl1 : (C.length : Int) ≤ z1 - z0 := Int.le_of_eq hcl
      have hcl2 : z1 - z0 ≤ (C.length : Int) := Int.le_of_eq hcl.symm
      have HL2 := Lib.hid hL2
      have HL1 := Lib.hid hL1
      have HLIi := Lib.hid hli
      have HC := Lib.hid hC
      have HS2 := Lib.hid hS2
      clear hL1 hL2 hli hB7 hC hS2 hcl hI8 hB73 hb23 hSl hc8
      go_wp2_with fail
      refine (HLIi.out).mono ?_
      rintro e w4 ⟨rfl, hb4⟩
      go_upto_region 9 with fail
      have hw5 : Below wr.heap.size wr (w4.alloc (.cells #[.int .i64 z0, .int .i64 z1, .int .i64 z2, .int .i64 z3] 49)) := balloc hb4
      have hB12 : Blk (w4.alloc (.cells #[.int .i64 z0, .int .i64 z1, .int .i64 z2, .int .i64 z3] 49)) w4.heap.size 49 #[.int .i64 z0, .int .i64 z1, .int .i64 z2, .int .i64 z3] := Blk.new w4 _ _
      have hz12 : wr.heap.size ≤ w4.heap.size := hb4.size
      obtain ⟨b12, hb12⟩ : ∃ x, w4.heap.size = x := ⟨_, rfl⟩
      obtain ⟨w5, hw50⟩ : ∃ x, w4.alloc (.cells #[.int .i64 z0, .int .i64 z1, .int .i64 z2, .int .i64 z3] 49) = x := ⟨_, rfl⟩
      rw [hb12] at hB12 hz12 ⊢
      rw [hw50] at hw5 hB12 ⊢
      clear hw50 hb12 hb4 c0 c1 c2 c3 c4 HLIi
      have hB75 := hB7'.below hw5
      obtain ⟨⟨d0, d1, d2, d3⟩, -⟩ := jcells4 hB75
      go_upto_region 10 with fail
      have hw6 : Below wr.heap.size wr (w5.alloc (.cells #[.int .i64 y1, .int .i64 y2, .slice none 0 0] 79)) := balloc hw5
      have hB13 : Blk (w5.alloc (.cells #[.int .i64 y1, .int .i64 y2, .slice none 0 0] 79)) w5.heap.size 79 #[.int .i64 y1, .int .i64 y2, .slice none 0 0] := Blk.new w5 _ _
      have hB126 := hB12.alloc (.cells #[.int .i64 y1, .int .i64 y2, .slice none 0 0] 79)
      have hz13 : wr.heap.size ≤ w5.heap.size := hw5.size
      obtain ⟨b13, hb13⟩ : ∃ x, w5.heap.size = x := ⟨_, rfl⟩
      obtain ⟨w6, hw60⟩ : ∃ x, w5.alloc (.cells #[.int .i64 y1, .int .i64 y2, .slice none 0 0] 79) = x := ⟨_, rfl⟩
      rw [hb13] at hB13 hz13 ⊢
      rw [hw60] at hw6 hB13 hB126 ⊢
      clear hw60 hb13 hw5 hB12 hB75 d0 d1 d2 d3
      obtain ⟨c0, c1, c2, c3, c4⟩ := HBX.out _ (bseq hb hw6)
      obtain ⟨⟨d0, d1, d2, d3⟩, -⟩ := jcells4 hB126
      have hat := HAT.out w6 (bseq hb hw6) z0 z1 (by omega) (by omega)
      rw [← HS2.out] at hat
      have HATi := Lib.hid hat
      clear hat
      go_wp2_with fail
      refine (HATi.out).mono ?_
      rintro e w7 ⟨v, rfl, hown7, hb7⟩
      obtain ⟨A7, k7, rfl, hk7⟩ := own_slice hown7
      have hI7 : IntsI w7 A7 C.length C := IntsI.of_own hown7
      have hfm := own_form hown7
      have hw7 := bseq hw6 hb7
      have hB127 := hB126.below hb7
      have hB137 := hB13.below hb7
      have hCl : C.length ≤ 65536 := by omega
      obtain ⟨N, hN⟩ : ∃ N, C.length = N := ⟨_, rfl⟩
      rw [hN] at hI7 hk7 hfm hcl1 hcl2 hCl ⊢
      have HNC := Lib.hid hN
      have HI7 := Lib.hid hI7
      clear hN hI7 hown7 hb7 hw6 hB126 hB13 HATi c0 c1 c2 c3 c4 d0 d1 d2 d3
      obtain ⟨-, -, -, -, c4⟩ := HBX.out _ (bseq hb hw7)
      have hij : f + j + 1 = i := by omega
      have HIJ := Lib.hid hij
      clear hij
      go_upto_if 47 with fail
      go_cut [14] (fun s wx => JCut nbF bare ds (f + j) b13 w.heap.size w7 s wx)
      case first =>
        cases bare
        · have HBL := Lib.hid (blanks_any Any A7 N k7 C w7 HI7.out.any (by omega))
          have h87 := h8.out.bel hw7
          have H87 := Lib.hid h87
          clear h87
          go_upto_region 12 with fail
          go_wp2_with fail
          refine (HBL.out).mono ?_
          rintro e w8 ⟨n0, rfl, hok, -, hb8⟩
          have hn0 : n0 ≤ N := by have := hok.1; rw [HNC.out] at this; exact this
          have HOK := Lib.hid hok
          clear hok HBL
          go_upto_region 13 with fail
          go_cut [14] (fun s wx => ∃ (A' : Option Addr) (k' : Nat), s = .slice A' (N - n0) k' ∧ Hid (IntsI wx A' (N - n0) (C.drop n0)) ∧ wx = w8)
          case first =>
            have p0 : ((0 : Int) ≤ (n0 : Int)) = True := by simp
            have p1 : ((n0 : Int) ≤ (N : Int)) = True := by simp; omega
            have p2 : ((N : Int) ≤ (k7 : Int)) = True := by simp; omega
            have p3 : ((n0 : Int) ≤ (k7 : Int)) = True := by simp; omega
            have hcutI := fun (hle : n0 ≤ N) => Reads.cut (show Ints w8 (fun b => ∃ cs, Blk w8 b 3 cs) A7 N C from HI7.out.bel hb8) (k := n0) (cap := k7) hle hk7
            have HCI := Lib.hid (hcutI hn0)
            clear hcutI
            rcases hfm with ⟨rfl, hz1, hz2⟩ | ⟨r, rfl⟩
            · have hn00 : n0 = 0 := by omega
              subst hz1
              subst hz2
              subst hn00
              go_wp2_with fail
              go_meet
              exact ⟨none, 0, rfl, Lib.hid ⟨by simp [List.eq_nil_of_length_eq_zero HNC.out], fun h => absurd h (by omega)⟩, rfl⟩
            · go_wp2_with fail
              all_goals
                go_meet
                refine ⟨_, _, rfl, Lib.hid ?_, rfl⟩
                have h1 := HCI.out
                rw [Nat.mul_one, ← List.map_drop] at h1
                first
                  | (rw [if_pos (by assumption)] at h1
                     exact h1)
                  | (rw [if_neg (by assumption)] at h1
                     have e1 : Option.map (fun x : Addr => x.add n0) (some ⟨r, 0, none⟩) = some ⟨r, n0, none⟩ := by simp [Addr.add]; exact fun h => h.symm
                     rw [e1] at h1
                     exact h1)
          case rest =>
            obtain ⟨A9, k9, rfl, hI9, rfl⟩ := hcut
            have hB138 := hB137.below hb8
            obtain ⟨e0, e1, e2⟩ := cells3 hB138
            have f1 := hB138.frozen 1
            have wy : IntKind.i64.wrap (y2 + (n0 : Int)) = y2 + (n0 : Int) := IntWalk.i64_in _ (by omega)
            go_upto_region 15 with fail
            have hB139 := (hB138.set_ 1 (.int .i64 (y2 + (n0 : Int)))).eq_ (show _ = #[.int .i64 y1, .int .i64 (y2 + (n0 : Int)), .slice none 0 0] by simp)
            have hF9 : Fr (· = b13) w7 (wc.setCell ⟨b13, 1, none⟩ (.int .i64 (y2 + (n0 : Int)))) := (Fr.of_below hb8).set1 1 _
            have hni : ∀ b, b < wc.heap.size → b = b13 → ¬ ∃ cs, Blk wc b 3 cs := fun b _ hb ⟨cs, hc⟩ => Blk.ne_ hc hB138 (by decide) hb
            have hF19 : Fr (· = b13) wc (wc.setCell ⟨b13, 1, none⟩ (.int .i64 (y2 + (n0 : Int)))) := (Fr.refl _ _).set1 1 _
            have hI99 := hI9.out.fr hF19 hni
            have hI89 := (H87.out.bel hb8).fr hF19 hni
            obtain ⟨w9, hw9⟩ : ∃ x, wc.setCell ⟨b13, 1, none⟩ (.int .i64 (y2 + (n0 : Int))) = x := ⟨_, rfl⟩
            rw [hw9] at hB139 hF9 hI99 hI89 ⊢
            have HI99 := Lib.hid hI99
            have HI89 := Lib.hid hI89
            have HB139 := Lib.hid hB139
            clear hw9 hF19 hni e0 e1 e2 f1 hB138 hI9 hI99 hI89 wy hB139 hb8
            go_cut [81] (fun s wx => ∃ bb : Bool, s = .bool bb ∧ Below w9.heap.size w9 wx)
            case first =>
              by_cases hN0 : 0 < N - n0
              · obtain ⟨bA, oA, rfl, _, cA⟩ := ints_form HI99.out.any hN0
                have cx := cA 0 hN0
                rw [Nat.add_zero] at cx
                obtain ⟨x, hx⟩ : ∃ x, (C.drop n0).getD 0 0 = x := ⟨_, rfl⟩
                rw [hx] at cx
                have p0 : ((0 : Int) < ((N - n0 : Nat) : Int)) = True := by simp; omega
                have p1 : 0 < N - n0 := hN0
                have p2 : (0 : Int) < ((N - n0 : Nat) : Int) := by omega
                clear hx cA
                by_cases hx41 : x = 41
                · subst hx41
                  go_wp2_with fail
                  go_meet
                  exact ⟨_, rfl, Below.refl _ _⟩
                · have q4 : (x != 41) = true := by rw [bne_iff_ne]; exact hx41
                  by_cases hn80 : 0 < n8
                  · obtain ⟨bC, oC, rfl, _, cC⟩ := ints_form HI89.out.any hn80
                    have cy := cC (n8 - 1) (by omega)
                    obtain ⟨y, hy⟩ : ∃ y, l8.getD (n8 - 1) 0 = y := ⟨_, rfl⟩
                    rw [hy] at cy
                    have wn : IntKind.i64.wrap ((n8 : Int) - 1) = ((n8 - 1 : Nat) : Int) := by rw [IntWalk.i64_in _ (by omega)]; omega
                    have r0 : ((0 : Int) < (n8 : Int)) = True := by simp; omega
                    have r1 : (0 : Int) ≤ ((n8 - 1 : Nat) : Int) := by omega
                    have r2 : ((n8 - 1 : Nat) : Int) < (n8 : Int) := by omega
                    have hwd := word_any y w9
                    obtain ⟨v9, hv9⟩ : ∃ v, wordF y = v := ⟨_, rfl⟩
                    rw [hv9] at hwd
                    have HWD := Lib.hid hwd
                    clear hy cC hwd hv9
                    go_wp2_with fail
                    refine (HWD.out).mono ?_
                    rintro e w10 ⟨rfl, hb10⟩
                    go_wp2_with fail
                    go_meet
                    exact ⟨_, rfl, hb10⟩
                  · have r0 : ((0 : Int) < (n8 : Int)) = False := by simp; omega
                    go_wp2_with fail
                    go_meet
                    exact ⟨_, rfl, Below.refl _ _⟩
              · have p0 : ((0 : Int) < ((N - n0 : Nat) : Int)) = False := by simp; omega
                go_wp2_with fail
                go_meet
                exact ⟨_, rfl, Below.refl _ _⟩
            case rest =>
              obtain ⟨bb, rfl, hbx⟩ := hcut
              have hst0 : ∀ (A' : Option Addr) (n' c' : Nat) (put : List Int), put = [] ∨ put = [32] → JStep nbF false ds (f + j) ⟨y1, y2 + (n0 : Int), A', n', c', put⟩ := fun A' n' c' put hput => by
                refine ⟨by rw [HL1.out], n0, by rw [HL1.out], by rw [HIJ.out, HC.out, HNC.out]; exact hn0, fun x hx => ?_, hput, fun h => by cases h⟩
                rw [HIJ.out, HC.out] at hx
                obtain ⟨q, hq, rfl⟩ := List.mem_iff_getElem.1 hx
                rw [List.length_take] at hq
                have h3 := (HOK.out.2 q (by omega)).1
                rw [List.getD_eq_getElem?_getD, List.getElem?_eq_getElem (by omega)] at h3
                rw [List.getElem_take]
                unfold nbF
                rw [decide_eq_false_iff_not]
                exact fun hne => hne h3
              have HST := Lib.hid hst0
              have hB13x := HB139.out.below hbx
              have hFx := hF9.bel hbx
              have hIx := HI99.out.bel hbx
              have HIX := Lib.hid hIx
              clear hst0 hIx hF9
              cases bb
              · go_wp2_with fail
                go_meet
                exact ⟨A9, N - n0, k9, C.drop n0, ⟨y1, y2 + (n0 : Int), none, 0, 0, []⟩, rfl, HIX, by omega, Lib.hid (HST.out _ _ _ _ (.inl rfl)), Lib.hid (.inl ⟨rfl, rfl, rfl, rfl⟩), Lib.hid hB13x, hFx⟩
              · have hB13a := hB13x.alloc (.cells #[.int .i64 32] 3)
                have hnew := Blk.new wc 3 #[.int .i64 32]
                have hza : w.heap.size ≤ wc.heap.size := by have h1 := hw7.size; have h2 := hFx.size; omega
                obtain ⟨e0, e1, e2⟩ := cells3 hB13a
                have f2 := hB13a.frozen 2
                have hne : wc.heap.size ≠ b13 := Blk.ne_ hnew hB13a (by decide)
                have hni : ∀ b, b < (wc.alloc (.cells #[.int .i64 32] 3)).heap.size → b = b13 → ¬ ∃ cs, Blk (wc.alloc (.cells #[.int .i64 32] 3)) b 3 cs := fun b _ hb ⟨cs, hc⟩ => Blk.ne_ hc hB13a (by decide) hb
                have hIa := (HIX.out.bel (balloc (o := .cells #[.int .i64 32] 3) (Below.refl _ _))).fr (show Fr (· = b13) _ ((wc.alloc (.cells #[.int .i64 32] 3)).setCell ⟨b13, 2, none⟩ (.slice (some ⟨wc.heap.size, 0, none⟩) 1 1)) from (Fr.refl _ _).set1 2 _) hni
                have hBf := (hB13a.set_ 2 (.slice (some ⟨wc.heap.size, 0, none⟩) 1 1)).eq_ (show _ = #[.int .i64 y1, .int .i64 (y2 + (n0 : Int)), .slice (some ⟨wc.heap.size, 0, none⟩) 1 1] by simp)
                have hnf := hnew.far (p := ⟨b13, 2, none⟩) hne (.slice (some ⟨wc.heap.size, 0, none⟩) 1 1)
                have hFf : Fr (· = b13) w7 ((wc.alloc (.cells #[.int .i64 32] 3)).setCell ⟨b13, 2, none⟩ (.slice (some ⟨wc.heap.size, 0, none⟩) 1 1)) := (hFx.alloc _).set1 2 _
                have HIA := Lib.hid hIa
                have HBF := Lib.hid hBf
                have HNF := Lib.hid hnf
                have HFF := Lib.hid hFf
                clear hIa hBf hnf hFf hni hB13x hB13a hnew hFx
                go_wp2_with fail
                go_meet
                exact ⟨A9, N - n0, k9, C.drop n0, ⟨y1, y2 + (n0 : Int), some ⟨wc.heap.size, 0, none⟩, 1, 1, [32]⟩, rfl, HIA, by omega, Lib.hid (HST.out _ _ _ _ (.inr rfl)), Lib.hid (.inr ⟨rfl, rfl, rfl, _, rfl, hza, HNF.out⟩), HBF, HFF.out⟩
        · go_wp2_with fail
          go_meet
          exact ⟨A7, N, k7, C, ⟨y1, y2, none, 0, 0, []⟩, rfl, HI7, by omega, Lib.hid ⟨by rw [HL1.out], 0, by rw [HL1.out]; simp, Nat.zero_le _, by simp, .inl rfl, fun _ => ⟨rfl, rfl⟩⟩, Lib.hid (.inl ⟨rfl, rfl, rfl, rfl⟩), Lib.hid hB137, Fr.refl _ _⟩
      case rest =>
        obtain ⟨A14, N14, c14, l14, ⟨ef, et, eA, en, ec, eput⟩, rfl, hI14, hN14, hst, hput, hBe0, hF⟩ := hcut
        have hBe := hBe0.out
        unfold Ed.cells at hBe
        dsimp only at hBe
        have hni : ∀ b, b < w7.heap.size → b = b13 → ¬ ∃ cs, Blk w7 b 3 cs := fun b _ hb ⟨cs, hc⟩ => Blk.ne_ hc hB137 (by decide) hb
        have n7 : b7 ≠ b13 := by have := hB7'.lt; omega
        have n12 : b12 ≠ b13 := Blk.ne_ hB127 hB137 (by decide)
        have h8c := (h8.out.bel hw7).fr hF hni
        have hB7c := (hB7'.below hw7).fr hF n7
        have hB12c := hB127.fr hF n12
        have hEc := (hE.out.row)
        have hF0 : Fr (fun b => b = b7 ∨ OwnB u6 b) wr wc := (Fr.of_below hw7).call hF (fun i hi h => by omega)
        have hrow : ∀ b, b < wr.heap.size → OwnB u6 b → ∃ cs, Blk wr b 79 cs := fun b hb ho => by
          rcases hE.out.row.2 with ⟨e0, _⟩ | ⟨r, c', cur, e0, h1, h2, _⟩
          · unfold OwnB at ho; rw [e0] at ho; cases ho
          · unfold OwnB at ho
            rw [e0] at ho
            have : r = b := by simpa [Value.ownBlock] using ho
            subst this
            exact ⟨cur, h2⟩
        have hEwc : wc.ownsRow w.heap.size 79 3 u6 j (es.flatMap fun e => e.cells.toList) := own_fr (own_bel hE.out.row hw7) hF (fun b hb hs => by
          rcases Nat.lt_or_ge b wr.heap.size with h1 | h1
          · omega
          · rcases hE.out.row.2 with ⟨e0, _⟩ | ⟨r, c', cur, e0, h3, h2, _⟩
            · rw [e0] at hb; cases hb
            · rw [e0] at hb
              have : r = b := by simpa [Value.ownBlock] using hb
              subst this
              have := (show Blk wr r 79 cur from h2).lt
              omega)
        have H8C := Lib.hid h8c
        have HB7C := Lib.hid hB7c
        have HB12C := Lib.hid hB12c
        have HEW := Lib.hid hEwc
        have HF0 := Lib.hid hF0
        have HROW := Lib.hid hrow
        have hwc : w.heap.size ≤ wc.heap.size := by have h1 := hw7.size; have h2 := hF.size; omega
        have HBE := Lib.hid hBe
        clear h8c hB7c hB12c hEc hEwc hF0 hrow hni n7 n12 hBe0 hBe hB127 hB137 HI7 c4 hfm
        go_upto_if 86 with fail
        go_cut [8] (fun s wx => ∃ (A : Option Addr) (n c : Nat) (l' : List Int), s = .slice A n c ∧ Hid (IntsI wx A n l') ∧ n ≤ 1073741824 ∧ wx = wc)
        case first =>
          by_cases h0 : 0 < N14
          · have p0 : ((0 : Int) < (N14 : Int)) = True := by simp; omega
            go_wp2_with fail
            go_meet
            exact ⟨A14, N14, c14, l14, rfl, hI14, hN14, rfl⟩
          · have p0 : ((0 : Int) < (N14 : Int)) = False := by simp; omega
            go_wp2_with fail
            go_meet
            exact ⟨A8, n8, c8, l8, rfl, H8C, hn8, rfl⟩
        case rest =>
          obtain ⟨A8', n8', c8', l8', rfl, hI8', hn8', rfl⟩ := hcut
          obtain ⟨e0, e1, e2⟩ := cells3 HBE.out
          clear H8C hI14 h8
          go_upto_region 21 with fail
          have hjb : j ≤ 65536 := by omega
          go_wp2_with (at_builtin; refine wpList_append_own_at _ rfl (.tmp 103) (.tmp 105) 76 rfl w.heap.size 79 ie ze 3 40 Tryz.underlying76 HIE.out he0 he1 he2 he3 (by decide) u6 j _ rfl (HEW.out.alloc _) ⟨wc.heap.size, 0, none⟩ 1 1 [.int .i64 ef, .int .i64 et, .slice eA en ec] rfl rfl (cells_new _ _ _) (edit_one _ _ _ _ _) (by unfold maxLen; omega) (by omega) (by simp; omega) ?_)
          intro v1 w10 hown10 hgr _ _
          have hB710 := (HB7C.out.alloc (.cells #[.int .i64 ef, .int .i64 et, .slice eA en ec] 79)).grown hgr (fun e => own_blk_ne (HEW.out.alloc _) (HB7C.out.alloc (.cells #[.int .i64 ef, .int .i64 et, .slice eA en ec] 79)) (by decide) e.symm)
          have hB1210 := (HB12C.out.alloc (.cells #[.int .i64 ef, .int .i64 et, .slice eA en ec] 79)).grown hgr (fun e => own_blk_ne (HEW.out.alloc _) (HB12C.out.alloc (.cells #[.int .i64 ef, .int .i64 et, .slice eA en ec] 79)) (by decide) e.symm)
          have hF10 : Fr (fun b => b = b7 ∨ OwnB u6 b) wc w10 := ((Fr.refl _ wc).alloc _).grown hgr (fun k hk _ => .inr hk)
          obtain ⟨⟨g0, g1, g2, g3⟩, gf0, gf1, gf2, gf3⟩ := jcells4 hB710
          obtain ⟨⟨d0, d1, d2, d3⟩, -⟩ := jcells4 hB1210
          have wi : IntKind.i64.wrap ((i : Int) + 1) = ((i + 1 : Nat) : Int) := by rw [IntWalk.i64_in _ (by omega)]; omega
          have HO10 := Lib.hid hown10
          have HF10 := Lib.hid hF10
          have HB710 := Lib.hid hB710
          clear hown10 hgr hF10 hB710 hB1210 e0 e1 e2
          go_wp2_with fail
          have hFs : Fr (· = b7) w10 ((((w10.setCell ⟨b7, 0, none⟩ (.int .i64 z0)).setCell ⟨b7, 1, none⟩ (.int .i64 z1)).setCell ⟨b7, 2, none⟩ (.int .i64 z2)).setCell ⟨b7, 3, none⟩ (.int .i64 z3)) := ((((Fr.refl _ _).set1 0 _).set1 1 _).set1 2 _).set1 3 _
          have hBs := ((((HB710.out.set_ 0 (.int .i64 z0)).set_ 1 (.int .i64 z1)).set_ 2 (.int .i64 z2)).set_ 3 (.int .i64 z3)).eq_ (show _ = #[.int .i64 z0, .int .i64 z1, .int .i64 z2, .int .i64 z3] by simp)
          have hFc : Fr (fun b => b = b7 ∨ OwnB u6 b) wc ((((w10.setCell ⟨b7, 0, none⟩ (.int .i64 z0)).setCell ⟨b7, 1, none⟩ (.int .i64 z1)).setCell ⟨b7, 2, none⟩ (.int .i64 z2)).setCell ⟨b7, 3, none⟩ (.int .i64 z3)) := HF10.out.call hFs (fun i _ h => .inl h)
          have hFr : Fr (fun b => b = b7 ∨ OwnB u6 b) wr ((((w10.setCell ⟨b7, 0, none⟩ (.int .i64 z0)).setCell ⟨b7, 1, none⟩ (.int .i64 z1)).setCell ⟨b7, 2, none⟩ (.int .i64 z2)).setCell ⟨b7, 3, none⟩ (.int .i64 z3)) := HF0.out.call hFc (fun i _ h => h)
          have hSr : ∀ b, b < wr.heap.size → (b = b7 ∨ OwnB u6 b) → ¬ ∃ cs, Blk wr b 3 cs := fun b hlt hs ⟨cs, hc⟩ => by
            rcases hs with hs | hs
            · exact Blk.ne_ hc hB7' (by decide) hs
            · obtain ⟨cs', hc'⟩ := HROW.out b hlt hs
              exact Blk.ne_ hc hc' (by decide) rfl
          have hSc : ∀ b, b < wc.heap.size → (b = b7 ∨ OwnB u6 b) → ¬ ∃ cs, Blk wc b 3 cs := fun b hlt hs ⟨cs, hc⟩ => by
            rcases hs with hs | hs
            · exact Blk.ne_ hc HB7C.out (by decide) hs
            · exact own_blk_ne HEW.out hc (by decide) hs
          have hbE : Below w.heap.size w ((((w10.setCell ⟨b7, 0, none⟩ (.int .i64 z0)).setCell ⟨b7, 1, none⟩ (.int .i64 z1)).setCell ⟨b7, 2, none⟩ (.int .i64 z2)).setCell ⟨b7, 3, none⟩ (.int .i64 z3)) := bfr hb hFr (fun b hs => by
            rcases hs with hs | hs
            · omega
            · exact own_ge hE.out.row hs)
          have hrow := own_fr' HO10.out hFs (fun b cs hs hc => Blk.ne_ hc HB710.out (by decide) hs)
          go_roundg (l - (f + (j + 1)))
          case measure => omega
          case rel =>
            refine ⟨j + 1, i + 1, es ++ [⟨ef, et, eA, en, ec, eput⟩], A8', n8', c8', l8', _, _, rfl, rfl, rfl, by simp, Lib.hid (by have := hi.out; omega), Lib.hid ⟨?_, by simp [hE.out.len], fun e he => ?_⟩, Lib.hid (hJ.out.snoc (by rw [hE.out.len]; exact hst.out)), Lib.hid (hI8'.out.fr hFc hSc), hn8', Lib.hid ?_, by omega, by omega, hbE⟩
            · rw [List.flatMap_append]
              simpa [Ed.cells] using hrow
            · rcases List.mem_append.1 he with he | he
              · exact (hE.out.put e he).fr hFr hSr
              · simp at he
                subst he
                exact hput.out.fr hFc hSc
            · rw [← Nat.add_assoc, HIJ.out, HL2.out]
              exact hBs
    · have q1 : ((i : Int) ≤ (l : Int)) = False := by simp; omega
      have hjl2 : f + j = l := by omega
      obtain ⟨A6, c6, rfl, hc6⟩ := own_slice hE.out.row
      have hd := HH.out.below hb
      have HJN := Lib.hid (show j = l - f by omega)
      have hnb : nbF 10 = false ∧ nbF 13 = false ∧ nbF 32 = false := ⟨by unfold nbF; rw [word10]; decide, by unfold nbF; rw [word13]; decide, by unfold nbF; rw [word32]; decide⟩
      have hJs := hJ.out
      have hPs := HP.out
      have hSz := HSZ.out
      rw [← HDS.out] at hJs hPs hSz hl hlen hte
      obtain ⟨hz, hpn⟩ := join_ref HH.out.enc4 hPs hSz hlen hnb.1 hnb.2.1 hnb.2.2 (by rw [hE.out.len]; omega) hJs
      have hEd := hE.out.eds
      have hdc := dchange_desk (c := c6) hd HN.out hEd (fun b hb _ => by
        rcases hb.2 with ⟨cs, hb⟩ | ⟨cs, hb⟩
        · exact ⟨_, cs, hb, by decide⟩
        · exact ⟨_, cs, hb, by decide⟩) (by rw [hE.out.len] at hpn; omega) hnn HOM.out hz
      have HDC := Lib.hid hdc
      have HJS := Lib.hid hJs
      obtain ⟨c0, -, -, c3, -⟩ := HBX.out _ hb
      clear hdc hEd hd hz hpn hJs hPs hSz hnb hjl2 hI8 hB73 hb23 hSl hc8
      go_wp2_with fail
      refine (HDC.out).mono ?_
      rintro e w4 ⟨rfl, hd4, hb4⟩
      have y0 := (hb4.blk (HK0.out.below hb) (by decide)).cell 0
      simp at y0
      have hcl := clamp_desk hd4 a
      have hpos := hd4.pos
      have HCL := Lib.hid hcl
      have HD4 := Lib.hid hd4
      have HPOS := Lib.hid hpos
      clear hcl hd4 hpos
      go_wp2_with fail
      refine (HCL.out).mono ?_
      rintro e w5 ⟨jc, rfl, -, hjc, hb5⟩
      have hbd5 := clampV_bd HPOS.out hjc
      rw [sizedA_len] at hbd5
      have HBD5 := Lib.hid hbd5
      clear hbd5
      go_wp2_with fail
      go_ret
      exact ⟨es, _, HJS.out, by rw [hE.out.len]; exact HJN.out, HBD5.out, rfl, HD4.out.below hb5, ((BkFr.below hb).trans hb4).trans (BkFr.below hb5)⟩
end Go.Proofs.YteekabaoocaghaaGreat
namespace Go.Proofs.YteekabaoocaghaaGreat
open Go.RowKit

theorem jes_chg {nb : Int → Bool} {bare : Bool} {ds : List (Int × Int)} (hp : PosD ds) {k : Nat} {es : List Ed} (hj : JEs nb bare ds k es) (h0 : 0 < es.length) (hk : k < totE ds) : es.any chg = true := by
  rw [List.any_eq_true]
  refine ⟨es[0], List.getElem_mem _, ?_⟩
  obtain ⟨h1, n, h2, _⟩ := hj 0 es[0] (List.getElem?_eq_getElem h0)
  have h3 := (line_form hp (i := k) (by omega)).2.2 hk
  simp only [Nat.add_zero] at h1 h2
  unfold chg
  simp only [Bool.or_eq_true, decide_eq_true_eq]
  left
  omega
def JoinAct (nb : Int → Bool) (bare : Bool) (enc : Int) (st : BkS) (n f l : Nat) (c : Int) (x : Int) (ats' : List (Int × Int)) (o' : OpS) (n' : Nat) : Prop :=
  ∃ es : List Ed, JEs nb bare (sizedA enc st.ats) f es ∧ es.length = l - f ∧ ats' = edA es st.ats ∧ o' = ⟨st.ats, c, [es.map mvOf], st.state, true⟩ ∧ n' = n + 131072 ∧ 0 ≤ x ∧ x ≤ (ats'.length : Int)
/-- a book behind a join -/
def joinS (st : BkS) (es : List Ed) (c x : Int) : BkS :=
  { st with ats := edA es st.ats, now := none, undo := st.undo ++ [⟨st.ats, edA es st.ats, c, x, [es.map mvOf], st.state, st.last + 1⟩], redo := [], state := st.last + 1, last := st.last + 1 }
def JoinPost (B gd gb g : Nat) (enc lim : Int) (n : Nat) (st : BkS) (dc : Array Value) (nb : Int → Bool) (bare : Bool) (f l : Nat) (w : World) (e : Ending) (w' : World) : Prop :=
  e = .returned (.int .i64 0) ∧ ∃ (es : List Ed) (c x : Int), JEs nb bare (sizedA enc st.ats) f es ∧ es.length = l - f ∧ (0 ≤ x ∧ x ≤ ((edA es st.ats).length : Int)) ∧
    DeskIs w' B gd gb g enc lim (n + 131072) (joinS st es c x) (dc.setIfInBounds 2 (.int .i64 x)) ∧ DFr B (· = gd) w w'
theorem join_work (B gd gb g n b0 b1 b2 b3 b4 f l : Nat) (enc lim c : Int) (st : BkS) (dc : Array Value) (bare : Bool) (w : World) (h : DeskIs w B gd gb g enc lim n st dc) (hn : st.now = none) (hdz : dc.size = 10)
    (k0 : Blk w b0 25 #[.pointer (some ⟨gd, 0, none⟩)]) (k1 : Blk w b1 3 #[.int .i64 (f : Int)]) (k2 : Blk w b2 32 #[.pointer (some ⟨g, 0, none⟩)]) (k3 : Blk w b3 3 #[.int .i64 (l : Int)]) (k4 : Blk w b4 4 #[.bool bare])
    (hfl : f < l) (hl : l ≤ totE (sizedA enc st.ats)) (hsz : szS (sizedA enc st.ats) ≤ lim) (hnn : n + 131072 ≤ 1073741824) (hud : (st.undo.length : Int) < st.depth) (hla : st.last < 1073741824) (hc : 0 ≤ c ∧ c ≤ (st.ats.length : Int)) :
    Calls Tryz.prog 27 #[.pointer (some ⟨gd, 0, none⟩), .int .i64 c, .func (.func 29) #[] #[.pointer (some ⟨b0, 0, none⟩), .pointer (some ⟨b1, 0, none⟩), .pointer (some ⟨b2, 0, none⟩), .pointer (some ⟨b3, 0, none⟩), .pointer (some ⟨b4, 0, none⟩)]] w (JoinPost B gd gb g enc lim n st dc nbF bare f l w) := by
  refine (work_ok B gd gb g n enc lim c st dc _ _ (fun _ => False) (JoinAct nbF bare enc st n f l c) w h hn hc hdz Tryz.call29 (fun _ hx => hx.elim) (fun w1 hd1 hf1 => ?_) (fun at' ats' o' n' ha => ?_)).mono ?_
  · refine (join1_any B gd gb g n b0 b1 b2 b3 b4 f l enc lim { st with now := some ⟨st.ats, c, [], st.state, false⟩ } ⟨st.ats, c, [], st.state, false⟩ dc bare w1 hd1 rfl (by simp) (hf1.blk k0 (by decide) (fun hx => hx)) (hf1.blk k1 (by decide) (fun hx => hx)) (hf1.blk k2 (by decide) (fun hx => hx)) (hf1.blk k3 (by decide) (fun hx => hx)) (hf1.blk k4 (by decide) (fun hx => hx)) hfl hl hsz hnn).mono ?_
    rintro e w2 ⟨es, x, hj, hlen, hx, rfl, hd2, hf2⟩
    have hch : es.any chg = true := jes_chg h.pos hj (by omega) (by omega)
    refine ⟨x, edA es st.ats, ⟨st.ats, c, [es.map mvOf], st.state, true⟩, n + 131072, ⟨es, hj, hlen, rfl, rfl, rfl, hx.1, hx.2⟩, rfl, ?_, DFr.of_bk hf2⟩
    rw [hch] at hd2
    exact hd2
  · obtain ⟨es, _, _, rfl, rfl, rfl, h1, h2⟩ := ha
    exact ⟨⟨h1, h2⟩, fun _ => ⟨hud, hla⟩⟩
  · rintro e w2 ⟨rfl, at', ats', o', n', ⟨es, hj, hlen, rfl, rfl, rfl, h1, h2⟩, hd, hf⟩
    exact ⟨rfl, es, c, at', hj, hlen, ⟨h1, h2⟩, hd, hf.wide (Nat.le_refl _) (fun b _ hb => hb.resolve_left (fun h => h))⟩
set_option maxRecDepth 100000 in
set_option maxHeartbeats 8000000 in
theorem djoin_any (B gd gb g n f l : Nat) (enc lim at_ : Int) (st : BkS) (dc : Array Value) (bare : Bool) (w : World) (h : DeskIs w B gd gb g enc lim n st dc) (hn : st.now = none) (hdz : dc.size = 10) (h2 : dc[2]? = some (.int .i64 at_))
    (hfl : f < l) (hl : l < countF (sizedA enc st.ats)) (hsz : szS (sizedA enc st.ats) ≤ lim) (hnn : n + 131072 ≤ 1073741824) (hud : (st.undo.length : Int) < st.depth) (hla : st.last < 1073741824) :
    Calls Tryz.prog 10 #[.pointer (some ⟨gd, 0, none⟩), .int .i64 (f : Int), .int .i64 (l : Int), .bool bare] w (JoinPost B gd gb g enc lim n st dc nbF bare f l w) := by
  have hmf : ∀ (fn : Fn) (first cap : Array Value) (w : World), (Instr.makeFunc fn first cap).run Tryz.prog w = .ok (.func fn first cap) w := fun _ _ _ _ => rfl
  have hcp := @countF_pos (sizedA enc st.ats)
  have hlt : l ≤ totE (sizedA enc st.ats) := by omega
  have hte : totE (sizedA enc st.ats) ≤ 65536 := Nat.le_trans (cntE_le _ _) (by have := h.len; rw [sizedA_len]; exact this)
  have hw4 : Below w.heap.size w ((((w.alloc (.cells #[.pointer (some ⟨gd, 0, none⟩)] 25)).alloc (.cells #[.int .i64 (f : Int)] 3)).alloc (.cells #[.int .i64 (l : Int)] 3)).alloc (.cells #[.bool bare] 4)) := balloc (balloc (balloc (balloc (Below.refl _ _))))
  have b0 : Blk ((((w.alloc (.cells #[.pointer (some ⟨gd, 0, none⟩)] 25)).alloc (.cells #[.int .i64 (f : Int)] 3)).alloc (.cells #[.int .i64 (l : Int)] 3)).alloc (.cells #[.bool bare] 4)) w.heap.size 25 #[.pointer (some ⟨gd, 0, none⟩)] := (((Blk.new w _ _).alloc _).alloc _).alloc _
  have b1 : Blk ((((w.alloc (.cells #[.pointer (some ⟨gd, 0, none⟩)] 25)).alloc (.cells #[.int .i64 (f : Int)] 3)).alloc (.cells #[.int .i64 (l : Int)] 3)).alloc (.cells #[.bool bare] 4)) (w.heap.size + 1) 3 #[.int .i64 (f : Int)] := ((Blk.new' (by simp)).alloc _).alloc _
  have b3 : Blk ((((w.alloc (.cells #[.pointer (some ⟨gd, 0, none⟩)] 25)).alloc (.cells #[.int .i64 (f : Int)] 3)).alloc (.cells #[.int .i64 (l : Int)] 3)).alloc (.cells #[.bool bare] 4)) (w.heap.size + 1 + 1) 3 #[.int .i64 (l : Int)] := (Blk.new' (by simp)).alloc _
  have b4 : Blk ((((w.alloc (.cells #[.pointer (some ⟨gd, 0, none⟩)] 25)).alloc (.cells #[.int .i64 (f : Int)] 3)).alloc (.cells #[.int .i64 (l : Int)] 3)).alloc (.cells #[.bool bare] 4)) (w.heap.size + 1 + 1 + 1) 4 #[.bool bare] := Blk.new' (by simp)
  have c0 := b0.cell 0
  simp only [List.getElem?_toArray, List.getElem?_cons_zero] at c0
  have HTX := Lib.hid (text_desk (h.below hw4))
  have HH := Lib.hid h
  go_enter Tryz.func10, Tryz.ntmps10
  go_wp2_with fail
  obtain ⟨w4, hw40⟩ : ∃ x', ((((w.alloc (.cells #[.pointer (some ⟨gd, 0, none⟩)] 25)).alloc (.cells #[.int .i64 (f : Int)] 3)).alloc (.cells #[.int .i64 (l : Int)] 3)).alloc (.cells #[.bool bare] 4)) = x' := ⟨_, rfl⟩
  rw [hw40] at HTX hw4 b0 b1 b3 b4 c0 ⊢
  clear hw40 h
  refine (HTX.out).mono ?_
  rintro e wz ⟨rfl, rfl⟩
  go_upto_region 2 with fail
  have hw5 : Below w.heap.size w (w4.alloc (.cells #[.pointer (some ⟨g, 0, none⟩)] 32)) := balloc hw4
  have b2 := Blk.new w4 32 #[.pointer (some ⟨g, 0, none⟩)]
  have b01 := b0.alloc (.cells #[.pointer (some ⟨g, 0, none⟩)] 32)
  have b11 := b1.alloc (.cells #[.pointer (some ⟨g, 0, none⟩)] 32)
  have b31 := b3.alloc (.cells #[.pointer (some ⟨g, 0, none⟩)] 32)
  have b41 := b4.alloc (.cells #[.pointer (some ⟨g, 0, none⟩)] 32)
  obtain ⟨b9, hb9⟩ : ∃ x', w4.heap.size = x' := ⟨_, rfl⟩
  obtain ⟨w5, hw50⟩ : ∃ x', w4.alloc (.cells #[.pointer (some ⟨g, 0, none⟩)] 32) = x' := ⟨_, rfl⟩
  rw [hb9] at b2 ⊢
  rw [hw50] at hw5 b2 b01 b11 b31 b41 ⊢
  clear hw50 hb9 b0 b1 b3 b4 c0 hw4 HTX
  have hBX : ∀ w', Below w5.heap.size w5 w' → w'.cell? ⟨w.heap.size, 0, none⟩ = some (.pointer (some ⟨gd, 0, none⟩)) ∧ w'.cell? ⟨w.heap.size + 1, 0, none⟩ = some (.int .i64 (f : Int)) ∧ w'.cell? ⟨w.heap.size + 1 + 1, 0, none⟩ = some (.int .i64 (l : Int)) ∧ w'.cell? ⟨b9, 0, none⟩ = some (.pointer (some ⟨g, 0, none⟩)) := fun w' hb =>
    ⟨(b01.below hb).cell 0, (b11.below hb).cell 0, (b31.below hb).cell 0, (b2.below hb).cell 0⟩
  have HBX := Lib.hid hBX
  have HCN := Lib.hid (fun (w' : World) (hb : Below w5.heap.size w5 w') => count_line Any g enc (sizedA enc st.ats) w' (HH.out.below (bseq hw5 hb)).at_)
  obtain ⟨M, hM⟩ : ∃ M, countF (sizedA enc st.ats) = M := ⟨_, rfl⟩
  rw [hM] at HCN hl hcp
  have HB := Lib.hid (And.intro b01 (And.intro b11 (And.intro b2 (And.intro b31 b41))))
  clear hBX hM b01 b11 b2 b31 b41
  have p1 : ((f : Int) < 0) = False := by simp
  have p2 : ((l : Int) < (f : Int)) = False := by simp; omega
  have p3 : ((M : Int) ≤ (l : Int)) = False := by simp; omega
  refine wp_region_steady (fun w' => Below w5.heap.size w5 w') (by kernel_rfl) (by kernel_rfl) (Below.drew (Below.refl _ _)) ?_
  repeat (first
    | (refine wpSt_read (v := ?_) (by rfl) (fun w6 hSw => ?_) ?_; rotate_left; (· (obtain ⟨y0, y1, y3, y2⟩ := HBX.out _ hSw; go_simp; first | done | with_reducible rfl)); (try simp only [Act.put, List.setIfInBounds_toArray, List.set_cons_zero, List.set_cons_succ]))
    | (refine wpSt_not (by rfl) ?_; (try simp only [Act.put, List.setIfInBounds_toArray, List.set_cons_zero, List.set_cons_succ]))
    | (refine wpSt_call (f := ?_) (args := ?_) (v := .int .i64 (M : Int)) (by rfl) (fun w6 hSw => ?_) (fun w6 hSw => ?_) ?_; rotate_left 2; (· (obtain ⟨y0, y1, y3, y2⟩ := HBX.out _ hSw; go_simp; first | done | (constructor <;> with_reducible rfl) | with_reducible rfl)); (· (refine (HCN.out _ hSw).mono ?_; rintro e w6 ⟨rfl, hb6⟩; exact ⟨rfl, bseq hSw hb6⟩)); (try simp only [Act.put, List.setIfInBounds_toArray, List.set_cons_zero, List.set_cons_succ])))
  refine wpSt_nil ?_
  intro w6 hb6
  have p4 : ((f : Int) == (l : Int)) = false := by rw [beq_eq_false_iff_ne]; omega
  obtain ⟨y0, y1, y3, y2⟩ := HBX.out _ hb6
  go_wp2_with fail
  clear y0 y1 y3 y2 p1 p2 p3 p4
  have hw6 := bseq hw5 hb6
  have hBD : ∀ w', Below w6.heap.size w6 w' → w'.cell? ⟨w.heap.size, 0, none⟩ = some (.pointer (some ⟨gd, 0, none⟩)) ∧ w'.cell? ⟨gd, 2, none⟩ = some (.int .i64 at_) := fun w' hb =>
    ⟨(HBX.out _ (bseq hb6 hb)).1, ((HH.out.below (bseq hw6 hb)).desk.cell 2).trans h2⟩
  have HBD := Lib.hid hBD
  have HCL := Lib.hid (fun (w' : World) (hb : Below w6.heap.size w6 w') => clamp_desk (HH.out.below (bseq hw6 hb)) at_)
  have HPOS := Lib.hid HH.out.pos
  obtain ⟨k0, k1, k2, k3, k4⟩ := HB.out
  have HWK := Lib.hid (fun (w' : World) (hb : Below w6.heap.size w6 w') (c : Int) (hc : 0 ≤ c ∧ c ≤ (st.ats.length : Int)) =>
    join_work B gd gb g n w.heap.size (w.heap.size + 1) b9 (w.heap.size + 1 + 1) (w.heap.size + 1 + 1 + 1) f l enc lim c st dc bare w' (HH.out.below (bseq hw6 hb)) hn hdz (k0.below (bseq hb6 hb)) (k1.below (bseq hb6 hb)) (k2.below (bseq hb6 hb)) (k3.below (bseq hb6 hb)) (k4.below (bseq hb6 hb)) hfl hlt hsz hnn hud hla hc)
  clear hBD k0 k1 k2 k3 k4 HBX HCN HB hn h2 hdz
  refine wp_region_lin (fun w' => Below w6.heap.size w6 w') (fun w' => Below w6.heap.size w6 w') (fun k => k == 6 || k == 8) (fun k => k == 8) (fun k => k == 9) (by kernel_rfl) (by kernel_rfl) (Below.drew (Below.refl _ _)) (fun _ h => h) ?_
  repeat (first
    | (refine wpL_read (v := ?_) (by rfl) (by rfl) (fun w6 hSw => ?_) ?_; rotate_left; (· (obtain ⟨y0, y2⟩ := HBD.out _ hSw; go_simp; first | done | with_reducible rfl)); (try simp only [Act.put, List.setIfInBounds_toArray, List.set_cons_zero, List.set_cons_succ]))
    | (refine wpL_free (v := ?_) (by rfl) (fun w6 => ?_) ?_; rotate_left; (· (go_simp; first | done | with_reducible rfl)); (try simp only [Act.put, List.setIfInBounds_toArray, List.set_cons_zero, List.set_cons_succ]))
    | (refine wpL_not (by rfl) ?_; (try simp only [Act.put, List.setIfInBounds_toArray, List.set_cons_zero, List.set_cons_succ])))
  refine wpL_call (f := ?_) (args := ?_) (fun v w' => (∃ x : Int, v = .int .i64 x ∧ 0 ≤ x ∧ x ≤ (st.ats.length : Int)) ∧ Below w6.heap.size w6 w') (by rfl) (by rfl) (fun w6 hSw => ?_) (fun w6 hSw => ?_) (.inr (fun v6 w6 hT6 => ?_)) (fun v6 hv6 => ?_)
  rotate_left 2
  · (skip; go_simp; first | done | (constructor <;> with_reducible rfl) | with_reducible rfl)
  · (refine (HCL.out _ hSw).mono ?_; rintro e w' ⟨jc, rfl, -, hjc, hb⟩; have hbd := clampV_bd HPOS.out hjc; rw [sizedA_len] at hbd; exact ⟨_, rfl, ⟨_, rfl, hbd.1, hbd.2⟩, bseq hSw hb⟩)
  · (exact hT6.2)
  obtain ⟨wz, ⟨x, rfl, hx0, hx1⟩, -⟩ := hv6
  (try simp only [Act.put, List.setIfInBounds_toArray, List.set_cons_zero, List.set_cons_succ])
  repeat (first
    | (refine wpL_read (v := ?_) (by rfl) (by rfl) (fun w6 hSw => ?_) ?_; rotate_left; (· (obtain ⟨y0, y2⟩ := HBD.out _ hSw; go_simp; first | done | with_reducible rfl)); (try simp only [Act.put, List.setIfInBounds_toArray, List.set_cons_zero, List.set_cons_succ]))
    | (refine wpL_free (v := ?_) (by rfl) (fun w6 => ?_) ?_; rotate_left; (· (go_simp; first | done | with_reducible rfl)); (try simp only [Act.put, List.setIfInBounds_toArray, List.set_cons_zero, List.set_cons_succ]))
    | (refine wpL_not (by rfl) ?_; (try simp only [Act.put, List.setIfInBounds_toArray, List.set_cons_zero, List.set_cons_succ])))
  refine wpL_call (f := ?_) (args := ?_) (fun v w' => v = .int .i64 0 ∧ JoinPost B gd gb g enc lim n st dc nbF bare f l w (.returned (.int .i64 0)) w') (by rfl) (by rfl) (fun w6 hSw => ?_) (fun w6 hSw => ?_) (.inl (by rfl)) (fun v6 hv6 => ?_)
  rotate_left 2
  · (skip; go_simp; first | done | (constructor <;> with_reducible rfl) | with_reducible rfl)
  · (refine (HWK.out _ hSw.2 x ⟨hx0, hx1⟩).mono ?_; rintro e w' ⟨rfl, es, c, x', h1, h2, h3, h4, h5⟩; exact ⟨_, rfl, rfl, rfl, es, c, x', h1, h2, h3, h4, (DFr.of_below (bseq hw6 hSw.2)).trans h5⟩)
  obtain ⟨wz, rfl, -⟩ := hv6
  (try simp only [Act.put, List.setIfInBounds_toArray, List.set_cons_zero, List.set_cons_succ])
  repeat (first
    | (refine wpL_read (v := ?_) (by rfl) (by rfl) (fun w6 hSw => ?_) ?_; rotate_left; (· (obtain ⟨y0, y2⟩ := HBD.out _ hSw; go_simp; first | done | with_reducible rfl)); (try simp only [Act.put, List.setIfInBounds_toArray, List.set_cons_zero, List.set_cons_succ]))
    | (refine wpL_free (v := ?_) (by rfl) (fun w6 => ?_) ?_; rotate_left; (· (go_simp; first | done | with_reducible rfl)); (try simp only [Act.put, List.setIfInBounds_toArray, List.set_cons_zero, List.set_cons_succ]))
    | (refine wpL_not (by rfl) ?_; (try simp only [Act.put, List.setIfInBounds_toArray, List.set_cons_zero, List.set_cons_succ])))
  refine wpL_nil ?_
  rintro w7 ⟨-, hp⟩
  have HP := Lib.hid hp
  clear hp
  go_wp2_with fail
  go_ret
  exact HP.out
set_option maxRecDepth 100000 in
set_option maxHeartbeats 8000000 in
theorem djoin_same (B gd gb g n f l : Nat) (enc lim : Int) (st : BkS) (dc : Array Value) (bare : Bool) (w : World) (h : DeskIs w B gd gb g enc lim n st dc) (hfl1 : f ≤ l) (hfl2 : l ≤ f) (hl : l < countF (sizedA enc st.ats)) :
    Calls Tryz.prog 10 #[.pointer (some ⟨gd, 0, none⟩), .int .i64 (f : Int), .int .i64 (l : Int), .bool bare] w fun e w' => e = .returned (.int .i64 120) ∧ Below w.heap.size w w' := by
  have hmf : ∀ (fn : Fn) (first cap : Array Value) (w : World), (Instr.makeFunc fn first cap).run Tryz.prog w = .ok (.func fn first cap) w := fun _ _ _ _ => rfl
  have hcp := @countF_pos (sizedA enc st.ats)
  have hw4 : Below w.heap.size w ((((w.alloc (.cells #[.pointer (some ⟨gd, 0, none⟩)] 25)).alloc (.cells #[.int .i64 (f : Int)] 3)).alloc (.cells #[.int .i64 (l : Int)] 3)).alloc (.cells #[.bool bare] 4)) := balloc (balloc (balloc (balloc (Below.refl _ _))))
  have b0 : Blk ((((w.alloc (.cells #[.pointer (some ⟨gd, 0, none⟩)] 25)).alloc (.cells #[.int .i64 (f : Int)] 3)).alloc (.cells #[.int .i64 (l : Int)] 3)).alloc (.cells #[.bool bare] 4)) w.heap.size 25 #[.pointer (some ⟨gd, 0, none⟩)] := (((Blk.new w _ _).alloc _).alloc _).alloc _
  have b1 : Blk ((((w.alloc (.cells #[.pointer (some ⟨gd, 0, none⟩)] 25)).alloc (.cells #[.int .i64 (f : Int)] 3)).alloc (.cells #[.int .i64 (l : Int)] 3)).alloc (.cells #[.bool bare] 4)) (w.heap.size + 1) 3 #[.int .i64 (f : Int)] := ((Blk.new' (by simp)).alloc _).alloc _
  have b3 : Blk ((((w.alloc (.cells #[.pointer (some ⟨gd, 0, none⟩)] 25)).alloc (.cells #[.int .i64 (f : Int)] 3)).alloc (.cells #[.int .i64 (l : Int)] 3)).alloc (.cells #[.bool bare] 4)) (w.heap.size + 1 + 1) 3 #[.int .i64 (l : Int)] := (Blk.new' (by simp)).alloc _
  have b4 : Blk ((((w.alloc (.cells #[.pointer (some ⟨gd, 0, none⟩)] 25)).alloc (.cells #[.int .i64 (f : Int)] 3)).alloc (.cells #[.int .i64 (l : Int)] 3)).alloc (.cells #[.bool bare] 4)) (w.heap.size + 1 + 1 + 1) 4 #[.bool bare] := Blk.new' (by simp)
  have c0 := b0.cell 0
  simp only [List.getElem?_toArray, List.getElem?_cons_zero] at c0
  have HTX := Lib.hid (text_desk (h.below hw4))
  have HH := Lib.hid h
  go_enter Tryz.func10, Tryz.ntmps10
  go_wp2_with fail
  obtain ⟨w4, hw40⟩ : ∃ x', ((((w.alloc (.cells #[.pointer (some ⟨gd, 0, none⟩)] 25)).alloc (.cells #[.int .i64 (f : Int)] 3)).alloc (.cells #[.int .i64 (l : Int)] 3)).alloc (.cells #[.bool bare] 4)) = x' := ⟨_, rfl⟩
  rw [hw40] at HTX hw4 b0 b1 b3 b4 c0 ⊢
  clear hw40 h
  refine (HTX.out).mono ?_
  rintro e wz ⟨rfl, rfl⟩
  go_upto_region 2 with fail
  have hw5 : Below w.heap.size w (w4.alloc (.cells #[.pointer (some ⟨g, 0, none⟩)] 32)) := balloc hw4
  have b2 := Blk.new w4 32 #[.pointer (some ⟨g, 0, none⟩)]
  have b01 := b0.alloc (.cells #[.pointer (some ⟨g, 0, none⟩)] 32)
  have b11 := b1.alloc (.cells #[.pointer (some ⟨g, 0, none⟩)] 32)
  have b31 := b3.alloc (.cells #[.pointer (some ⟨g, 0, none⟩)] 32)
  have b41 := b4.alloc (.cells #[.pointer (some ⟨g, 0, none⟩)] 32)
  obtain ⟨b9, hb9⟩ : ∃ x', w4.heap.size = x' := ⟨_, rfl⟩
  obtain ⟨w5, hw50⟩ : ∃ x', w4.alloc (.cells #[.pointer (some ⟨g, 0, none⟩)] 32) = x' := ⟨_, rfl⟩
  rw [hb9] at b2 ⊢
  rw [hw50] at hw5 b2 b01 b11 b31 b41 ⊢
  clear hw50 hb9 b0 b1 b3 b4 c0 hw4 HTX
  have hBX : ∀ w', Below w5.heap.size w5 w' → w'.cell? ⟨w.heap.size, 0, none⟩ = some (.pointer (some ⟨gd, 0, none⟩)) ∧ w'.cell? ⟨w.heap.size + 1, 0, none⟩ = some (.int .i64 (f : Int)) ∧ w'.cell? ⟨w.heap.size + 1 + 1, 0, none⟩ = some (.int .i64 (l : Int)) ∧ w'.cell? ⟨b9, 0, none⟩ = some (.pointer (some ⟨g, 0, none⟩)) := fun w' hb =>
    ⟨(b01.below hb).cell 0, (b11.below hb).cell 0, (b31.below hb).cell 0, (b2.below hb).cell 0⟩
  have HBX := Lib.hid hBX
  have HCN := Lib.hid (fun (w' : World) (hb : Below w5.heap.size w5 w') => count_line Any g enc (sizedA enc st.ats) w' (HH.out.below (bseq hw5 hb)).at_)
  obtain ⟨M, hM⟩ : ∃ M, countF (sizedA enc st.ats) = M := ⟨_, rfl⟩
  rw [hM] at HCN hl hcp
  have HB := Lib.hid (And.intro b01 (And.intro b11 (And.intro b2 (And.intro b31 b41))))
  clear hBX hM b01 b11 b2 b31 b41
  have p1 : ((f : Int) < 0) = False := by simp
  have p2 : ((l : Int) < (f : Int)) = False := by simp; omega
  have p3 : ((M : Int) ≤ (l : Int)) = False := by simp; omega
  refine wp_region_steady (fun w' => Below w5.heap.size w5 w') (by kernel_rfl) (by kernel_rfl) (Below.drew (Below.refl _ _)) ?_
  repeat (first
    | (refine wpSt_read (v := ?_) (by rfl) (fun w6 hSw => ?_) ?_; rotate_left; (· (obtain ⟨y0, y1, y3, y2⟩ := HBX.out _ hSw; go_simp; first | done | with_reducible rfl)); (try simp only [Act.put, List.setIfInBounds_toArray, List.set_cons_zero, List.set_cons_succ]))
    | (refine wpSt_not (by rfl) ?_; (try simp only [Act.put, List.setIfInBounds_toArray, List.set_cons_zero, List.set_cons_succ]))
    | (refine wpSt_call (f := ?_) (args := ?_) (v := .int .i64 (M : Int)) (by rfl) (fun w6 hSw => ?_) (fun w6 hSw => ?_) ?_; rotate_left 2; (· (obtain ⟨y0, y1, y3, y2⟩ := HBX.out _ hSw; go_simp; first | done | (constructor <;> with_reducible rfl) | with_reducible rfl)); (· (refine (HCN.out _ hSw).mono ?_; rintro e w6 ⟨rfl, hb6⟩; exact ⟨rfl, bseq hSw hb6⟩)); (try simp only [Act.put, List.setIfInBounds_toArray, List.set_cons_zero, List.set_cons_succ])))
  refine wpSt_nil ?_
  intro w6 hb6
  have p4 : ((f : Int) == (l : Int)) = true := by rw [beq_iff_eq]; omega
  obtain ⟨y0, y1, y3, y2⟩ := HBX.out _ hb6
  go_wp2_with fail
  go_ret
  exact ⟨rfl, bseq hw5 hb6⟩
set_option maxRecDepth 100000 in
set_option maxHeartbeats 8000000 in
theorem djoin_over (B gd gb g n f l : Nat) (enc lim : Int) (st : BkS) (dc : Array Value) (bare : Bool) (w : World) (h : DeskIs w B gd gb g enc lim n st dc) (hfl : f ≤ l) (hl : countF (sizedA enc st.ats) ≤ l) :
    Calls Tryz.prog 10 #[.pointer (some ⟨gd, 0, none⟩), .int .i64 (f : Int), .int .i64 (l : Int), .bool bare] w fun e w' => e = .returned (.int .i64 2) ∧ Below w.heap.size w w' := by
  have hmf : ∀ (fn : Fn) (first cap : Array Value) (w : World), (Instr.makeFunc fn first cap).run Tryz.prog w = .ok (.func fn first cap) w := fun _ _ _ _ => rfl
  have hcp := @countF_pos (sizedA enc st.ats)
  have hw4 : Below w.heap.size w ((((w.alloc (.cells #[.pointer (some ⟨gd, 0, none⟩)] 25)).alloc (.cells #[.int .i64 (f : Int)] 3)).alloc (.cells #[.int .i64 (l : Int)] 3)).alloc (.cells #[.bool bare] 4)) := balloc (balloc (balloc (balloc (Below.refl _ _))))
  have b0 : Blk ((((w.alloc (.cells #[.pointer (some ⟨gd, 0, none⟩)] 25)).alloc (.cells #[.int .i64 (f : Int)] 3)).alloc (.cells #[.int .i64 (l : Int)] 3)).alloc (.cells #[.bool bare] 4)) w.heap.size 25 #[.pointer (some ⟨gd, 0, none⟩)] := (((Blk.new w _ _).alloc _).alloc _).alloc _
  have b1 : Blk ((((w.alloc (.cells #[.pointer (some ⟨gd, 0, none⟩)] 25)).alloc (.cells #[.int .i64 (f : Int)] 3)).alloc (.cells #[.int .i64 (l : Int)] 3)).alloc (.cells #[.bool bare] 4)) (w.heap.size + 1) 3 #[.int .i64 (f : Int)] := ((Blk.new' (by simp)).alloc _).alloc _
  have b3 : Blk ((((w.alloc (.cells #[.pointer (some ⟨gd, 0, none⟩)] 25)).alloc (.cells #[.int .i64 (f : Int)] 3)).alloc (.cells #[.int .i64 (l : Int)] 3)).alloc (.cells #[.bool bare] 4)) (w.heap.size + 1 + 1) 3 #[.int .i64 (l : Int)] := (Blk.new' (by simp)).alloc _
  have b4 : Blk ((((w.alloc (.cells #[.pointer (some ⟨gd, 0, none⟩)] 25)).alloc (.cells #[.int .i64 (f : Int)] 3)).alloc (.cells #[.int .i64 (l : Int)] 3)).alloc (.cells #[.bool bare] 4)) (w.heap.size + 1 + 1 + 1) 4 #[.bool bare] := Blk.new' (by simp)
  have c0 := b0.cell 0
  simp only [List.getElem?_toArray, List.getElem?_cons_zero] at c0
  have HTX := Lib.hid (text_desk (h.below hw4))
  have HH := Lib.hid h
  go_enter Tryz.func10, Tryz.ntmps10
  go_wp2_with fail
  obtain ⟨w4, hw40⟩ : ∃ x', ((((w.alloc (.cells #[.pointer (some ⟨gd, 0, none⟩)] 25)).alloc (.cells #[.int .i64 (f : Int)] 3)).alloc (.cells #[.int .i64 (l : Int)] 3)).alloc (.cells #[.bool bare] 4)) = x' := ⟨_, rfl⟩
  rw [hw40] at HTX hw4 b0 b1 b3 b4 c0 ⊢
  clear hw40 h
  refine (HTX.out).mono ?_
  rintro e wz ⟨rfl, rfl⟩
  go_upto_region 2 with fail
  have hw5 : Below w.heap.size w (w4.alloc (.cells #[.pointer (some ⟨g, 0, none⟩)] 32)) := balloc hw4
  have b2 := Blk.new w4 32 #[.pointer (some ⟨g, 0, none⟩)]
  have b01 := b0.alloc (.cells #[.pointer (some ⟨g, 0, none⟩)] 32)
  have b11 := b1.alloc (.cells #[.pointer (some ⟨g, 0, none⟩)] 32)
  have b31 := b3.alloc (.cells #[.pointer (some ⟨g, 0, none⟩)] 32)
  have b41 := b4.alloc (.cells #[.pointer (some ⟨g, 0, none⟩)] 32)
  obtain ⟨b9, hb9⟩ : ∃ x', w4.heap.size = x' := ⟨_, rfl⟩
  obtain ⟨w5, hw50⟩ : ∃ x', w4.alloc (.cells #[.pointer (some ⟨g, 0, none⟩)] 32) = x' := ⟨_, rfl⟩
  rw [hb9] at b2 ⊢
  rw [hw50] at hw5 b2 b01 b11 b31 b41 ⊢
  clear hw50 hb9 b0 b1 b3 b4 c0 hw4 HTX
  have hBX : ∀ w', Below w5.heap.size w5 w' → w'.cell? ⟨w.heap.size, 0, none⟩ = some (.pointer (some ⟨gd, 0, none⟩)) ∧ w'.cell? ⟨w.heap.size + 1, 0, none⟩ = some (.int .i64 (f : Int)) ∧ w'.cell? ⟨w.heap.size + 1 + 1, 0, none⟩ = some (.int .i64 (l : Int)) ∧ w'.cell? ⟨b9, 0, none⟩ = some (.pointer (some ⟨g, 0, none⟩)) := fun w' hb =>
    ⟨(b01.below hb).cell 0, (b11.below hb).cell 0, (b31.below hb).cell 0, (b2.below hb).cell 0⟩
  have HBX := Lib.hid hBX
  have HCN := Lib.hid (fun (w' : World) (hb : Below w5.heap.size w5 w') => count_line Any g enc (sizedA enc st.ats) w' (HH.out.below (bseq hw5 hb)).at_)
  obtain ⟨M, hM⟩ : ∃ M, countF (sizedA enc st.ats) = M := ⟨_, rfl⟩
  rw [hM] at HCN hl hcp
  have HB := Lib.hid (And.intro b01 (And.intro b11 (And.intro b2 (And.intro b31 b41))))
  clear hBX hM b01 b11 b2 b31 b41
  have p1 : ((f : Int) < 0) = False := by simp
  have p2 : ((l : Int) < (f : Int)) = False := by simp; omega
  have p3 : ((M : Int) ≤ (l : Int)) = True := by simp; omega
  refine wp_region_steady (fun w' => Below w5.heap.size w5 w') (by kernel_rfl) (by kernel_rfl) (Below.drew (Below.refl _ _)) ?_
  repeat (first
    | (refine wpSt_read (v := ?_) (by rfl) (fun w6 hSw => ?_) ?_; rotate_left; (· (obtain ⟨y0, y1, y3, y2⟩ := HBX.out _ hSw; go_simp; first | done | with_reducible rfl)); (try simp only [Act.put, List.setIfInBounds_toArray, List.set_cons_zero, List.set_cons_succ]))
    | (refine wpSt_not (by rfl) ?_; (try simp only [Act.put, List.setIfInBounds_toArray, List.set_cons_zero, List.set_cons_succ]))
    | (refine wpSt_call (f := ?_) (args := ?_) (v := .int .i64 (M : Int)) (by rfl) (fun w6 hSw => ?_) (fun w6 hSw => ?_) ?_; rotate_left 2; (· (obtain ⟨y0, y1, y3, y2⟩ := HBX.out _ hSw; go_simp; first | done | (constructor <;> with_reducible rfl) | with_reducible rfl)); (· (refine (HCN.out _ hSw).mono ?_; rintro e w6 ⟨rfl, hb6⟩; exact ⟨rfl, bseq hSw hb6⟩)); (try simp only [Act.put, List.setIfInBounds_toArray, List.set_cons_zero, List.set_cons_succ])))
  refine wpSt_nil ?_
  intro w6 hb6
  go_wp2_with fail
  go_ret
  exact ⟨rfl, bseq hw5 hb6⟩
end Go.Proofs.YteekabaoocaghaaGreat
namespace Go.Proofs.YteekabaoocaghaaGreat
open Go.RowKit

theorem IntsI.dfr {B gd : Nat} {w w' : World} {A : Option Addr} {n : Nat} {l : List Int} {dc : Array Value} (h : IntsI w A n l) (hf : DFr B (· = gd) w w') (hd : Blk w gd 41 dc) : IntsI w' A n l := h.fr hf (fun b _ hs ⟨cs, hc⟩ => by
  rcases hs with ⟨_, T, cs', hT, hB⟩ | hs
  · have : T = 3 := by
      unfold Blk at hT hc
      rw [hT] at hc
      injection hc with hc
      injection hc with _ hc
    subst this
    exact absurd hB (by decide)
  · exact Blk.ne_ hc hd (by decide) hs)
theorem start_bd (s : Start) : (s.E = 1 ∨ s.E = 2 ∨ s.E = 3 ∨ s.E = 4) ∧ s.l.length ≤ 4096 ∧ (s.l.length : Int) ≤ s.lim ∧ s.lim ≤ 65536 ∧ 1 ≤ s.dep ∧ s.dep ≤ 200 := by
  have h1 := withinF_bd s.room 4096 (by omega)
  have h3 := withinF_bd s.depth 199 (by omega)
  have h4 : s.l.length ≤ 4096 := by unfold Start.l; rw [List.length_take]; omega
  unfold Start.E Start.lim Start.dep
  omega
/-- rows in blocks of their own -/
def SepV (v v' : Value) : Prop := ∀ b, v.ownBlock = some b → v'.ownBlock ≠ some b
theorem SepV.symm {v v' : Value} (h : SepV v v') : SepV v' v := fun b h1 h2 => h b h2 h1
/-- one row grows, the other stays -/
theorem own_beside {w w1 w2 : World} {B e size m : Nat} {v v' u : Value} {ys : List Value} (hu : w.ownsRow B e size u m ys) (hs : SepV v u) (h1 : Below w.heap.size w w1) (hg : w1.grownBy w2 v.ownBlock) (hat : v'.ownBlock = v.ownBlock ∨ v'.ownBlock = some w1.heap.size) :
    w2.ownsRow B e size u m ys ∧ SepV v' u := by
  refine ⟨own_fr (own_bel hu h1) (show Fr (OwnB v) w1 w2 from (Fr.refl _ _).grown hg (fun k hk _ => hk)) (fun b hb ho => hs b ho hb), fun b hb hb2 => ?_⟩
  rcases hat with h | h
  · exact hs b (h ▸ hb) hb2
  · rw [h] at hb
    injection hb with hb
    have := own_lt hu hb2
    have := h1.size
    omega
def JoinedR1 (F T : Int) (A : List Int) (w0 : World) (k : Nat) (q16 q17 q18 : Value) (wr : World) : Prop :=
  ∃ i : Nat, q18 = .int .i64 (i : Int) ∧ i ≤ A.length ∧ A.length - i ≤ k ∧ Hid (wr.ownsRow w0.heap.size 3 1 q16 (keepI F T n10 0 (A.take i)).length ((keepI F T n10 0 (A.take i)).map (Value.int .i64))) ∧
    Hid (wr.ownsRow w0.heap.size 3 1 q17 (keepI F T nbF 0 (A.take i)).length ((keepI F T nbF 0 (A.take i)).map (Value.int .i64))) ∧ Hid (SepV q16 q17) ∧ Below w0.heap.size w0 wr
def JoinedR2 (F T : Int) (A : List Int) (w0 : World) (k : Nat) (q24 q25 : Value) (wr : World) : Prop :=
  ∃ i : Nat, q25 = .int .i64 (i : Int) ∧ i ≤ A.length ∧ A.length - i ≤ k ∧ Hid (wr.ownsRow w0.heap.size 3 1 q24 (keepI F T nbF 0 (A.take i)).length ((keepI F T nbF 0 (A.take i)).map (Value.int .i64))) ∧ Below w0.heap.size w0 wr
theorem keepI_le (F T : Int) (p : Int → Bool) : ∀ (l : List Int) (j : Int), (keepI F T p j l).length ≤ l.length := by
  intro l
  induction l with
  | nil => intro j; exact Nat.le_refl _
  | cons x l ih =>
    intro j
    have := ih (j + 1)
    simp only [keepI, List.length_append, List.length_cons]
    split
    · simp; omega
    · simp; omega
theorem keepI_step {F T : Int} {p : Int → Bool} {A : List Int} {i : Nat} {x : Int} (hi : i < A.length) (hx : A.getD i 0 = x) : keepI F T p 0 (A.take (i + 1)) = keepI F T p 0 (A.take i) ++ (if F ≤ (i : Int) ∧ (i : Int) < T ∧ p x = false then [] else [x]) := by
  rw [List.take_succ_eq_append_getElem hi, keepI_snoc, List.length_take, Nat.min_eq_left (by omega)]
  have : A[i] = x := by
    rw [List.getD_eq_getElem?_getD, List.getElem?_eq_getElem hi] at hx
    simpa using hx
  rw [this, Int.zero_add]
set_option maxRecDepth 100000 in
set_option maxHeartbeats 32000000 in
theorem joined_any (s : Start) (fi la : Int) (A : Option Addr) (n c : Nat) (w : World) (hl : Bts w Any A n s.data) (hB : Byt s.data) (h1 : FitsI s.native) (h2 : FitsI s.depth) (h3 : FitsI s.room) (h4 : FitsI fi) (h5 : FitsI la) :
    Calls Tryz.prog 3 #[.agg #[.int .i64 s.enc, .slice A n c, .int .i64 s.native, .int .i64 s.depth, .int .i64 s.room], .int .i64 fi, .int .i64 la] w fun e w' => e = .returned (.bool true) ∧ Below w.heap.size w w' := by
  obtain ⟨hE, hll, hlim, hlim2, hd1, hd2⟩ := start_bd s
  have hBl : Byt s.l := hB.take _
  have hw0 : Below w.heap.size w (w.alloc (.cells #[.int .i64 s.enc, .slice A n c, .int .i64 s.native, .int .i64 s.depth, .int .i64 s.room] 24)) := balloc (Below.refl _ _)
  have hbs := cells5 (Blk.new w 24 #[.int .i64 s.enc, .slice A n c, .int .i64 s.native, .int .i64 s.depth, .int .i64 s.room])
  have hbg := begun_any s A n c _ (Reads.below hl hw0) hB h1 h2 h3
  have hzB : w.heap.size ≤ (w.alloc (.cells #[.int .i64 s.enc, .slice A n c, .int .i64 s.native, .int .i64 s.depth, .int .i64 s.room] 24)).heap.size := by simp
  have HBG := Lib.hid hbg
  clear hbg
  obtain ⟨g0, g1, g2, g3, g4⟩ := hbs
  go_enter Tryz.func3, Tryz.ntmps3
  go_wp2_with fail
  refine (HBG.out).mono ?_
  rintro e w2 ⟨gd, gb, gt, m, gk, mk, gd', gb', gt', gk', ld, rfl, hBe, hb2⟩
  have hd := hBe.D.is (by omega) hlim2 ⟨hd1, hd2⟩
  obtain ⟨B, hBB⟩ : ∃ B, (w.alloc (.cells #[.int .i64 s.enc, .slice A n c, .int .i64 s.native, .int .i64 s.depth, .int .i64 s.room] 24)).heap.size = B := ⟨_, rfl⟩
  rw [hBB] at hd hzB
  have hsized := newS_sized (depth := s.dep) hE hBl
  have hszS : szS (sizedA s.E (newS s.E s.dep s.l).ats) = (s.l.length : Int) := by rw [hsized]; exact newS_sz
  have hszL : szS (sizedA s.E (newS s.E s.dep s.l).ats) ≤ s.lim := by rw [hszS]; exact hlim
  have hnow : (newS s.E s.dep s.l).now = none := rfl
  have hund : (newS s.E s.dep s.l).undo = [] := rfl
  have hred : (newS s.E s.dep s.l).redo = [] := rfl
  have hlas : (newS s.E s.dep s.l).last = 0 := rfl
  have hdep : (newS s.E s.dep s.l).depth = s.dep := rfl
  obtain ⟨E, hEE⟩ : ∃ x, s.E = x := ⟨_, rfl⟩
  obtain ⟨lim, hli⟩ : ∃ x, s.lim = x := ⟨_, rfl⟩
  obtain ⟨st, hst⟩ : ∃ x, newS s.E s.dep s.l = x := ⟨_, rfl⟩
  have hz0 : (deskC gb gk (natF ((dec s.E s.l).map Prod.fst) s.nat)).size = 10 := rfl
  have hz2 : (deskC gb gk (natF ((dec s.E s.l).map Prod.fst) s.nat))[2]? = some (.int .i64 0) := rfl
  obtain ⟨dc, hdc⟩ : ∃ x, deskC gb gk (natF ((dec s.E s.l).map Prod.fst) s.nat) = x := ⟨_, rfl⟩
  rw [hst] at hd hszL hnow hund hred hlas hdep
  rw [hdc] at hd hz0 hz2
  rw [hEE, hli] at hd
  rw [hEE] at hszL
  rw [hli] at hszL
  have hdep2 : (1 : Int) ≤ st.depth := by rw [hdep]; exact hd1
  have HDD := Lib.hid hd
  have HST := Lib.hid (And.intro hnow (And.intro hund (And.intro hred (And.intro hlas (And.intro hdep2 hszL)))))
  have HZ := Lib.hid (And.intro hz0 hz2)
  clear hBB hd hsized hszS hszL hnow hund hred hlas hdep hst hdc hEE hli hz0 hz2 hdep2 hBe HBG hl hB hBl hE hll hlim hlim2 hd1 hd2 h1 h2 h3 g0 g1 g2 g3 g4
  go_upto_region 2 with fail
  have hw2 := bseq hw0 hb2
  have hBo : Blk (w2.alloc (.cells #[.pointer (some ⟨gd, 0, none⟩), .pointer (some ⟨gd', 0, none⟩)] 28)) w2.heap.size 28 #[.pointer (some ⟨gd, 0, none⟩), .pointer (some ⟨gd', 0, none⟩)] := Blk.new w2 _ _
  have hd3 := HDD.out.below (balloc (o := .cells #[.pointer (some ⟨gd, 0, none⟩), .pointer (some ⟨gd', 0, none⟩)] 28) (Below.refl w2.heap.size w2))
  have hw3 : Below w.heap.size w (w2.alloc (.cells #[.pointer (some ⟨gd, 0, none⟩), .pointer (some ⟨gd', 0, none⟩)] 28)) := balloc hw2
  obtain ⟨bo, hbo⟩ : ∃ x, w2.heap.size = x := ⟨_, rfl⟩
  obtain ⟨w3, hw30⟩ : ∃ x, w2.alloc (.cells #[.pointer (some ⟨gd, 0, none⟩), .pointer (some ⟨gd', 0, none⟩)] 28) = x := ⟨_, rfl⟩
  rw [hbo] at hBo ⊢
  rw [hw30] at hBo hd3 hw3 ⊢
  clear hw30 hbo hb2 hw2 HDD hw0
  have hgB : B ≤ gd := hd3.low
  have hne : bo ≠ gd := Blk.ne_ hBo hd3.desk (by decide)
  have HTY := Lib.hid (both_typed w3 bo)
  have HD3 := Lib.hid hd3
  have HBo := Lib.hid hBo
  clear hd3 hBo
  go_wp2_with fail
  refine (HTY.out).mono ?_
  rintro e w4 ⟨rfl, hb4⟩
  clear HTY
  have hd4 := HD3.out.below hb4
  have hBo4 := HBo.out.below hb4
  have hw4 := bseq hw3 hb4
  obtain ⟨c0, -⟩ := cells2 hBo4
  have e0 := (hd4.desk.cell 0).trans hd4.c0
  have HTX := Lib.hid (btext_desk hd4)
  have HAT := Lib.hid (batoms_any hd4 hBo4)
  have HCN := Lib.hid (fun (w' : World) (hb : Below w4.heap.size w4 w') => count_line Any gt E (sizedA E st.ats) w' (hd4.below hb).at_)
  have hcp := @countF_pos (sizedA E st.ats)
  have hte : totE (sizedA E st.ats) ≤ 65536 := Nat.le_trans (cntE_le _ _) (by have := hd4.len; rw [sizedA_len]; exact this)
  have hal : st.ats.length ≤ 65536 := hd4.len
  have HD4 := Lib.hid hd4
  have HB4 := Lib.hid hBo4
  clear hd4 hBo4 HD3 HBo hb4 hw3
  go_wp2_with fail
  refine (HTX.out).mono ?_
  rintro e wz ⟨rfl, rfl⟩
  clear HTX
  go_wp2_with fail
  refine (HAT.out).mono ?_
  rintro e w5 ⟨v5, rfl, ho5, hb5⟩
  obtain ⟨A5, c5, rfl, hc5⟩ := own_slice ho5
  have hI5 := IntsI.of_own ho5
  clear HAT ho5
  go_wp2_with fail
  refine (HCN.out _ hb5).mono ?_
  rintro e w6 ⟨rfl, hb6⟩
  have hb46 := bseq hb5 hb6
  have hI6 := hI5.bel hb6
  have hw6 := bseq hw4 hb46
  clear hI5 hb5 hb6 HCN c0 e0 hw4
  obtain ⟨M, hM⟩ : ∃ M, countF (sizedA E st.ats) = M := ⟨_, rfl⟩
  rw [hM] at hcp ⊢
  have HM := Lib.hid hM
  obtain ⟨NA, hNA⟩ : ∃ N, st.ats.length = N := ⟨_, rfl⟩
  have hlA : (st.ats.map Prod.fst).length = NA := by rw [List.length_map, hNA]
  rw [hlA] at hI6 hc5
  rw [hNA] at hal ⊢
  have HNA := Lib.hid hNA
  have HLA := Lib.hid hlA
  have HI6 := Lib.hid hI6
  have hd6 := HD4.out.below hb46
  have hB6 := HB4.out.below hb46
  clear hM hNA hlA hI6
  obtain ⟨hnow, hund, hred, hlas, hdep, hszL⟩ := HST.out
  obtain ⟨hz0, hz2⟩ := HZ.out
  by_cases hM2 : M < 2
  · have q : ((M : Int) < 2) = True := by simp; omega
    have HJ1 := Lib.hid (djoin_same B gd gb gt 0 0 0 E lim st dc true w6 hd6 (Nat.le_refl _) (Nat.le_refl _) (by rw [HM.out]; omega))
    have HJ2 := Lib.hid (fun (w' : World) (hb : Below w6.heap.size w6 w') => djoin_over B gd gb gt 0 0 1 E lim st dc false w' (hd6.below hb) (by omega) (by rw [HM.out]; omega))
    obtain ⟨c0, -⟩ := cells2 hB6
    clear hd6 hnow hund hred hlas hdep hszL hz0 hz2
    go_wp2_with fail
    refine (HJ1.out).mono ?_
    rintro e w7 ⟨rfl, hb7⟩
    obtain ⟨c0, -⟩ := cells2 (hB6.below hb7)
    go_wp2_with fail
    refine (HJ2.out _ hb7).mono ?_
    rintro e w8 ⟨rfl, hb8⟩
    go_wp2_with fail
    go_ret
    exact ⟨rfl, bseq hw6 (bseq hb7 hb8)⟩
  · have q : ((M : Int) < 2) = False := by simp; omega
    have wm : IntKind.i64.wrap ((M : Int) - 2) = ((M - 2 : Nat) : Int) := by rw [IntWalk.i64_in _ (by omega)]; omega
    have hk1 := fun w' => within_any fi ((M - 2 : Nat) : Int) w' h4 (by omega) (by omega)
    have hbd1 := withinF_bd fi ((M - 2 : Nat) : Int) (by omega)
    obtain ⟨f, hf⟩ : ∃ f : Nat, withinF fi ((M - 2 : Nat) : Int) = (f : Int) := ⟨(withinF fi ((M - 2 : Nat) : Int)).toNat, by omega⟩
    rw [hf] at hk1 hbd1
    have hk2 := fun w' => within_any la ((M - 2 - f : Nat) : Int) w' h5 (by omega) (by omega)
    have hbd2 := withinF_bd la ((M - 2 - f : Nat) : Int) (by omega)
    obtain ⟨d, hdd⟩ : ∃ d : Nat, withinF la ((M - 2 - f : Nat) : Int) = (d : Int) := ⟨(withinF la ((M - 2 - f : Nat) : Int)).toNat, by omega⟩
    rw [hdd] at hk2 hbd2
    have wm2 : IntKind.i64.wrap (((M - 2 : Nat) : Int) - (f : Int)) = ((M - 2 - f : Nat) : Int) := by rw [IntWalk.i64_in _ (by omega)]; omega
    have wf : IntKind.i64.wrap ((f : Int) + 1) = ((f + 1 : Nat) : Int) := by rw [IntWalk.i64_in _ (by omega)]; omega
    obtain ⟨l, hl⟩ : ∃ l, f + 1 + d = l := ⟨_, rfl⟩
    have wl : IntKind.i64.wrap (((f + 1 : Nat) : Int) + (d : Int)) = (l : Int) := by rw [IntWalk.i64_in _ (by omega)]; omega
    have hfl : f < l := by omega
    have HL3 := Lib.hid (show (f : Int) + 1 + (d : Int) = (l : Int) by omega)
    have hlM : l < M := by omega
    have hlt : l ≤ totE (sizedA E st.ats) := by omega
    have HK1 := Lib.hid hk1
    have HK2 := Lib.hid hk2
    have HLF := Lib.hid (fun (w' : World) (hb : Below w6.heap.size w6 w') => at_line Any gt E (sizedA E st.ats) f w' (hd6.below hb).at_ (by omega))
    have HLL := Lib.hid (fun (w' : World) (hb : Below w6.heap.size w6 w') => at_line Any gt E (sizedA E st.ats) l w' (hd6.below hb).at_ hlt)
    have HD6 := Lib.hid hd6
    have HB6 := Lib.hid hB6
    have HPOS := Lib.hid hd6.pos
    clear hk1 hk2 hd6 hB6 hf hdd hl hnow hund hred hlas hdep hszL hz0 hz2 HD4 HB4
    go_wp2_with fail
    refine (HK1.out _).mono ?_
    rintro e wz ⟨rfl, rfl⟩
    go_wp2_with fail
    refine (HK2.out _).mono ?_
    rintro e wz ⟨rfl, rfl⟩
    have hlf := HLF.out _ (Below.refl _ _)
    have hll := HLL.out
    have hbf := lineF_bd HPOS.out (i := f) (by omega)
    have hbl := lineF_bd HPOS.out (i := l) hlt
    obtain ⟨⟨x0, x1, x2, x3⟩, hL1⟩ : ∃ L, lineF (sizedA E st.ats) f = L := ⟨_, rfl⟩
    obtain ⟨⟨y0, y1, y2, y3⟩, hL2⟩ : ∃ L, lineF (sizedA E st.ats) l = L := ⟨_, rfl⟩
    rw [hL1] at hlf hbf
    rw [hL2] at hll hbl
    unfold Ln.cells at hlf hll
    rw [sizedA_len] at hbf hbl
    dsimp only at hlf hll hbf hbl
    rw [HNA.out] at hbf hbl
    have HL1 := Lib.hid hL1
    have HL2 := Lib.hid hL2
    have HLF' := Lib.hid hlf
    have HLL' := Lib.hid hll
    clear hlf hll hL1 hL2 HLF HLL
    go_wp2_with fail
    refine (HLF'.out).mono ?_
    rintro e w7 ⟨rfl, hb7⟩
    rw [HL3.out]
    go_upto_region 12 with fail
    have hw8 : Below w6.heap.size w6 (w7.alloc (.cells #[.int .i64 x0, .int .i64 x1, .int .i64 x2, .int .i64 x3] 49)) := balloc hb7
    have hX : Blk (w7.alloc (.cells #[.int .i64 x0, .int .i64 x1, .int .i64 x2, .int .i64 x3] 49)) w7.heap.size 49 #[.int .i64 x0, .int .i64 x1, .int .i64 x2, .int .i64 x3] := Blk.new w7 _ _
    obtain ⟨bx, hbx⟩ : ∃ x, w7.heap.size = x := ⟨_, rfl⟩
    obtain ⟨w8, hw80⟩ : ∃ x, w7.alloc (.cells #[.int .i64 x0, .int .i64 x1, .int .i64 x2, .int .i64 x3] 49) = x := ⟨_, rfl⟩
    rw [hbx] at hX ⊢
    rw [hw80] at hX hw8 ⊢
    clear hbx hw80 hb7
    go_wp2_with fail
    refine (HLL'.out _ hw8).mono ?_
    rintro e w9 ⟨rfl, hb9⟩
    go_upto_region 13 with fail
    have hw10 : Below w6.heap.size w6 (w9.alloc (.cells #[.int .i64 y0, .int .i64 y1, .int .i64 y2, .int .i64 y3] 49)) := balloc (bseq hw8 hb9)
    have hY : Blk (w9.alloc (.cells #[.int .i64 y0, .int .i64 y1, .int .i64 y2, .int .i64 y3] 49)) w9.heap.size 49 #[.int .i64 y0, .int .i64 y1, .int .i64 y2, .int .i64 y3] := Blk.new w9 _ _
    have hX10 := (hX.below hb9).alloc (.cells #[.int .i64 y0, .int .i64 y1, .int .i64 y2, .int .i64 y3] 49)
    obtain ⟨bY, hbY⟩ : ∃ x, w9.heap.size = x := ⟨_, rfl⟩
    obtain ⟨w10, hw100⟩ : ∃ x, w9.alloc (.cells #[.int .i64 y0, .int .i64 y1, .int .i64 y2, .int .i64 y3] 49) = x := ⟨_, rfl⟩
    rw [hbY] at hY ⊢
    rw [hw100] at hX10 hY hw10 ⊢
    clear hbY hw100 hb9 hw8 hX HLF' HLL'
    have hI10 := HI6.out.bel hw10
    have HI10 := Lib.hid hI10
    have HX10 := Lib.hid hX10
    have HY10 := Lib.hid hY
    have hXY : ∀ w', Below w10.heap.size w10 w' → (w'.cell? ⟨bx, 0, none⟩ = some (.int .i64 x0)) ∧ w'.cell? ⟨bY, 1, none⟩ = some (.int .i64 y1) := fun w' hb => ⟨(hX10.below hb).cell 0, (hY.below hb).cell 1⟩
    have HXY := Lib.hid hXY
    clear hI10 hX10 hY hXY HI6
    go_wp2_with fail
    obtain ⟨i0, hi0, hz0', hz1', hz2'⟩ := info_parts int_info
    have HII := Lib.hid hi0
    clear wm wm2 wf wl HK1 HK2 q hbd1 hbd2 hM2 hi0 hb46
    go_loopg [16, 17, 18] NA (fun k q16 q17 q18 wr => JoinedR1 x0 y1 (st.ats.map Prod.fst) w10 k q16 q17 q18 wr)
    case atStart => exact ⟨0, rfl, Nat.zero_le _, by rw [HLA.out]; omega, Lib.hid (World.ownsRow_nil _ _ _ _), Lib.hid (World.ownsRow_nil _ _ _ _), Lib.hid (fun b h => by cases h), Below.refl _ _⟩
    case round =>
      obtain ⟨i, rfl, hi, hk, ho1, ho2, hsep, hb⟩ := hrel
      rw [HLA.out] at hi hk
      have hs0 := hb.size
      by_cases hgo : i < NA
      · have q1 : ((i : Int) < (NA : Int)) = True := by simp; omega
        obtain ⟨g0, g1⟩ := HXY.out _ hb
        obtain ⟨ad, hA5, _, cx⟩ := Ints.at_ (HI10.out.bel hb).any hgo
        obtain ⟨x, hx⟩ : ∃ x, (st.ats.map Prod.fst).getD i 0 = x := ⟨_, rfl⟩
        rw [hx] at cx
        have hst1 := keepI_step (F := x0) (T := y1) (p := n10) (by rw [HLA.out]; exact hgo) hx
        have hst2 := keepI_step (F := x0) (T := y1) (p := nbF) (by rw [HLA.out]; exact hgo) hx
        have hle1 := keepI_le x0 y1 n10 ((st.ats.map Prod.fst).take i) 0
        have hle2 := keepI_le x0 y1 nbF ((st.ats.map Prod.fst).take i) 0
        rw [List.length_take] at hle1 hle2
        have ho1' := ho1.out
        have ho2' := ho2.out
        obtain ⟨r1, hr1⟩ : ∃ r, keepI x0 y1 n10 0 ((st.ats.map Prod.fst).take i) = r := ⟨_, rfl⟩
        obtain ⟨r2, hr2⟩ : ∃ r, keepI x0 y1 nbF 0 ((st.ats.map Prod.fst).take i) = r := ⟨_, rfl⟩
        rw [hr1] at ho1' hle1 hst1
        rw [hr2] at ho2' hle2 hst2
        have hle1' : r1.length ≤ 65536 := by omega
        have hle2' : r2.length ≤ 65536 := by omega
        have HXI := Lib.hid hx
        have HS1 := Lib.hid hst1
        have HS2 := Lib.hid hst2
        have HA5 := Lib.hid hA5
        have HO1 := Lib.hid ho1'
        have HO2 := Lib.hid ho2'
        clear hx hst1 hst2 hr1 hr2 ho1' ho2' hle1 hle2 ho1 ho2 hA5
        go_upto_region 18 with fail
        go_cut [19] (fun s wx => s = .bool (decide (x0 ≤ (i : Int) ∧ (i : Int) < y1)) ∧ wx = wr)
        case first =>
          by_cases k1 : x0 ≤ (i : Int)
          · have p1 : (x0 ≤ (i : Int)) = True := by simp; omega
            by_cases k2 : (i : Int) < y1
            · have p2 : ((i : Int) < y1) = True := by simp; omega
              go_wp2_with fail
              go_meet
              exact ⟨by simp [k1, k2] <;> omega, rfl⟩
            · have p2 : ((i : Int) < y1) = False := by simp; omega
              go_wp2_with fail
              go_meet
              exact ⟨by simp [k1, k2] <;> omega, rfl⟩
          · have p1 : (x0 ≤ (i : Int)) = False := by simp; omega
            go_wp2_with fail
            go_meet
            exact ⟨by simp [k1] <;> omega, rfl⟩
        case rest =>
          obtain ⟨rfl, rfl⟩ := hcut
          obtain ⟨inb, hinb⟩ : ∃ b, decide (x0 ≤ (i : Int) ∧ (i : Int) < y1) = b := ⟨_, rfl⟩
          rw [hinb]
          have HINB := Lib.hid hinb
          have ho1c := HO1
          have ho2c := HO2
          clear hinb
          have hA5' := HA5.out
          subst hA5'
          have hwc0 : w10.heap.size ≤ wc.heap.size := hs0
          have hk10 : n10 x = decide (x ≠ 10 ∧ x ≠ 13) := rfl
          have HK10 := Lib.hid hk10
          clear hk10
          go_upto_region 19 with fail
          go_cut [115] (fun s wx => s = .bool (!inb || n10 x) ∧ wx = wc)
          case first =>
            cases inb
            · go_wp2_with fail
              go_meet
              exact ⟨by simp, rfl⟩
            · by_cases hx10 : x = 10
              · subst hx10
                go_wp2_with fail
                go_meet
                exact ⟨by rw [HK10.out]; rfl, rfl⟩
              · have p1 : (x != 10) = true := by rw [bne_iff_ne]; exact hx10
                by_cases hx13 : x = 13
                · subst hx13
                  go_wp2_with fail
                  go_meet
                  exact ⟨by rw [HK10.out]; rfl, rfl⟩
                · have p2 : (x != 13) = true := by rw [bne_iff_ne]; exact hx13
                  go_wp2_with fail
                  go_meet
                  exact ⟨by rw [HK10.out]; simp [hx10, hx13], rfl⟩
          case rest =>
            obtain ⟨rfl, rfl⟩ := hcut
            obtain ⟨kp, hkp⟩ : ∃ b, (!inb || n10 x) = b := ⟨_, rfl⟩
            rw [hkp]
            have HKP := Lib.hid hkp
            clear hkp
            go_upto_if 115 with fail
            go_cut [16] (fun s wx => Hid (wx.ownsRow w10.heap.size 3 1 s (keepI x0 y1 n10 0 ((st.ats.map Prod.fst).take (i + 1))).length ((keepI x0 y1 n10 0 ((st.ats.map Prod.fst).take (i + 1))).map (Value.int .i64))) ∧ Hid (wx.ownsRow w10.heap.size 3 1 u17 r2.length (r2.map (Value.int .i64))) ∧ Hid (SepV s u17) ∧ Below w10.heap.size w10 wx)
            case first =>
              cases kp
              · have he : keepI x0 y1 n10 0 ((st.ats.map Prod.fst).take (i + 1)) = r1 := by
                  have h1 := HKP.out
                  have h2 := HINB.out
                  cases inb
                  · simp at h1
                  · rw [HS1.out, if_pos ⟨(of_decide_eq_true h2).1, (of_decide_eq_true h2).2, by simpa using h1⟩, List.append_nil]
                have HE := Lib.hid he
                clear he
                go_wp2_with fail
                go_meet
                rw [HE.out]
                exact ⟨ho1c, ho2c, hsep, hb⟩
              · have he : keepI x0 y1 n10 0 ((st.ats.map Prod.fst).take (i + 1)) = r1 ++ [x] := by
                  have h1 := HKP.out
                  have h2 := HINB.out
                  rw [HS1.out, if_neg]
                  rintro ⟨k1, k2, k3⟩
                  rw [k3] at h1
                  cases inb
                  · exact absurd (And.intro k1 k2) (of_decide_eq_false h2)
                  · simp at h1
                have HE := Lib.hid he
                clear he
                go_wp2_with (at_builtin; refine wpList_append_own_at _ rfl (.tmp 116) (.tmp 121) 35 rfl w10.heap.size 3 i0 (.int .i64 0) 1 8 Tryz.underlying35 HII.out hz0' hz1' hz2' rfl (by decide) u16 r1.length _ rfl (ho1c.out.alloc _) ⟨wc.heap.size, 0, none⟩ 1 1 [.int .i64 x] rfl rfl (cell_one_new _ _ _) (by simp [Value.oneCell']) (by unfold maxLen; omega) (by omega) (by simp; omega) ?_)
                intro v1 w11 hown1 hgr _ hat1
                have hb11 : Below w10.heap.size w10 w11 := below_grown2 (balloc hb) hgr (fun k hk => own_ge ho1c.out hk)
                have h2n := own_beside ho2c.out hsep.out (balloc (Below.refl _ _)) hgr (show v1.ownBlock = u16.ownBlock ∨ v1.ownBlock = some (wc.alloc (.cells #[.int .i64 x] 3)).heap.size by simpa using hat1)
                have HO := Lib.hid hown1
                have HO2' := Lib.hid h2n
                clear hown1 hgr hat1 h2n
                go_wp2_with fail
                go_meet
                rw [HE.out]
                refine ⟨Lib.hid ?_, Lib.hid HO2'.out.1, Lib.hid HO2'.out.2, hb11⟩
                rw [List.length_append, List.map_append]
                exact HO.out
            case rest =>
              obtain ⟨ho1d, ho2d, hsepd, hbd⟩ := hcut
              have hcx := (HI10.out.bel hbd).any
              obtain ⟨ad', hA', _, cx'⟩ := Ints.at_ hcx hgo
              injection hA' with hA'
              subst hA'
              have hx' : (st.ats.map Prod.fst).getD i 0 = x := HXI.out
              rw [hx'] at cx'
              have hszd := hbd.size
              clear cx hcx hx'
              have HWD := Lib.hid (word_any x wc)
              have HKN := Lib.hid (show nbF x = decide (wordF x ≠ 0) from rfl)
              go_upto_region 21 with fail
              go_cut [132] (fun s wx => s = .bool (!inb || nbF x) ∧ Below wc.heap.size wc wx)
              case first =>
                cases inb
                · go_wp2_with fail
                  go_meet
                  exact ⟨by simp, Below.refl _ _⟩
                · obtain ⟨v, hv⟩ : ∃ v, wordF x = v := ⟨_, rfl⟩
                  have hwd := HWD.out
                  have hkn := HKN.out
                  rw [hv] at hwd hkn
                  have HWD := Lib.hid hwd
                  have HKN := Lib.hid hkn
                  clear hv hwd hkn
                  by_cases hv0 : v = 0
                  · subst hv0
                    go_wp2_with fail
                    refine (HWD.out).mono ?_
                    rintro e w12 ⟨rfl, hb12⟩
                    go_wp2_with fail
                    go_meet
                    exact ⟨by rw [HKN.out]; rfl, hb12⟩
                  · have p1 : (v != 0) = true := by rw [bne_iff_ne]; exact hv0
                    go_wp2_with fail
                    refine (HWD.out).mono ?_
                    rintro e w12 ⟨rfl, hb12⟩
                    go_wp2_with fail
                    go_meet
                    exact ⟨by rw [HKN.out]; simp [hv0], hb12⟩
              case rest =>
                obtain ⟨rfl, hbe⟩ := hcut
                obtain ⟨kq, hkq⟩ : ∃ b, (!inb || nbF x) = b := ⟨_, rfl⟩
                rw [hkq]
                have HKQ := Lib.hid hkq
                have ho1e := Lib.hid (own_bel ho1d.out hbe)
                have ho2e := Lib.hid (own_bel ho2d.out hbe)
                have hbf' := bseq hbd hbe
                have cx2 := cell_keep hbe cx'
                have hsze := hbf'.size
                clear hkq HWD cx' ho1d ho2d hszd
                have wi : IntKind.i64.wrap ((i : Int) + 1) = ((i + 1 : Nat) : Int) := by rw [IntWalk.i64_in _ (by omega)]; omega
                cases kq
                · have he : keepI x0 y1 nbF 0 ((st.ats.map Prod.fst).take (i + 1)) = r2 := by
                    have h1 := HKQ.out
                    have h2 := HINB.out
                    cases inb
                    · simp at h1
                    · rw [HS2.out, if_pos ⟨(of_decide_eq_true h2).1, (of_decide_eq_true h2).2, by simpa using h1⟩, List.append_nil]
                  have HE := Lib.hid he
                  clear he
                  go_wp2_with fail
                  go_roundg (NA - (i + 1))
                  case measure => omega
                  case rel => exact ⟨i + 1, by simp, by rw [HLA.out]; omega, by rw [HLA.out]; omega, ho1e, by rw [HE.out]; exact ho2e, hsepd, hbf'⟩
                · have he : keepI x0 y1 nbF 0 ((st.ats.map Prod.fst).take (i + 1)) = r2 ++ [x] := by
                    have h1 := HKQ.out
                    have h2 := HINB.out
                    rw [HS2.out, if_neg]
                    rintro ⟨k1, k2, k3⟩
                    rw [k3] at h1
                    cases inb
                    · exact absurd (And.intro k1 k2) (of_decide_eq_false h2)
                    · simp at h1
                  have HE := Lib.hid he
                  clear he
                  go_wp2_with (at_builtin; refine wpList_append_own_at _ rfl (.tmp 133) (.tmp 138) 35 rfl w10.heap.size 3 i0 (.int .i64 0) 1 8 Tryz.underlying35 HII.out hz0' hz1' hz2' rfl (by decide) u17 r2.length _ rfl (ho2e.out.alloc _) ⟨wc.heap.size, 0, none⟩ 1 1 [.int .i64 x] rfl rfl (cell_one_new _ _ _) (by simp [Value.oneCell']) (by unfold maxLen; omega) (by omega) (by simp; omega) ?_)
                  intro v1 w11 hown1 hgr _ hat1
                  have hb11 : Below w10.heap.size w10 w11 := below_grown2 (balloc hbf') hgr (fun k hk => own_ge ho2e.out hk)
                  have h2n := own_beside ho1e.out hsepd.out.symm (balloc (Below.refl _ _)) hgr (show v1.ownBlock = u17.ownBlock ∨ v1.ownBlock = some (wc.alloc (.cells #[.int .i64 x] 3)).heap.size by simpa using hat1)
                  have HO := Lib.hid hown1
                  have HO2' := Lib.hid h2n
                  clear hown1 hgr hat1 h2n
                  go_wp2_with fail
                  go_roundg (NA - (i + 1))
                  case measure => omega
                  case rel =>
                    refine ⟨i + 1, by simp, by rw [HLA.out]; omega, by rw [HLA.out]; omega, Lib.hid HO2'.out.1, ?_, Lib.hid HO2'.out.2.symm, hb11⟩
                    rw [HE.out]
                    refine Lib.hid ?_
                    rw [List.length_append, List.map_append]
                    exact HO.out
      · have q1 : ((i : Int) < (NA : Int)) = False := by simp; omega
        have htk : (st.ats.map Prod.fst).take i = st.ats.map Prod.fst := List.take_of_length_le (by rw [HLA.out]; omega)
        have ho1' := ho1.out
        have ho2' := ho2.out
        rw [htk] at ho1' ho2'
        have hle1 := keepI_le x0 y1 n10 (st.ats.map Prod.fst) 0
        have hle2 := keepI_le x0 y1 nbF (st.ats.map Prod.fst) 0
        rw [HLA.out] at hle1 hle2
        obtain ⟨r1, hr1⟩ : ∃ r, keepI x0 y1 n10 0 (st.ats.map Prod.fst) = r := ⟨_, rfl⟩
        obtain ⟨r2, hr2⟩ : ∃ r, keepI x0 y1 nbF 0 (st.ats.map Prod.fst) = r := ⟨_, rfl⟩
        rw [hr1] at ho1' hle1
        rw [hr2] at ho2' hle2
        obtain ⟨A1, c1, rfl, hc1⟩ := own_slice ho1'
        obtain ⟨A2, c2, rfl, hc2⟩ := own_slice ho2'
        have hR1 := IntsI.of_own ho1'
        have hR2 := IntsI.of_own ho2'
        have HR1 := Lib.hid hr1
        have HR2 := Lib.hid hr2
        have hb6r := bseq hw10 hb
        have hwr := bseq hw6 hb6r
        have hdr := HD6.out.below hb6r
        have hBr := HB6.out.below hb6r
        have hXr := HX10.out.below hb
        have hYr := HY10.out.below hb
        have hIr := HI10.out.bel hb
        obtain ⟨hnow, hund, hred, hlas, hdep, hszL⟩ := HST.out
        obtain ⟨hz0, hz2⟩ := HZ.out
        have hJ := djoin_any B gd gb gt 0 f l E lim 0 st dc true wr hdr hnow hz0 hz2 hfl (by rw [HM.out]; exact hlM) hszL (by decide) (by rw [hund]; exact hdep) (by rw [hlas]; decide)
        have HJ := Lib.hid hJ
        obtain ⟨c0, -⟩ := cells2 hBr
        have HR := Lib.hid (And.intro hR1 (And.intro hR2 (And.intro hIr (And.intro hBr (And.intro hXr (And.intro hYr hdr.desk))))))
        clear hJ hnow hund hred hlas hdep hszL hz0 hz2 hdr hBr hXr hYr hIr hR1 hR2 ho1' ho2' ho1 ho2 hsep htk hr1 hr2 HXY HI10 HX10 HY10
        go_wp2_with fail
        refine (HJ.out).mono ?_
        rintro e w12 ⟨rfl, es, cc, xx, hj, hel, hxx, hd12, hf12⟩
        obtain ⟨hR1, hR2, hIr, hBr, hXr, hYr, hdk⟩ := HR.out
        have hR1n := hR1.dfr hf12 hdk
        have hR2n := hR2.dfr hf12 hdk
        have hI12 := hIr.dfr hf12 hdk
        have hB12 := hf12.blk hBr (by decide) hne
        have hX12 := hf12.blk hXr (by decide) (fun e => Blk.ne_ hXr hdk (by decide) e)
        have hY12 := hf12.blk hYr (by decide) (fun e => Blk.ne_ hYr hdk (by decide) e)
        have hw12 : Below w.heap.size w w12 := bfr hwr hf12 (fun i hs => by
          rcases hs with ⟨h1, _⟩ | h1
          · omega
          · omega)
        have hfe : f + es.length = l := by omega
        have hnb : nbF 10 = false ∧ nbF 13 = false ∧ nbF 32 = false := ⟨by unfold nbF; rw [word10]; decide, by unfold nbF; rw [word13]; decide, by unfold nbF; rw [word32]; decide⟩
        have hbare := joined_bare HPOS.out hnb.1 hnb.2.1 hnb.2.2 (by rw [hfe]; exact hlt) hj (sizedA_fst E st.ats).symm rfl
        rw [hfe, HL1.out, HL2.out, sizedA_fst] at hbare
        dsimp only at hbare
        rw [HR1.out] at hbare
        have hat12 := batoms_any hd12 hB12
        rw [show (joinS st es cc xx).ats.map Prod.fst = r1 from hbare] at hat12
        have HAT12 := Lib.hid hat12
        have HD12 := Lib.hid hd12
        have HB12 := Lib.hid hB12
        have HR12 := Lib.hid (And.intro hR1n (And.intro hR2n (And.intro hI12 (And.intro hX12 (And.intro hY12 (And.intro hxx (And.intro hel hnb)))))))
        clear hR1n hR2n hI12 hX12 hY12 hxx hel hnb hbare hat12 hd12 hB12 hf12 hR1 hR2 hIr hBr hXr hYr hdk hj hfe HJ HR c0
        go_wp2_with fail
        refine (HAT12.out).mono ?_
        intro e w13 hNI
        obtain ⟨A13, c13, rfl, hI13, hc13, hb13⟩ := hNI.slice
        have HSM := Lib.hid (same_eq (c := c13) (c' := c1) hI13 (HR12.out.1.bel hb13).any (by omega))
        clear hNI hI13 HAT12
        go_wp2_with fail
        refine (HSM.out).mono ?_
        rintro e w14 ⟨rfl, hb14⟩
        have hb124 := bseq hb13 hb14
        have hd14 := HD12.out.below hb124
        have hB14 := HB12.out.below hb124
        obtain ⟨c0, -⟩ := cells2 hB14
        have e0 := (hd14.desk.cell 0).trans hd14.c0
        obtain ⟨hnow, hund, hred, hlas, hdep, hszL⟩ := HST.out
        have hel := HR12.out.2.2.2.2.2.2.1
        have hun := undo_desk hd14 rfl (us := []) (G := ⟨st.ats, edA es st.ats, cc, xx, [es.map mvOf], st.state, st.last + 1⟩) (by unfold joinS; dsimp only; rw [hund]) (show (0 : Nat) < 1048576 by decide) (fun mv hm => by simp at hm; subst hm; rw [List.length_map]; omega)
        have HUN := Lib.hid hun
        have HD14 := Lib.hid hd14
        have HB14 := Lib.hid hB14
        clear hun hd14 hB14 hnow hund hred hlas hdep hszL hel HSM hb13 hb14 hc13
        go_wp2_with fail
        refine (HUN.out).mono ?_
        rintro e w15 ⟨rfl, hd15, hf15⟩
        obtain ⟨hR1n, hR2n, hI12, hX12, hY12, hxx, hel, hnb⟩ := HR12.out
        have hdk := HD14.out.desk
        have hf15' : DFr B (· = gd) w14 w15 := DFr.of_bk hf15
        have hR2m := (hR2n.bel hb124).dfr hf15' hdk
        have hIm := (hI12.bel hb124).dfr hf15' hdk
        have hBm := hf15.blk HB14.out (by decide)
        have hXm := hf15.blk (hX12.below hb124) (by decide)
        have hYm := hf15.blk (hY12.below hb124) (by decide)
        have hw14 := bseq hw12 hb124
        have hw15 : Below w.heap.size w w15 := bfr hw14 hf15 (fun i hs => by have := hs.1; omega)
        obtain ⟨st2, hd15', hst2⟩ : ∃ st2 : BkS, DeskIs w15 B gd gb gt E lim (0 + 131072) st2 (dc.setIfInBounds 2 (.int .i64 xx)) ∧ (st2.ats = st.ats ∧ st2.now = none ∧ st2.undo = [] ∧ st2.last = st.last + 1 ∧ st2.depth = st.depth) := ⟨_, hd15, rfl, rfl, rfl, rfl, rfl⟩
        obtain ⟨s1, s2, s3, s4, s5⟩ := hst2
        obtain ⟨hnow, hund, hred, hlas, hdep, hszL⟩ := HST.out
        obtain ⟨hz0, hz2⟩ := HZ.out
        have hJ2 := djoin_any B gd gb gt (0 + 131072) f l E lim xx st2 _ false w15 hd15' s2 (by rw [Array.size_setIfInBounds]; exact hz0) (by rw [Array.getElem?_setIfInBounds_self_of_lt (by omega)]) hfl (by rw [s1, HM.out]; exact hlM) (by rw [s1]; exact hszL) (by decide) (by rw [s3, s5]; exact hdep) (by rw [s4, hlas]; decide)
        have HJ2 := Lib.hid hJ2
        obtain ⟨c0, -⟩ := cells2 hBm
        have HS1 := Lib.hid s1
        have HR15 := Lib.hid (And.intro hR2m (And.intro hIm (And.intro hBm (And.intro hXm (And.intro hYm (And.intro hd15'.desk hnb))))))
        clear hJ2 hd15' hd15 hf15 hf15' hdk hR1n hR2n hI12 hX12 hY12 hxx hel hnb hR2m hIm hBm hXm hYm hw14 s1 s2 s3 s4 s5 hnow hund hred hlas hdep hszL hz0 hz2 HR12 HD12 HB12 HD14 HB14 HUN e0 hb124
        go_wp2_with fail
        refine (HJ2.out).mono ?_
        rintro e w17 ⟨rfl, es2, cc2, xx2, hj2, hel2, hxx2, hd17, hf17⟩
        obtain ⟨hR2m, hIm, hBm, hXm, hYm, hdk, hnb⟩ := HR15.out
        rw [HS1.out] at hj2
        have hR2q := hR2m.dfr hf17 hdk
        have hIq := hIm.dfr hf17 hdk
        have hBq := hf17.blk hBm (by decide) hne
        have hXq := hf17.blk hXm (by decide) (fun e => Blk.ne_ hXm hdk (by decide) e)
        have hYq := hf17.blk hYm (by decide) (fun e => Blk.ne_ hYm hdk (by decide) e)
        have hw17 : Below w.heap.size w w17 := bfr hw15 hf17 (fun i hs => by
          rcases hs with ⟨h1, _⟩ | h1
          · omega
          · omega)
        have hfe : f + es2.length = l := by omega
        obtain ⟨cl, hcl⟩ : ∃ cl, (edA es2 st.ats).map Prod.fst = cl := ⟨_, rfl⟩
        have hrest := joined_rest HPOS.out hnb.1 hnb.2.1 hnb.2.2 (by rw [hfe]; exact hlt) hj2 (sizedA_fst E st.ats).symm cl hcl
        rw [hfe, HL1.out, HL2.out, sizedA_fst, sizedA_len, HNA.out] at hrest
        dsimp only at hrest
        rw [HR2.out] at hrest
        have hat17 := batoms_any hd17 hBq
        have hcll : cl.length ≤ 65536 := by
          have h1 := hd17.len
          have h2 : (joinS st2 es2 cc2 xx2).ats = edA es2 st2.ats := rfl
          rw [h2, HS1.out] at h1
          rw [← hcl, List.length_map]
          exact h1
        rw [show (joinS st2 es2 cc2 xx2).ats.map Prod.fst = cl by rw [← hcl, ← HS1.out]; rfl] at hat17
        have HAT17 := Lib.hid hat17
        have HREST := Lib.hid hrest
        obtain ⟨c0', -⟩ := cells2 hBq
        have HR17 := Lib.hid (And.intro hR2q (And.intro hXq hYq))
        clear hat17 hrest hcl hfe hBq hd17 hf17 hR2q hIq hXq hYq hR2m hIm hBm hXm hYm hdk hnb hj2 hel2 hxx2 HJ2 HR15 c0
        go_wp2_with fail
        refine (HAT17.out).mono ?_
        intro e w18 hNI
        obtain ⟨v18, rfl, ho18, hb18⟩ := hNI
        obtain ⟨A18, c18, rfl, hc18⟩ := own_slice ho18
        have hI18 := IntsI.of_own ho18
        obtain ⟨hR2q, hXq, hYq⟩ := HR17.out
        have hw18 := bseq hw17 hb18
        obtain ⟨NC, hNC⟩ : ∃ N, cl.length = N := ⟨_, rfl⟩
        rw [hNC] at hI18 hc18 hcll ⊢
        have HNC := Lib.hid hNC
        have hXY2 : ∀ w', Below w18.heap.size w18 w' → (w'.cell? ⟨bx, 0, none⟩ = some (.int .i64 x0)) ∧ w'.cell? ⟨bY, 1, none⟩ = some (.int .i64 y1) := fun w' hb => ⟨(hXq.below (bseq hb18 hb)).cell 0, (hYq.below (bseq hb18 hb)).cell 1⟩
        have HXY2 := Lib.hid hXY2
        obtain ⟨g0, g1⟩ := hXY2 w18 (Below.refl _ _)
        have wt : IntKind.i64.wrap ((NA : Int) - y1) = (NA : Int) - y1 := IntWalk.i64_in _ (by omega)
        obtain ⟨T, hT⟩ : ∃ T, (NC : Int) - ((NA : Int) - y1) = T := ⟨_, rfl⟩
        have hTb : -65536 ≤ T ∧ T ≤ 65536 := by omega
        have HTT := Lib.hid hT
        have HREST' := HREST.out
        rw [HNC.out, HTT.out] at HREST'
        have HREST2 := Lib.hid HREST'
        have HI18 := Lib.hid hI18
        have HR2q := Lib.hid (hR2q.bel hb18)
        clear HREST HREST' hXY2 hT hNC hI18 hR2q hXq hYq ho18 hb18 HR17 HAT17 c0'
        go_upto_region 30 with fail
        go_wp2_with fail
        clear g0 g1 wt
        go_loopg [24, 25] NC (fun k q24 q25 wr => JoinedR2 x0 T cl w18 k q24 q25 wr)
        case atStart => exact ⟨0, rfl, Nat.zero_le _, by rw [HNC.out]; omega, Lib.hid (World.ownsRow_nil _ _ _ _), Below.refl _ _⟩
        case round =>
          obtain ⟨i, rfl, hi, hk, ho1, hb⟩ := hrel
          rw [HNC.out] at hi hk
          have hs0 := hb.size
          by_cases hgo : i < NC
          · have q1 : ((i : Int) < (NC : Int)) = True := by simp; omega
            obtain ⟨g0, g1⟩ := HXY2.out _ hb
            obtain ⟨ad, hA5, _, cx⟩ := Ints.at_ (HI18.out.bel hb).any hgo
            subst hA5
            obtain ⟨x, hx⟩ : ∃ x, cl.getD i 0 = x := ⟨_, rfl⟩
            rw [hx] at cx
            have hst1 := keepI_step (F := x0) (T := T) (p := nbF) (by rw [HNC.out]; exact hgo) hx
            have hle1 := keepI_le x0 T nbF (cl.take i) 0
            rw [List.length_take] at hle1
            have ho1' := ho1.out
            obtain ⟨r1, hr1⟩ : ∃ r, keepI x0 T nbF 0 (cl.take i) = r := ⟨_, rfl⟩
            rw [hr1] at ho1' hle1 hst1
            have hle1' : r1.length ≤ 65536 := by omega
            have hno := HREST2.out.2 i
            rw [hx] at hno
            have HNO := Lib.hid hno
            have HS1 := Lib.hid hst1
            have HO1 := Lib.hid ho1'
            have wT : IntKind.i64.wrap ((NC : Int) - ((NA : Int) - y1)) = T := by rw [HTT.out]; exact IntWalk.i64_in _ (by omega)
            clear hx hst1 hr1 ho1' hle1 ho1 hno
            go_upto_region 34 with fail
            go_cut [26] (fun s wx => s = .bool (decide (x0 ≤ (i : Int) ∧ (i : Int) < T)) ∧ wx = wr)
            case first =>
              by_cases k1 : x0 ≤ (i : Int)
              · have p1 : (x0 ≤ (i : Int)) = True := by simp; omega
                by_cases k2 : (i : Int) < T
                · have p2 : ((i : Int) < T) = True := by simp; omega
                  go_wp2_with fail
                  go_meet
                  exact ⟨by simp [k1, k2] <;> omega, rfl⟩
                · have p2 : ((i : Int) < T) = False := by simp; omega
                  go_wp2_with fail
                  go_meet
                  exact ⟨by simp [k1, k2] <;> omega, rfl⟩
              · have p1 : (x0 ≤ (i : Int)) = False := by simp; omega
                go_wp2_with fail
                go_meet
                exact ⟨by simp [k1] <;> omega, rfl⟩
            case rest =>
              obtain ⟨rfl, rfl⟩ := hcut
              obtain ⟨inb, hinb⟩ : ∃ b, decide (x0 ≤ (i : Int) ∧ (i : Int) < T) = b := ⟨_, rfl⟩
              rw [hinb]
              have HINB := Lib.hid hinb
              clear hinb wT
              have hwc0 : w18.heap.size ≤ wc.heap.size := hs0
              go_upto_region 35 with fail
              go_cut [209] (fun s wx => s = .bool false ∧ wx = wc)
              case first =>
                cases inb
                · go_wp2_with fail
                  go_meet
                  exact ⟨rfl, rfl⟩
                · have hin := of_decide_eq_true HINB.out
                  obtain ⟨n1, n2⟩ := HNO.out hin.1 hin.2
                  have p1 : (x == 10) = false := by rw [beq_eq_false_iff_ne]; exact n1
                  have p2 : (x == 13) = false := by rw [beq_eq_false_iff_ne]; exact n2
                  clear hin n1 n2
                  go_wp2_with fail
                  go_meet
                  exact ⟨rfl, rfl⟩
              case rest =>
                obtain ⟨rfl, rfl⟩ := hcut
                have HWD := Lib.hid (word_any x wc)
                have HKN := Lib.hid (show nbF x = decide (wordF x ≠ 0) from rfl)
                go_upto_region 37 with fail
                go_cut [219] (fun s wx => s = .bool (!inb || nbF x) ∧ Below wc.heap.size wc wx)
                case first =>
                  cases inb
                  · go_wp2_with fail
                    go_meet
                    exact ⟨by simp, Below.refl _ _⟩
                  · obtain ⟨v, hv⟩ : ∃ v, wordF x = v := ⟨_, rfl⟩
                    have hwd := HWD.out
                    have hkn := HKN.out
                    rw [hv] at hwd hkn
                    have HWD := Lib.hid hwd
                    have HKN := Lib.hid hkn
                    clear hv hwd hkn
                    by_cases hv0 : v = 0
                    · subst hv0
                      go_wp2_with fail
                      refine (HWD.out).mono ?_
                      rintro e w19 ⟨rfl, hb19⟩
                      go_wp2_with fail
                      go_meet
                      exact ⟨by rw [HKN.out]; rfl, hb19⟩
                    · have p1 : (v != 0) = true := by rw [bne_iff_ne]; exact hv0
                      go_wp2_with fail
                      refine (HWD.out).mono ?_
                      rintro e w19 ⟨rfl, hb19⟩
                      go_wp2_with fail
                      go_meet
                      exact ⟨by rw [HKN.out]; simp [hv0], hb19⟩
                case rest =>
                  obtain ⟨rfl, hbe⟩ := hcut
                  obtain ⟨kq, hkq⟩ : ∃ b, (!inb || nbF x) = b := ⟨_, rfl⟩
                  rw [hkq]
                  have HKQ := Lib.hid hkq
                  have ho1e := Lib.hid (own_bel HO1.out hbe)
                  have hbf' := bseq hb hbe
                  have cx2 := cell_keep hbe cx
                  have hsze := hbf'.size
                  clear hkq HWD cx HO1
                  have wi : IntKind.i64.wrap ((i : Int) + 1) = ((i + 1 : Nat) : Int) := by rw [IntWalk.i64_in _ (by omega)]; omega
                  cases kq
                  · have he : keepI x0 T nbF 0 (cl.take (i + 1)) = r1 := by
                      have h1 := HKQ.out
                      have h2 := HINB.out
                      cases inb
                      · simp at h1
                      · rw [HS1.out, if_pos ⟨(of_decide_eq_true h2).1, (of_decide_eq_true h2).2, by simpa using h1⟩, List.append_nil]
                    have HE := Lib.hid he
                    clear he
                    go_wp2_with fail
                    go_roundg (NC - (i + 1))
                    case measure => omega
                    case rel => exact ⟨i + 1, by simp, by rw [HNC.out]; omega, by rw [HNC.out]; omega, by rw [HE.out]; exact ho1e, hbf'⟩
                  · have he : keepI x0 T nbF 0 (cl.take (i + 1)) = r1 ++ [x] := by
                      have h1 := HKQ.out
                      have h2 := HINB.out
                      rw [HS1.out, if_neg]
                      rintro ⟨k1, k2, k3⟩
                      rw [k3] at h1
                      cases inb
                      · exact absurd (And.intro k1 k2) (of_decide_eq_false h2)
                      · simp at h1
                    have HE := Lib.hid he
                    clear he
                    go_wp2_with (at_builtin; refine wpList_append_own_at _ rfl (.tmp 220) (.tmp 225) 35 rfl w18.heap.size 3 i0 (.int .i64 0) 1 8 Tryz.underlying35 HII.out hz0' hz1' hz2' rfl (by decide) u24 r1.length _ rfl (ho1e.out.alloc _) ⟨wc.heap.size, 0, none⟩ 1 1 [.int .i64 x] rfl rfl (cell_one_new _ _ _) (by simp [Value.oneCell']) (by unfold maxLen; omega) (by omega) (by simp; omega) ?_)
                    intro v1 w20 hown1 hgr _ _
                    have hb20 : Below w18.heap.size w18 w20 := below_grown2 (balloc hbf') hgr (fun k hk => own_ge ho1e.out hk)
                    have HO := Lib.hid hown1
                    clear hown1 hgr
                    go_wp2_with fail
                    go_roundg (NC - (i + 1))
                    case measure => omega
                    case rel =>
                      refine ⟨i + 1, by simp, by rw [HNC.out]; omega, by rw [HNC.out]; omega, ?_, hb20⟩
                      rw [HE.out]
                      refine Lib.hid ?_
                      rw [List.length_append, List.map_append]
                      exact HO.out
          · have q1 : ((i : Int) < (NC : Int)) = False := by simp; omega
            have ho1' := ho1.out
            rw [List.take_of_length_le (by rw [HNC.out]; omega), HREST2.out.1] at ho1'
            obtain ⟨A24, c24, rfl, hc24⟩ := own_slice ho1'
            have HSM := Lib.hid (same_eq (c := c24) (c' := c2) (IntsI.of_own ho1').any (HR2q.out.bel hb).any (by omega))
            clear ho1' ho1
            go_wp2_with fail
            refine (HSM.out).mono ?_
            rintro e w21 ⟨rfl, hb21⟩
            go_wp2_with fail
            go_ret
            exact ⟨rfl, bseq hw18 (bseq hb hb21)⟩
end Go.Proofs.YteekabaoocaghaaGreat
namespace Go.Proofs.YteekabaoocaghaaGreat.operateJoined
open Go.ChangeShapes Go.WideShapes Go.ChangeAt Go.RowKit
open Go.ChangeMaps (open_string shut_string)
set_option linter.unusedVariables false

theorem own : ownKnob Tryz.prog.godebug = none := by kernel_rfl
theorem laidOut : laidOutB Tryz.prog = true := by kernel_rfl

/-- a slice of integers that came in: it is nil; or it leads to a row of 'cap' cells, the numbers 'zs' -/
def IsRow (k : IntKind) (w : World) (a : Option Addr) (len cap : Nat) (zs : List Int) : Prop :=
  (a = none ∧ len = 0 ∧ cap = 0 ∧ zs = []) ∨
  ∃ x, a = some x ∧ len ≤ cap ∧ cap ≤ maxLen ∧ zs.length = cap ∧ (∀ i, i < zs.length → w.cell? (x.add i) = some (.int k (zs.getD i 0))) ∧ ∀ n ∈ zs, (Lit.int k n).wf = true
theorem fits_of {n : Int} (h : (Lit.int .i64 n).wf = true) : FitsI n := by
  have e1 : IntKind.i64.min = -9223372036854775808 := by decide
  have e2 : IntKind.i64.max = 9223372036854775807 := by decide
  unfold Lit.wf at h
  dsimp only at h
  rw [e1, e2, Bool.and_eq_true, decide_eq_true_eq, decide_eq_true_eq] at h
  exact h

set_option maxRecDepth 100000 in
theorem walk (a0 : Int) (a1 : Option Addr) (len1 cap1 : Nat) (z1 : List Int) (a2 a3 a4 b c : Int) (w : World) (w1 : IsRow .u8 w a1 len1 cap1 z1) (h2 : FitsI a2) (h3 : FitsI a3) (h4 : FitsI a4) (hb : FitsI b) (hc : FitsI c) :
    Calls Tryz.prog 3 #[.agg #[.int .i64 a0, .slice a1 len1 cap1, .int .i64 a2, .int .i64 a3, .int .i64 a4], .int .i64 b, .int .i64 c] w fun e w' => e = .returned (.bool true) ∧ Below w.heap.size w w' := by
  rcases w1 with ⟨rfl, rfl, rfl, rfl⟩ | ⟨x, rfl, hl, hm, hz, hcell, hwz⟩
  · exact joined_any ⟨a0, a2, a3, a4, []⟩ b c none 0 0 w ⟨rfl, fun h => absurd h (by omega)⟩ (fun x hx => by cases hx) h2 h3 h4 hb hc
  · refine joined_any ⟨a0, a2, a3, a4, z1.take len1⟩ b c (some x) len1 cap1 w ⟨by simp; omega, fun _ => ⟨x, rfl, trivial, fun j u hu => ?_⟩⟩ (fun y hy => ?_) h2 h3 h4 hb hc
    · rw [List.getElem?_map, List.getElem?_take] at hu
      split at hu
      · rename_i hj
        rw [List.getElem?_eq_getElem (by omega)] at hu
        have := hcell j (by omega)
        rw [List.getD_eq_getElem?_getD, List.getElem?_eq_getElem (by omega)] at this
        rw [this]
        exact hu
      · cases hu
    · have := hwz y (List.mem_of_mem_take hy)
      have e1 : IntKind.u8.min = 0 := by decide
      have e2 : IntKind.u8.max = 255 := by decide
      unfold Lit.wf at this
      dsimp only at this
      rw [e1, e2, Bool.and_eq_true, decide_eq_true_eq, decide_eq_true_eq] at this
      omega

theorem cellsI : Tryz.prog.cellsOf 3 = 1 := by kernel_rfl
theorem cellsS : Tryz.prog.cellsOf 22 = 1 := by kernel_rfl
theorem cellsT : Tryz.prog.cellsOf 24 = 5 := by kernel_rfl
set_option maxRecDepth 100000 in
/-- the first argument, opened -/
theorem open_start {H : Type} {enc : TypeId × Value → H} {W : World} {cs : Array Value} {d : DataW H} {p : List MemPlace} (hcs : cs.size = 5) (h : DataW.Trod enc Tryz.prog W 0 (fun _ => true) true 24 (.agg cs) d p) :
    ∃ (a0 : Int) (a1 : Option Addr) (len1 cap1 : Nat) (z1 : List Int) (a2 a3 a4 : Int), cs = #[.int .i64 a0, .slice a1 len1 cap1, .int .i64 a2, .int .i64 a3, .int .i64 a4] ∧ IsRow .u8 W a1 len1 cap1 z1 ∧ FitsI a2 ∧ FitsI a3 ∧ FitsI a4 := by
  obtain ⟨fuel, hf⟩ := h
  obtain ⟨xs, n, _, hx, hl, hxl, hfi⟩ := DataW.trod_struct Tryz.underlying24 hf
  rcases cs with ⟨l⟩
  match l, hcs with
  | [c0, c1, c2, c3, c4], _ =>
    have g0 := hfi 0 _ rfl
    have g1 := hfi 1 _ rfl
    have g2 := hfi 2 _ rfl
    have g3 := hfi 3 _ rfl
    have g4 := hfi 4 _ rfl
    simp [Value.cells, cellsI, cellsS] at g0 g1 g2 g3 g4
    have hxl' : xs.length = 5 := hxl
    rw [List.getElem?_eq_getElem (by omega)] at g0 g1 g2 g3 g4
    obtain ⟨n0, e0, _, w0⟩ := DataW.trod_int Tryz.underlying3 g0
    obtain ⟨n2, e2, _, w2⟩ := DataW.trod_int Tryz.underlying3 g2
    obtain ⟨n3, e3, _, w3⟩ := DataW.trod_int Tryz.underlying3 g3
    obtain ⟨n4, e4, _, w4⟩ := DataW.trod_int Tryz.underlying3 g4
    injection e0 with e0
    injection e2 with e2
    injection e3 with e3
    injection e4 with e4
    rcases open_ints Tryz.underlying22 Tryz.underlying5 (by kernel_rfl) g1 with ⟨e1, _⟩ | ⟨x, l, c, zs, e1, _, hl, hm, hz, _, hcell, hwz⟩
    · injection e1 with e1
      exact ⟨n0, none, 0, 0, [], n2, n3, n4, by rw [e0, e1, e2, e3, e4], .inl ⟨rfl, rfl, rfl, rfl⟩, fits_of w2, fits_of w3, fits_of w4⟩
    · injection e1 with e1
      exact ⟨n0, some x, l, c, zs, n2, n3, n4, by rw [e0, e1, e2, e3, e4], .inr ⟨_, rfl, hl, hm, by simpa using hz, hcell, hwz⟩, fits_of w2, fits_of w3, fits_of w4⟩

/-! ### the row's step -/
set_option maxRecDepth 100000 in
theorem lifted (os : Os) (started : os.Started) (H : Type) (enc : TypeId × Value → H) :
    ReturnsInHanded {} Tryz.checked os 3 .any (Rows.operateJoinedSpec.pre6 enc Tryz.prog Tryz.f3 Rows.operateJoinedRow.domain false) (Rows.operateJoinedSpec.post enc Tryz.prog Tryz.f3 false true false false) := by
  refine returnsInHanded_of_change (C := Tryz.checked) own started (by kernel_rfl) Tryz.func3
    (ChangeSpec.witness6 (enc := enc) (C := Tryz.checked) false ⟨#[], #[.agg #[.int .i64 0, .slice none 0 0, .int .i64 0, .int .i64 0, .int .i64 0], .int .i64 0, .int .i64 0], []⟩ 8 (by kernel_rfl) (by kernel_rfl) (by kernel_rfl) (by kernel_rfl)) ?_
  intro W base args ds gs before hval0 hW hcnd _
  have hval : ∀ (j : Nat) t v, Tryz.f3.params[j]? = some t → args[j]? = some v → Value.okWide Tryz.prog W .any base t v := hval0
  have hW' := hW
  obtain ⟨p, q, hA0, hV, rfl, hfz, hnd⟩ := hW
  have hA : DataW.TrodAll enc Tryz.prog W 0 (fun _ => true) true Tryz.f3.params.toList args.toList ds p := hA0
  rw [Tryz.params3] at hA hval
  obtain ⟨v0, vs0, d0, ds0, p0, q0, hargs, rfl, rfl, h0, r0⟩ := trodAll_cons hA
  obtain ⟨v1, vs1, d1, ds1, p1, q1, rfl, rfl, rfl, h1, r1⟩ := trodAll_cons r0
  obtain ⟨v2, vs2, d2, ds2, p2, q2, rfl, rfl, rfl, h2, r2⟩ := trodAll_cons r1
  obtain ⟨rfl, rfl, rfl⟩ := trodAll_nil r2
  obtain rfl : args = #[v0, v1, v2] := by cases args; simp_all
  obtain ⟨rfl, rfl⟩ := trodVars_none hV
  obtain ⟨cs, rfl, hcs⟩ := okWide_struct Tryz.underlying24 (hval 0 24 v0 rfl rfl)
  rw [cellsT] at hcs
  have k0 := h0
  have lt0 : ∀ x ∈ p0, x.block < W.heap.size := by obtain ⟨m, hm⟩ := k0; exact DataW.trod_lt m _ _ _ hm
  obtain ⟨a0, a1, len1, cap1, z1, a2, a3, a4, rfl, hrow, f2, f3, f4⟩ := open_start hcs h0
  obtain ⟨b, rfl, rfl, rfl, wb⟩ := open_int Tryz.underlying3 (hval 1 3 v1 rfl rfl) h1
  obtain ⟨c, rfl, rfl, rfl, wc⟩ := open_int Tryz.underlying3 (hval 2 3 v2 rfl rfl) h2
  clear hA0 hval0
  refine (walk a0 a1 len1 cap1 z1 a2 a3 a4 b c W hrow f2 f3 f4 (fits_of wb) (fits_of wc)).mono fun e W' ⟨he, bel⟩ => ?_
  subst he
  exact ⟨_, rfl, _, _, _, [], _, [], hW', trodAll_mk1 (shut_bool Tryz.underlying4 _), (trodAll_cons_mk (Below.trod laidOut (by kernel_rfl) (of_decide_eq_true (by kernel_rfl)) k0 bel lt0) (trodAll_cons_mk (shut_int Tryz.underlying3 wb) (trodAll_cons_mk (shut_int Tryz.underlying3 wc) trodAll_mk0))), rfl, bel.frame _, fun h => by cases h⟩

theorem over : Rows.operateJoinedRow.holds Tryz.pinned (OpenSpec.ofChange Rows.operateJoinedSpec) :=
  OpenClaim.holds_of_wide 3 Tryz.f3 rfl rfl rfl rfl rfl rfl rfl ⟨rfl, rfl, rfl, rfl, rfl⟩ rfl rfl rfl rfl rfl (by kernel_rfl) Tryz.func3 (by kernel_rfl)
    (of_decide_eq_true (by kernel_rfl)) (by unfold Func.isWrapper; first | (rw [if_pos (by decide +kernel)]; kernel_rfl) | (rw [if_neg (by decide +kernel)]; exact ⟨rfl, rfl⟩))
    (fun os started H enc _ => lifted os started H enc)

/-- the statement -/
theorem proved : Rows.OperateJoinedSaid := over
end Go.Proofs.YteekabaoocaghaaGreat.operateJoined
