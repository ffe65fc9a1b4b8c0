/-
  Package object, first part: the cells of a line. Package object, second part: here, checked, times.
-/
import Derived.Test.YtoafogibfokblaaGreatLRow6
import Derived.Test.YtoafogibfokblaaGreatLOpen
set_option linter.unusedSimpArgs false
set_option linter.unusedVariables false
namespace Go.Proofs.YtoafogibfokblaaGreat
open Go.RowKit

theorem cell_info : (Tryz.prog.info? 75).map (fun i => (i.zero, i.size, i.bytes)) = some (some (.agg #[.int .i64 0, .int .i64 0, .int .i64 0, .bool false, .int .i64 0]), 5, 40) := by kernel_rfl
theorem cell_row : ∃ i z, Tryz.prog.info? 75 = some i ∧ i.zero = some z ∧ i.size = 5 ∧ i.bytes = 40 ∧ z.cells.size = 5 := by
  obtain ⟨i, h1, h2, h3, h4⟩ := info_parts cell_info
  exact ⟨i, _, h1, h2, h3, h4, rfl⟩
noncomputable def cellV (F : Int) (C : List Int) (k : Nat) : List Value :=
  [.int .i64 (F + (mkb C k : Int)), .int .i64 (F + (mkb C (k + 1) : Int)), .int .i64 (kd C k), .bool ((mkb C (k + 1) : Int) == (mkb C k : Int) + 1), .int .i64 (C.getD (mkb C k) 0)]
noncomputable def cellsL (F : Int) (C : List Int) : Nat → List Value
  | 0 => []
  | n + 1 => cellsL F C n ++ cellV F C n
theorem cellsL_len (F : Int) (C : List Int) (n : Nat) : (cellsL F C n).length = n * 5 := by
  induction n with
  | zero => rfl
  | succ n ih => simp only [cellsL, List.length_append, ih]; simp [cellV]; omega
theorem cellsL_at (F : Int) (C : List Int) {n k j : Nat} (hk : k < n) (hj : j < 5) : (cellsL F C n)[k * 5 + j]? = (cellV F C k)[j]? := by
  induction n with
  | zero => omega
  | succ n ih =>
    have hl := cellsL_len F C n
    rw [cellsL]
    rcases Nat.eq_or_lt_of_le (show k ≤ n by omega) with e | e
    · subst e
      rw [List.getElem?_append_right (by omega), show k * 5 + j - (cellsL F C k).length = j by omega]
    · rw [List.getElem?_append_left (by omega)]
      exact ih e
theorem cell_one (a b c d : Int) (x : Bool) : ∀ u ∈ [Value.int .i64 a, .int .i64 b, .int .i64 c, .bool x, .int .i64 d], u.oneCell' = true := by
  intro u hu
  simp at hu
  rcases hu with rfl | rfl | rfl | rfl | rfl <;> rfl
theorem keep2_alloc {w : World} {p q : Addr} {u v : Value} (o : Obj) (h : w.cell? p = some u ∧ w.cell? q = some v) : (w.alloc o).cell? p = some u ∧ (w.alloc o).cell? q = some v := keep2 (balloc (Below.refl _ _)) h
theorem ownsRow_mono {w : World} {B B' e size n : Nat} {v : Value} {xs : List Value} (h : w.ownsRow B e size v n xs) (hB : B' ≤ B) : w.ownsRow B' e size v n xs := by
  refine ⟨h.1, ?_⟩
  rcases h.2 with hn | ⟨g, cap, cur, e1, hg, rest⟩
  · exact .inl hn
  · exact .inr ⟨g, cap, cur, e1, Nat.le_trans hB hg, rest⟩
def CellR (F : Int) (C : List Int) (w1 : World) (N k : Nat) (q5 q14 : Value) (wr : World) : Prop :=
  ∃ (i : Nat) (v : Value), q5 = v ∧ q14 = .int .i64 (i : Int) ∧ i ≤ N ∧ N - i ≤ k ∧ wr.ownsRow w1.heap.size 75 5 v i (cellsL F C i) ∧ Below w1.heap.size w1 wr
set_option maxRecDepth 100000 in
set_option maxHeartbeats 2000000 in
theorem cellsOf_any (D : Nat → Prop) (A : Option Addr) (n c : Nat) (C : List Int) (F : Int) (w : World) (hl : Ints w D A n C) (hn : C.length ≤ 1073741824) (hF : 0 ≤ F ∧ F ≤ 1073741824) :
    Calls Tryz.prog 50 #[.slice A n c, .int .i64 F] w fun e w' => ∃ v, e = .returned v ∧ w'.ownsRow w.heap.size 75 5 v (nC C) (cellsL F C (nC C)) ∧ Below w.heap.size w w' := by
  have hlen := hl.len
  have hnle := nC_le C
  have hbr := breaks_any D A n c C w hl (by omega)
  obtain ⟨N, hN⟩ : ∃ N, nC C = N := ⟨_, rfl⟩
  have hal := allB_len C
  rw [hN] at hnle hal ⊢
  have HBR := Lib.hid hbr
  have HNN := Lib.hid hN
  have HLL := Lib.hid hlen
  have hCn : C.length ≤ n ∧ n ≤ C.length := by omega
  clear hbr hN hlen
  go_enter Tryz.func50, Tryz.ntmps50
  go_wp2_with fail
  refine (HBR.out).mono ?_
  rintro e w1 ⟨v, rfl, hown, hb1⟩
  rw [hal] at hown
  obtain ⟨A2, c2, rfl, hc2⟩ := own_slice hown
  obtain ⟨M, hM⟩ : ∃ M, N + 1 = M := ⟨_, rfl⟩
  rw [hM] at hown
  have hI : Ints w1 (fun b => w.heap.size ≤ b) A2 M (allB C) := Reads.of_own hown
  obtain ⟨gb, ob, rfl, _, hcb⟩ := ints_form hI (by omega)
  have hcm : ∀ k, k < M → w1.cell? ⟨gb, ob + k, none⟩ = some (.int .i64 (mkb C k : Int)) := fun k hk => by rw [hcb k hk, allB_at (by rw [HNN.out]; omega)]
  have hl1 := Reads.below hl hb1
  have hwr : IntKind.i64.wrap ((M : Int) - 1) = (N : Int) := by rw [show (M : Int) - 1 = (N : Int) by omega]; exact IntWalk.i64_in _ (by omega)
  have HCM := Lib.hid hcm
  have HMM := Lib.hid hM
  have hMN : N < M ∧ M ≤ N + 1 := by omega
  rw [hM]
  clear hcm hcb hI hown hM hal hl
  go_wp2_with fail
  go_loopg [5, 14] N (fun k p q wr => CellR F C w1 N k p q wr)
  case atStart => exact ⟨0, _, rfl, rfl, by omega, by omega, World.ownsRow_nil _ _ _ _, Below.refl _ _⟩
  case round =>
    obtain ⟨i, v, rfl, rfl, hi, hk, ho, hw⟩ := hrel
    have HO := Lib.hid ho
    clear ho
    by_cases hlt : i < N
    · have hstep := mk_step (C := C) (k := i) (by rw [HNN.out]; exact hlt)
      have hmle := mk_le (C := C) (k := i + 1) (by rw [HNN.out]; omega)
      obtain ⟨ga, oa, rfl, _, hca⟩ := ints_form (Reads.below hl1 hw) (by omega)
      have b1 := HCM.out i (by omega)
      have b2 := HCM.out (i + 1) (by omega)
      have c3 := hca (mkb C i) (by omega)
      obtain ⟨i1, hi1⟩ : ∃ x, i + 1 = x := ⟨_, rfl⟩
      obtain ⟨a, ha⟩ : ∃ a, C.getD (mkb C i) 0 = a := ⟨_, rfl⟩
      obtain ⟨m, hm⟩ : ∃ m, mkb C i = m := ⟨_, rfl⟩
      obtain ⟨m1, hm1⟩ : ∃ m, mkb C (i + 1) = m := ⟨_, rfl⟩
      have hcv : cellV F C i = [.int .i64 (F + (m : Int)), .int .i64 (F + (m1 : Int)), .int .i64 (wordF a), .bool ((m1 : Int) == (m : Int) + 1), .int .i64 a] := by
        rw [← ha, ← hm, ← hm1]
        rfl
      rw [hm1] at b2 hmle
      rw [hm] at b1 c3 hstep ha
      rw [hi1] at b2
      have c1 := cell_keep hw b1
      have c2' := cell_keep hw b2
      have HB := Lib.hid (And.intro b1 b2)
      clear b1 b2
      rw [ha] at c3
      have hsum : IntKind.i64.wrap ((i : Int) + 1) = (i1 : Int) := by rw [show (i : Int) + 1 = (i1 : Int) by omega]; exact IntWalk.i64_in _ (by omega)
      have hs2 : IntKind.i64.wrap (F + (m : Int)) = F + (m : Int) := IntWalk.i64_in _ (by omega)
      have hs3 : IntKind.i64.wrap (F + (m1 : Int)) = F + (m1 : Int) := IntWalk.i64_in _ (by omega)
      have hs4 : IntKind.i64.wrap ((m : Int) + 1) = (m : Int) + 1 := IntWalk.i64_in _ (by omega)
      have z1 : (0 : Int) ≤ (i : Int) ∧ (i : Int) < (M : Int) ∧ (0 : Int) ≤ (i1 : Int) ∧ (i1 : Int) < (M : Int) ∧ (0 : Int) ≤ (m : Int) ∧ (m : Int) < (n : Int) := by omega
      have z2 : i < M ∧ i1 < M ∧ m < n := by omega
      have zc : ((i : Int) < (N : Int)) = True := by simp; omega
      have HCV := Lib.hid hcv
      have HI1 := Lib.hid hi1
      obtain ⟨z1a, z1b, z1c, z1d, z1e, z1f⟩ := z1
      obtain ⟨z2a, z2b, z2c⟩ := z2
      obtain ⟨i0, zz, hi0, hz0, hz1, hz2, hz3⟩ := cell_row
      clear hcv hi1 hm hm1 ha hca
      go_upto_region 7 with fail
      have s0 : wr.drew.cell? ⟨gb, ob + i, none⟩ = some (.int .i64 (m : Int)) ∧ wr.drew.cell? ⟨gb, ob + i1, none⟩ = some (.int .i64 (m1 : Int)) := ⟨c1, c2'⟩
      have hod := ownsRow_below HO.out (Below.drew (Below.refl _ wr))
      have HOD := Lib.hid hod
      clear hod
      go_region_held3 (fun w' => w'.cell? ⟨gb, ob + i, none⟩ = some (.int .i64 (m : Int)) ∧ w'.cell? ⟨gb, ob + i1, none⟩ = some (.int .i64 (m1 : Int))) (first | (with_reducible assumption) | (exact keep2_alloc _ s5)) (first | (go_at_call 15; (with_reducible refine (word_any _ _).mono ?_); rintro e w5 ⟨rfl, hb5⟩; have s5 := keep2 hb5 s0; have ho5 := ownsRow_below HOD.out hb5; have hw5 := bseq hw (bdrew hb5)) | (rw [if_pos (by rfl)]; refine wp_append_own _ (.tmp 24) (.tmp 53) 71 rfl w1.heap.size 75 i0 zz 5 40 Tryz.underlying71 hi0 hz0 hz1 hz2 hz3 (by decide) u5 i _ rfl (ho5.alloc _) ⟨w5.heap.size, 0, none⟩ 1 1 [.int .i64 (F + (m : Int)), .int .i64 (F + (m1 : Int)), .int .i64 (wordF a), .bool ((m1 : Int) == (m : Int) + 1), .int .i64 a] rfl rfl (cells_new _ _ _) (cell_one _ _ _ _ _) (by unfold maxLen; omega) (by omega) (by have := hw5.size; simp; omega) ?_; intro v1 w6 hown6 hgr _; have hw6 : Below w1.heap.size w1 w6 := below_grown2 (hw5.alloc hw5.size _) hgr (fun k hk => own_ge ho5 hk); have s7 := keep2 hw6 HB.out))
      all_goals
        have H6 := Lib.hid hown6
        clear hown6 ho5 s0 s5 s7 c1 c2' c3
        go_wp2_with fail
        go_roundg (N - i1)
        case measure => have := HI1.out; omega
        case rel =>
          have hi1 := HI1.out
          refine ⟨i1, v1, rfl, by go_num, by omega, Nat.le_refl _, ?_, hw6⟩
          rw [← hi1, cellsL, HCV.out]
          exact H6.out
    · have hee : i = N := by omega
      subst hee
      have zc : ((i : Int) < (i : Int)) = False := by simp
      go_wp2_with fail
      go_ret
      exact ⟨_, rfl, ownsRow_mono HO.out hb1.size, bseq hb1 hw⟩
end Go.Proofs.YtoafogibfokblaaGreat
namespace Go.Proofs.YtoafogibfokblaaGreat
open Go.RowKit

theorem cells_form {w : World} {D : Nat → Prop} {A : Option Addr} {n : Nat} {F : Int} {C : List Int} (h : Reads w D 5 A n (cellsL F C n)) (hn : 0 < n) :
    ∃ b off, A = some ⟨b, off, none⟩ ∧ D b ∧ ∀ k, k < n → (w.cell? ⟨b, off + k * 5, none⟩ = some (.int .i64 (F + (mkb C k : Int))) ∧ w.cell? ⟨b, off + k * 5 + 1, none⟩ = some (.int .i64 (F + (mkb C (k + 1) : Int))) ∧
      w.cell? ⟨b, off + k * 5 + 2, none⟩ = some (.int .i64 (kd C k)) ∧ w.cell? ⟨b, off + k * 5 + 3, none⟩ = some (.bool ((mkb C (k + 1) : Int) == (mkb C k : Int) + 1)) ∧ w.cell? ⟨b, off + k * 5 + 4, none⟩ = some (.int .i64 (C.getD (mkb C k) 0))) := by
  obtain ⟨b, off, e, hD, hc⟩ := Reads.form h hn (by decide)
  refine ⟨b, off, e, hD, fun k hk => ?_⟩
  have hx := fun (j : Nat) (hj : j < 5) (u : Value) (hu : (cellV F C k)[j]? = some u) => hc (k * 5 + j) u ((cellsL_at F C hk hj).trans hu)
  exact ⟨hx 0 (by decide) _ rfl, hx 1 (by decide) _ rfl, hx 2 (by decide) _ rfl, hx 3 (by decide) _ rfl, hx 4 (by decide) _ rfl⟩
/-- which cell is an offset's own -/
noncomputable def hereX (C : List Int) (j : Nat) : Int := if j < nC C then (j : Int) else (nC C : Int) - 1
def HereR (F at_ : Int) (C : List Int) (N : Nat) (w1 : World) (k : Nat) (q30 : Value) (wr : World) : Prop :=
  ∃ i : Nat, q30 = .int .i64 (i : Int) ∧ i ≤ N ∧ N - i ≤ k ∧ Hid (∀ k, k < i → F + (mkb C (k + 1) : Int) ≤ at_) ∧ Below w1.heap.size w1 wr
def HerePost (F : Int) (C : List Int) (j : Nat) (w : World) (e : Ending) (w' : World) : Prop :=
  ∃ v, e = .returned (.tuple #[v, .int .i64 (hereX C j)]) ∧ w'.ownsRow w.heap.size 75 5 v (nC C) (cellsL F C (nC C)) ∧ Below w.heap.size w w'
theorem line4 {w : World} {b : Nat} {T : TypeId} {L : Ln} (h : Blk w b T L.cells) :
    w.cell? ⟨b, 0, none⟩ = some (.int .i64 L.from_) ∧ w.cell? ⟨b, 1, none⟩ = some (.int .i64 L.to_) ∧ w.cell? ⟨b, 2, none⟩ = some (.int .i64 L.next) ∧ w.cell? ⟨b, 3, none⟩ = some (.int .i64 L.brk) := ⟨h.cell 0, h.cell 1, h.cell 2, h.cell 3⟩
set_option maxRecDepth 100000 in
set_option maxHeartbeats 2000000 in
theorem here_any (D : Nat → Prop) (g : Nat) (enc : Int) (ds : List (Int × Int)) (at_ : Int) (r j : Nat) (w : World) (h : TextAt w D g enc ds) (hr : at_ = (lineF ds (ofF ds at_)).from_ + (r : Int)) (hj : InC (cont ds (ofF ds at_)) r j) :
    Calls Tryz.prog 28 #[.pointer (some ⟨g, 0, none⟩), .int .i64 at_] w fun e w' => HerePost (lineF ds (ofF ds at_)).from_ (cont ds (ofF ds at_)) j w e w' := by
  have hp := h.pos
  have hix := ofF_le ds at_
  have hbd := lineF_bd hp hix
  have hcl := cont_len hp hix
  have hlen := h.len
  have hof := of_line D g enc ds at_ w h
  obtain ⟨I, hI⟩ : ∃ I, ofF ds at_ = I := ⟨_, rfl⟩
  rw [hI] at hbd hcl hr hj hof hix ⊢
  have hal := fun (wy : World) (hy : Below w.heap.size w wy) => at_line D g enc ds I wy (h.below hy) hix
  have hta := fun (wy : World) (hy : Below w.heap.size w wy) => tatoms_any D g enc ds (lineF ds I).from_ (lineF ds I).to_ wy (h.below hy) (by omega) (by omega)
  obtain ⟨C, hC⟩ : ∃ C, cont ds I = C := ⟨_, rfl⟩
  have hC2 : seg (lineF ds I).from_ (lineF ds I).to_ (ds.map Prod.fst) = C := hC
  rw [hC] at hcl hj ⊢
  rw [hC2] at hta
  obtain ⟨L, hL⟩ : ∃ L, lineF ds I = L := ⟨_, rfl⟩
  rw [hL] at hbd hcl hr hal hta ⊢
  obtain ⟨x0, x1, x2, x3⟩ := L
  unfold Ln.cells at hal
  dsimp only at hal hta hr hbd hcl ⊢
  have hl0 : 0 ≤ x0 ∧ x0 ≤ 1073741824 := by omega
  have hc0 : C.length ≤ 1073741824 := by omega
  have hnn := nC_le C
  have HOF := Lib.hid hof
  have HAL := Lib.hid hal
  have HTA := Lib.hid hta
  have HJ := Lib.hid hj
  have HR := Lib.hid hr
  clear hof hal hta hj hr hI hC hC2 hL hp hlen
  go_enter Tryz.func28, Tryz.ntmps28
  go_wp2_with fail
  refine (HOF.out).mono ?_
  rintro e w1 ⟨rfl, hb1⟩
  go_wp2_with fail
  refine (HAL.out _ hb1).mono ?_
  rintro e w2 ⟨rfl, hb2⟩
  have hW2 := bseq hb1 hb2
  have hW3 : Below w.heap.size w (w2.alloc (.cells #[.int .i64 x0, .int .i64 x1, .int .i64 x2, .int .i64 x3] 33)) := balloc hW2
  obtain ⟨g0, g1, g2, g3⟩ := line4 (L := ⟨x0, x1, x2, x3⟩) (Blk.new w2 33 #[.int .i64 x0, .int .i64 x1, .int .i64 x2, .int .i64 x3])
  dsimp only at g0 g1 g2 g3
  go_upto_region 2 with fail
  go_cut [8] (fun s8 wx => wx.ownsRow w.heap.size 75 5 s8 (nC C) (cellsL x0 C (nC C)) ∧ Below w.heap.size w wx)
  case first =>
    have s0 := keep2 (Below.drew (Below.refl _ _)) ⟨g0, g1⟩
    go_region_held3 (fun w' => w'.cell? ⟨w2.heap.size, 0, none⟩ = some (.int .i64 x0) ∧ w'.cell? ⟨w2.heap.size, 1, none⟩ = some (.int .i64 x1)) (first | (with_reducible assumption)) (first | (go_at_call 13; (with_reducible refine (HTA.out _ (Below.drew hW3)).mono ?_); rintro e w5 ⟨v, rfl, hown, hb5⟩; obtain ⟨A, c, rfl, hcc⟩ := own_slice hown; have hI : Ints _ _ A _ C := Reads.of_own hown; have s5 := keep2 hb5 s0) | (go_at_call 50; (with_reducible refine (cellsOf_any _ A _ c C x0 _ hI hc0 hl0).mono ?_); rintro e w6 ⟨v, rfl, hown6, hb6⟩; have s6 := keep2 hb6 s5))
    all_goals
      go_wp2_with fail
      go_meet
      have hb5' := bseq hW3 (bdrew hb5)
      exact ⟨ownsRow_mono hown6 hb5'.size, bseq hb5' hb6⟩
  case rest =>
    obtain ⟨hown, hW4⟩ := hcut
    obtain ⟨A, c, rfl, hcc⟩ := own_slice hown
    have HO := Lib.hid hown
    clear hown g0 g1 g2 g3
    obtain ⟨N, hN⟩ : ∃ N, nC C = N := ⟨_, rfl⟩
    have HNN := Lib.hid hN
    rw [hN] at hcc hnn
    rw [hN]
    have HRD := Lib.hid (Reads.of_own HO.out)
    rw [hN] at HRD
    clear hN
    go_wp2_with fail
    go_loopg [30] N (fun k q wr => HereR x0 at_ C N wc k q wr)
    case atStart => exact ⟨0, rfl, by omega, by omega, Lib.hid (fun k hk => absurd hk (by omega)), Below.refl _ _⟩
    case round =>
      obtain ⟨i, rfl, hi, hk, hlo, hw⟩ := hrel
      by_cases hlt : i < N
      · obtain ⟨gc, oc, rfl, _, hcc5⟩ := cells_form HRD.out (by omega)
        obtain ⟨k0, k1, k2, k3, k4⟩ := hcc5 i hlt
        replace k0 := cell_keep hw k0
        replace k1 := cell_keep hw k1
        replace k2 := cell_keep hw k2
        replace k3 := cell_keep hw k3
        replace k4 := cell_keep hw k4
        obtain ⟨m, hm⟩ : ∃ m : Int, x0 + (mkb C i : Int) = m := ⟨_, rfl⟩
        obtain ⟨m1, hm1⟩ : ∃ m : Int, x0 + (mkb C (i + 1) : Int) = m := ⟨_, rfl⟩
        obtain ⟨tb, htb⟩ : ∃ b, ((mkb C (i + 1) : Int) == (mkb C i : Int) + 1) = b := ⟨_, rfl⟩
        obtain ⟨tk, htk⟩ : ∃ b, kd C i = b := ⟨_, rfl⟩
        obtain ⟨ta, hta⟩ : ∃ b, C.getD (mkb C i) 0 = b := ⟨_, rfl⟩
        rw [hm] at k0
        rw [hm1] at k1
        rw [htk] at k2
        rw [htb] at k3
        rw [hta] at k4
        have HM1 := Lib.hid hm1
        have hsum : IntKind.i64.wrap ((i : Int) + 1) = (i : Int) + 1 := IntWalk.i64_in _ (by omega)
        clear hm hm1 htb htk hta hcc5
        by_cases hat : at_ < m1
        · go_wp2_with fail
          go_ret2
          have hin : InC C r i := by
            have hr := HR.out
            have hm1 := HM1.out
            refine ⟨by rw [HNN.out]; omega, ?_, fun k hk hk2 => ?_⟩
            · rcases Nat.eq_zero_or_pos i with h0 | h0
              · rw [h0, mk_zero]; omega
              · have := hlo.out (i - 1) (by omega)
                rw [show i - 1 + 1 = i by omega] at this
                omega
            · have := mk_mono (C := C) (a := i + 1) (b := k) hk hk2
              omega
          have hji := hin.uniq HJ.out
          have hx : hereX C j = (i : Int) := by unfold hereX; rw [← hji, HNN.out, if_pos hlt]
          have hO2 := HO.out
          rw [HNN.out] at hO2
          refine ⟨.slice (some ⟨gc, oc, none⟩) N c, by rw [hx]; rfl, ?_, balloc (bseq hW4 hw)⟩
          rw [HNN.out]
          exact ownsRow_below hO2 (balloc hw)
        · go_wp2_with fail
          go_roundg (N - (i + 1))
          case measure => omega
          case rel =>
            refine ⟨i + 1, by go_num, by omega, Nat.le_refl _, Lib.hid (fun k hk => ?_), balloc hw⟩
            rcases Nat.eq_or_lt_of_le (show k ≤ i by omega) with h0 | h0
            · rw [h0, HM1.out]; omega
            · exact hlo.out k h0
      · have hee : i = N := by omega
        subst hee
        have hsub : IntKind.i64.wrap ((i : Int) - 1) = (i : Int) - 1 := IntWalk.i64_in _ (by omega)
        go_wp2_with fail
        go_ret2
        have hx : hereX C j = (i : Int) - 1 := by
          unfold hereX
          rw [HNN.out, if_neg]
          intro hji
          have h1 := HJ.out.next (by rw [HNN.out]; exact hji)
          have h2 := hlo.out (i - 1) (by omega)
          rw [show i - 1 + 1 = i by omega] at h2
          have h3 := mk_mono (C := C) (a := j + 1) (b := i) hji (Nat.le_of_eq HNN.out.symm)
          have h4 := HR.out
          have h5 := mk_last C
          rw [HNN.out] at h5
          have h6 := HJ.out.low
          omega
        have hO2 := HO.out
        rw [HNN.out] at hO2
        refine ⟨.slice A i c, by rw [hx]; rfl, ?_, bseq hW4 hw⟩
        rw [HNN.out]
        exact ownsRow_below hO2 hw
end Go.Proofs.YtoafogibfokblaaGreat
