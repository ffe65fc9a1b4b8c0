/-
  The walks of the document's decoder (package copyistref1), second part: eightAt, unitAt, At, Next.
-/
import Derived.Test.YtcdhfmkfkhhnoaaGreatLRf1
import Derived.Test.YtcdhfmkfkhhnoaaGreatLOpen
set_option linter.unusedSimpArgs false
set_option linter.unusedVariables false
namespace Go.Proofs.YtcdhfmkfkhhnoaaGreat
open Go.RowKit

theorem meantF_bd {l : List Int} (hb : Byt l) {n : Nat} (h0 : 1 ≤ n) (h1 : n ≤ 4) : -134217728 ≤ meantF l n ∧ meantF l n ≤ 134217728 := by
  rw [meantF_acc l h0 h1]
  have := hb.at_ 0
  exact accM_bd hb (by unfold leadN; (repeat' split) <;> omega) h1
theorem ref8_at {l : List Int} {n : Nat} (h0 : 1 ≤ n) (h1 : n ≤ 4) (hok : okR l n = true) (hno : ∀ k, 1 ≤ k → k < n → okR l k = false) : ref8 l = (meantF l n, (n : Int)) := by
  unfold ref8
  match n, h0, h1 with
  | 1, _, _ => rw [if_pos hok]; rfl
  | 2, _, _ => rw [if_neg (by rw [hno 1 (by omega) (by omega)]; decide), if_pos hok]; rfl
  | 3, _, _ => rw [if_neg (by rw [hno 1 (by omega) (by omega)]; decide), if_neg (by rw [hno 2 (by omega) (by omega)]; decide), if_pos hok]; rfl
  | 4, _, _ => rw [if_neg (by rw [hno 1 (by omega) (by omega)]; decide), if_neg (by rw [hno 2 (by omega) (by omega)]; decide), if_neg (by rw [hno 3 (by omega) (by omega)]; decide), if_pos hok]; rfl
theorem ref8_none {l : List Int} (hno : ∀ k, 1 ≤ k → k ≤ 4 → okR l k = false) : ref8 l = (-1 - l.getD 0 0, 1) := by
  unfold ref8
  rw [if_neg (by rw [hno 1 (by omega) (by omega)]; decide), if_neg (by rw [hno 2 (by omega) (by omega)]; decide), if_neg (by rw [hno 3 (by omega) (by omega)]; decide), if_neg (by rw [hno 4 (by omega) (by omega)]; decide)]
theorem scalarF_bd {a : Int} (h : scalarF a = true) : 0 ≤ a ∧ a ≤ 1114111 := by
  unfold scalarF at h
  rw [Bool.or_eq_true, decide_eq_true_eq, decide_eq_true_eq] at h
  omega
theorem eightL_len (a : Int) : 1 ≤ (eightL a).length ∧ (eightL a).length ≤ 4 := by unfold eightL; (repeat' split) <;> simp
def E8R (L : List Int) (w0 : World) (k : Nat) (q : Value) (wr : World) : Prop :=
  ∃ n : Nat, q = .int .i64 (n : Int) ∧ 1 ≤ n ∧ n ≤ 5 ∧ 5 - n ≤ k ∧ Hid (∀ k, 1 ≤ k → k < n → okR L k = false) ∧ Below w0.heap.size w0 wr
set_option maxRecDepth 100000 in
set_option maxHeartbeats 4000000 in
theorem reightAt_any (D : Nat → Prop) (A : Option Addr) (N c p : Nat) (l : List Int) (w : World) (hl : Bts w D A N l) (hB : Byt l) (hN : N ≤ 2147483648) (hp : p < N) :
    Calls Tryz.prog 94 #[.slice A N c, .int .i64 (p : Int)] w fun e w' => e = .returned (.tuple #[.int .i64 (ref8 (l.drop p)).1, .int .i64 (ref8 (l.drop p)).2]) ∧ Below w.heap.size w w' := by
  have hle := hl.len
  have hL : (l.drop p).length = N - p := by rw [List.length_drop, hle]
  have hL0 : (l.drop p).getD 0 0 = l.getD p 0 := by rw [getD_drop', Nat.add_zero]
  have hBL := hB.drop p
  have hm := fun (n : Nat) (w' : World) (h : n = 1 ∨ n = 2 ∨ n = 3 ∨ n = 4) (h2 : p + n ≤ N) (hb : Below w.heap.size w w') => rmeant_any D A N c p n l w' (Reads.below hl hb) hB hN h h2
  have hg := fun (m c' : Nat) (A' : Option Addr) (x : List Int) (w' : World) (hx : Bts w' Any A' m x) (hm : m ≤ 16) (hb : Below w.heap.size w w') => rbegins_any D Any A A' N c m c' p l x w' (Reads.below hl hb) hx hN hm (Nat.le_of_lt hp)
  have hbe := fun (x : List Int) (h : p + x.length ≤ N) => begB_eq l p x (by rw [hle]; exact h)
  obtain ⟨L, hLL⟩ : ∃ L, l.drop p = L := ⟨_, rfl⟩
  rw [hLL] at hm hL hL0 hBL hbe
  rw [hLL]
  have HM := Lib.hid hm
  have HG := Lib.hid hg
  have HBE := Lib.hid hbe
  have HL := Lib.hid hL
  have HL0 := Lib.hid hL0
  clear hm hg hbe hL hL0 hLL
  go_enter Tryz.func94, Tryz.ntmps94
  go_wp2_with fail
  go_loopg [6] 5 (fun k q wr => E8R L w k q wr)
  case atStart => exact ⟨1, rfl, by omega, by omega, by omega, Lib.hid (fun k h1 h2 => absurd h2 (by omega)), Below.refl _ _⟩
  case round =>
    obtain ⟨n, rfl, hn1, hn5, hk, hno, hb⟩ := hrel
    by_cases hgo : n ≤ 4 ∧ p + n ≤ N
    · obtain ⟨hg4, hgN⟩ := hgo
      have q1 : ((p : Int) + (n : Int) ≤ (N : Int)) = True := by simp; omega
      have hmb := meantF_bd hBL hn1 hg4
      have HM2 := HM.out n wr (by omega) hgN hb
      have hokd : okR L n = (decide (n ≤ L.length) && scalarF (meantF L n) && (eightL (meantF L n) == L.take n)) := rfl
      have hr8 := fun (h : okR L n = true) => ref8_at hn1 hg4 h hno.out
      obtain ⟨M, hM⟩ : ∃ M, meantF L n = M := ⟨_, rfl⟩
      rw [hM] at hmb HM2 hokd hr8
      have hlenL := HL.out
      have hle1 : decide (n ≤ L.length) = true := by simp; omega
      rw [hle1, Bool.true_and] at hokd
      have HM3 := Lib.hid HM2
      have HR := Lib.hid hr8
      have HOK := Lib.hid hokd
      clear HM2 hr8 hokd hle1 hM
      go_wp2_with fail
      refine (HM3.out).mono ?_
      rintro e w1 ⟨rfl, hb1⟩
      have hw1 := bseq hb hb1
      cases hsc : scalarF M with
      | false =>
        have hs := rscalar_any M w1
        rw [hsc] at hs
        have HS := Lib.hid hs
        have HSC := Lib.hid hsc
        clear hs hsc
        go_wp2_with fail
        refine (HS.out).mono ?_
        rintro e w2 ⟨rfl, rfl⟩
        go_wp2_with fail
        go_roundg (5 - (n + 1))
        case measure => omega
        case rel =>
          refine ⟨n + 1, by go_num, by omega, by omega, by omega, Lib.hid (fun k h1 h2 => ?_), hw1⟩
          rcases Nat.lt_or_ge k n with h | h
          · exact hno.out k h1 h
          · rw [show k = n by omega, HOK.out, HSC.out]; rfl
      | true =>
        have hs := rscalar_any M w1
        rw [hsc] at hs
        have hMb := scalarF_bd hsc
        have HS := Lib.hid hs
        have HSC := Lib.hid hsc
        clear hs hsc
        go_wp2_with fail
        refine (HS.out).mono ?_
        rintro e w2 ⟨rfl, rfl⟩
        go_wp2_with fail
        refine (reight_any M w1 hMb.1 hMb.2).mono ?_
        rintro e w3 ⟨v, rfl, hown, hb3⟩
        obtain ⟨A', c', rfl, _⟩ := own_slice hown
        have hxl := eightL_len M
        obtain ⟨X, hX⟩ : ∃ X, eightL M = X := ⟨_, rfl⟩
        rw [hX] at hown hxl
        rw [hX]
        have hw3 := bseq hw1 hb3
        have hbg := HG.out X.length c' A' X w3 (Reads.more (Reads.of_own hown) (fun _ _ _ => trivial) (by decide)) (by omega) hw3
        have hbe : X.length = n → begB l p X = decide (L.take X.length = X) := fun h => HBE.out X (by omega)
        obtain ⟨m, hm⟩ : ∃ m, X.length = m := ⟨_, rfl⟩
        rw [hm] at hbg hxl hbe
        rw [hm]
        obtain ⟨b, hbb⟩ : ∃ b, begB l p X = b := ⟨_, rfl⟩
        rw [hbb] at hbg hbe
        have HBG := Lib.hid hbg
        have HB2 := Lib.hid hbe
        have HX := Lib.hid hX
        have HMM := Lib.hid hm
        clear hbg hbe hbb hX hm hown
        by_cases hok : okR L n = true
        · have hxx := HOK.out
          rw [hok, HSC.out, HX.out, Bool.true_and] at hxx
          have hx3 : X = L.take n := by rw [eq_comm, beq_iff_eq] at hxx; exact hxx
          have hmn : m = n := by
            have := congrArg List.length hx3
            rw [List.length_take, HMM.out] at this
            omega
          have hbt : b = true := by
            rw [HB2.out hmn, decide_eq_true_eq, hmn]
            exact hx3.symm
          subst hmn
          subst hbt
          have HOK2 := Lib.hid hok
          clear hok hxx hx3
          go_wp2_with fail
          refine (HBG.out).mono ?_
          rintro e w4 ⟨rfl, hb4⟩
          have q2 : ((m : Int) == (m : Int)) = true := by simp
          go_wp2_with fail
          go_ret2
          exact ⟨by rw [HR.out HOK2.out]; rfl, bseq hw3 hb4⟩
        · have hok' : okR L n = false := by
            cases h : okR L n with
            | true => exact absurd h hok
            | false => rfl
          have hnext : Hid (∀ k, 1 ≤ k → k < n + 1 → okR L k = false) := Lib.hid (fun k h1 h2 => by
            rcases Nat.lt_or_ge k n with h | h
            · exact hno.out k h1 h
            · rw [show k = n by omega]; exact hok')
          by_cases hmn : m = n
          · have hbf : b = false := by
              cases hb0 : b with
              | false => rfl
              | true =>
                exfalso
                apply hok
                have h1 := HB2.out hmn
                rw [hb0, eq_comm, decide_eq_true_eq, hmn] at h1
                rw [HOK.out, HSC.out, HX.out, Bool.true_and, beq_iff_eq]
                exact h1.symm
            subst hmn
            subst hbf
            clear hok hok'
            go_wp2_with fail
            refine (HBG.out).mono ?_
            rintro e w4 ⟨rfl, hb4⟩
            have q2 : ((m : Int) == (m : Int)) = true := by simp
            go_wp2_with fail
            go_roundg (5 - (m + 1))
            case measure => omega
            case rel => exact ⟨m + 1, by go_num, by omega, by omega, by omega, hnext, bseq hw3 hb4⟩
          · clear hok hok'
            go_wp2_with fail
            refine (HBG.out).mono ?_
            rintro e w4 ⟨rfl, hb4⟩
            have q2 : ((m : Int) == (n : Int)) = false := by rw [beq_eq_false_iff_ne]; omega
            go_wp2_with fail
            go_roundg (5 - (n + 1))
            case measure => omega
            case rel => exact ⟨n + 1, by go_num, by omega, by omega, by omega, hnext, bseq hw3 hb4⟩
    · have hfin : ref8 L = (-1 - L.getD 0 0, 1) := ref8_none (fun k h1 h2 => by
        rcases Nat.lt_or_ge k n with h | h
        · exact hno.out k h1 h
        · unfold okR
          have := HL.out
          rw [show decide (k ≤ L.length) = false by rw [decide_eq_false_iff_not]; omega]
          rfl)
      rw [HL0.out] at hfin
      obtain ⟨ad, rfl, _, c0⟩ := Bts.at_ (Reads.below hl hb) hp
      obtain ⟨x, hx⟩ : ∃ x, l.getD p 0 = x := ⟨_, rfl⟩
      have bx := hB.at_ p
      rw [hx] at c0 hfin bx
      have HF := Lib.hid hfin
      clear hfin hx
      have hx' : ((n : Int) ≤ 4) = False ∨ (((n : Int) ≤ 4) = True ∧ ((p : Int) + (n : Int) ≤ (N : Int)) = False) := by simp; omega
      rcases hx' with q1 | ⟨q1, q2⟩
      all_goals
        go_wp2_with fail
        go_ret2
        exact ⟨by rw [HF.out]; rfl, hb⟩
set_option maxRecDepth 100000 in
set_option maxHeartbeats 2000000 in
theorem runitAt_any (o : Int) (D : Nat → Prop) (A : Option Addr) (N c p : Nat) (l : List Int) (w : World) (ho : o = 0 ∨ o = 1) (hl : Bts w D A N l) (hB : Byt l) (hN : N ≤ 2147483648) (hp : p ≤ N + 2) :
    Calls Tryz.prog 95 #[.int .i64 (o + 2), .slice A N c, .int .i64 (p : Int)] w fun e w' => e = .returned (.int .i64 (ref16u o (l.drop p))) ∧ Below w.heap.size w w' := by
  have hle := hl.len
  by_cases h2 : p + 2 ≤ N
  · obtain ⟨ad, rfl, _, c0⟩ := hl.at_ (show p < N by omega)
    obtain ⟨ad', hA, _, c1⟩ := hl.at_ (show p + 1 < N by omega)
    obtain rfl : ad = ad' := by injection hA
    have b0 := hB.at_ p
    have b1 := hB.at_ (p + 1)
    have hfin : ref16u o (l.drop p) = if o = 0 then l.getD p 0 + l.getD (p + 1) 0 * 256 else l.getD (p + 1) 0 + l.getD p 0 * 256 := by
      unfold ref16u unitF
      rw [if_neg (by rw [List.length_drop]; omega), getD_drop', getD_drop', Nat.add_zero]
    obtain ⟨x, hx⟩ : ∃ x, l.getD p 0 = x := ⟨_, rfl⟩
    obtain ⟨y, hy⟩ : ∃ x, l.getD (p + 1) 0 = x := ⟨_, rfl⟩
    rw [hx] at c0 b0 hfin
    rw [hy] at c1 b1 hfin
    have q1 : ((N : Int) < (p : Int) + 2) = False := by simp; omega
    have HF := Lib.hid hfin
    clear hfin hx hy hA
    have g1 : (0 : Int) ≤ (p : Int) := by omega
    have g2 : (p : Int) < (N : Int) := by omega
    have g3 : (0 : Int) ≤ (p : Int) + 1 := by omega
    have g4 : (p : Int) + 1 < (N : Int) := by omega
    have g5 : ((p : Int) + 1).toNat = p + 1 := by omega
    rw [add_pos ad (p + 1) (by omega)] at c1
    have m1 : IntKind.i64.wrap x = x := IntWalk.i64_in _ (by omega)
    have m2 : IntKind.i64.wrap y = y := IntWalk.i64_in _ (by omega)
    have m3 : IntKind.i64.wrap (256 * x) = 256 * x := IntWalk.i64_in _ (by omega)
    have m4 : IntKind.i64.wrap (256 * y) = 256 * y := IntWalk.i64_in _ (by omega)
    have m5 : IntKind.i64.wrap (x + 256 * y) = x + 256 * y := IntWalk.i64_in _ (by omega)
    have m6 : IntKind.i64.wrap (256 * x + y) = 256 * x + y := IntWalk.i64_in _ (by omega)
    have hs : IntKind.i64.wrap ((p : Int) + 1) = (p : Int) + 1 := IntWalk.i64_in _ (by omega)
    rcases ho with rfl | rfl
    · go_enter Tryz.func95, Tryz.ntmps95
      go_wp2_with fail
      go_quiet (fail)
      go_wp2_with fail
      go_ret
      exact ⟨ret_i (by rw [HF.out]; simp; omega), below_drewN (Below.refl _ _) _⟩
    · go_enter Tryz.func95, Tryz.ntmps95
      go_wp2_with fail
      go_quiet (fail)
      go_wp2_with fail
      go_ret
      exact ⟨ret_i (by rw [HF.out]; simp; omega), below_drewN (Below.refl _ _) _⟩
  · have q1 : ((N : Int) < (p : Int) + 2) = True := by simp; omega
    have hfin : ref16u o (l.drop p) = -1 := by unfold ref16u; rw [if_pos (by rw [List.length_drop]; omega)]
    rw [hfin]
    clear hfin
    rcases ho with rfl | rfl
    all_goals
      go_enter Tryz.func95, Tryz.ntmps95
      go_wp2_with fail
      go_ret
      exact ⟨rfl, Below.refl _ _⟩
theorem ref16u_bd (o : Int) (l : List Int) (h : Byt l) : -1 ≤ ref16u o l ∧ ref16u o l < 65536 := by
  unfold ref16u
  have := unitF_bd o l h
  split <;> omega
set_option maxRecDepth 100000 in
set_option maxHeartbeats 2000000 in
theorem rat_any (enc : Int) (D : Nat → Prop) (A : Option Addr) (N c p : Nat) (l : List Int) (w : World) (he : enc = 1 ∨ enc = 2 ∨ enc = 3 ∨ enc = 4) (hl : Bts w D A N l) (hB : Byt l) (hN : N ≤ 2147483648) (hp : p < N) :
    Calls Tryz.prog 68 #[.int .i64 enc, .slice A N c, .int .i64 (p : Int)] w fun e w' => e = .returned (.tuple #[.int .i64 (refAt enc (l.drop p)).1, .int .i64 (refAt enc (l.drop p)).2]) ∧ Below w.heap.size w w' := by
  have hL0 : (l.drop p).getD 0 0 = l.getD p 0 := by rw [getD_drop', Nat.add_zero]
  have bx := hB.at_ p
  obtain ⟨ad, rfl, _, c0⟩ := hl.at_ hp
  obtain ⟨x, hx⟩ : ∃ x, l.getD p 0 = x := ⟨_, rfl⟩
  rw [hx] at hL0 c0 bx
  have h16 : ∀ o : Int, o = 0 ∨ o = 1 → Calls Tryz.prog 68 #[.int .i64 (o + 2), .slice (some ad) N c, .int .i64 (p : Int)] w fun e w' => e = .returned (.tuple #[.int .i64 (ref16 o (l.drop p)).1, .int .i64 (ref16 o (l.drop p)).2]) ∧ Below w.heap.size w w' := by
    intro o ho
    have hu := ref16u_bd o (l.drop p) (hB.drop p)
    have hv := ref16u_bd o (l.drop (p + 2)) (hB.drop _)
    have hd : ref16 o (l.drop p) = if ref16u o (l.drop p) < 0 then (-1 - x, 1) else if 55296 ≤ ref16u o (l.drop p) ∧ ref16u o (l.drop p) < 56320 ∧ 56320 ≤ ref16u o (l.drop (p + 2)) ∧ ref16u o (l.drop (p + 2)) < 57344 then (65536 + (ref16u o (l.drop p) - 55296) * 1024 + ref16u o (l.drop (p + 2)) - 56320, 4) else (ref16u o (l.drop p), 2) := by
      unfold ref16
      rw [hL0, List.drop_drop]
    have k1 := fun (w' : World) (hb : Below w.heap.size w w') => runitAt_any o D (some ad) N c p l w' ho (Reads.below hl hb) hB hN (by omega)
    have k2 := fun (w' : World) (hb : Below w.heap.size w w') => runitAt_any o D (some ad) N c (p + 2) l w' ho (Reads.below hl hb) hB hN (by omega)
    obtain ⟨U, hU⟩ : ∃ x, ref16u o (l.drop p) = x := ⟨_, rfl⟩
    obtain ⟨V, hV⟩ : ∃ x, ref16u o (l.drop (p + 2)) = x := ⟨_, rfl⟩
    rw [hU] at k1 hd hu
    rw [hV] at k2 hd hv
    have HD := Lib.hid hd
    have K1 := Lib.hid k1
    have K2 := Lib.hid k2
    clear hd k1 k2 hU hV hx hL0
    have c0' := fun (w' : World) (hb : Below w.heap.size w w') => cell_keep hb c0
    have C0 := Lib.hid c0'
    clear c0 c0'
    have hs : ((p + 2 : Nat) : Int) = (p : Int) + 2 := by omega
    have HS := Lib.hid hs
    clear hs
    rcases ho with rfl | rfl
    all_goals
      go_enter Tryz.func68, Tryz.ntmps68
      go_wp2_with fail
      refine (K1.out _ (Below.refl _ _)).mono ?_
      rintro e w1 ⟨rfl, hb1⟩
      by_cases h1 : U < 0
      · have c1 := C0.out w1 hb1
        go_wp2_with fail
        go_ret2
        exact ⟨by rw [HD.out, if_pos h1]; rfl, hb1⟩
      · go_wp2_with fail
        have k2 := K2.out w1 hb1
        rw [HS.out] at k2
        refine (k2).mono ?_
        rintro e w2 ⟨rfl, hb2⟩
        clear k2
        go_wp2_with fail
        all_goals
          go_light
          go_ret2
          refine ⟨?_, bseq hb1 hb2⟩
          rw [HD.out, if_neg (by omega)]
          first
          | (rw [if_pos (by omega)]; rfl)
          | (rw [if_neg (by omega)]; rfl)
  rcases he with rfl | rfl | rfl | rfl
  · have h8 := reightAt_any D (some ad) N c p l w hl hB hN hp
    have e1 : refAt 1 (l.drop p) = ref8 (l.drop p) := rfl
    rw [e1]
    obtain ⟨a, z, haz⟩ : ∃ a z, ref8 (l.drop p) = (a, z) := ⟨_, _, rfl⟩
    rw [haz] at h8 ⊢
    have H8 := Lib.hid h8
    clear h8 haz e1 c0 hx hL0 h16
    go_enter Tryz.func68, Tryz.ntmps68
    go_wp2_with fail
    refine (H8.out).mono ?_
    rintro e w1 ⟨rfl, hb1⟩
    go_wp2_with fail
    go_ret2
    exact ⟨rfl, hb1⟩
  · exact h16 0 (.inl rfl)
  · exact h16 1 (.inr rfl)
  · have e1 : refAt 4 (l.drop p) = (x, 1) := by unfold refAt; rw [hL0]; rfl
    rw [e1]
    clear e1 hx hL0 h16
    go_enter Tryz.func68, Tryz.ntmps68
    go_wp2_with fail
    go_ret2
    exact ⟨rfl, Below.refl _ _⟩
set_option maxRecDepth 100000 in
theorem rknown_any (enc : Int) (w : World) : Calls Tryz.prog 67 #[.int .i64 enc] w fun e w' => e = .returned (.bool (decide (1 ≤ enc ∧ enc ≤ 4))) ∧ w = w' := by
  go_enter Tryz.func67, Tryz.ntmps67
  go_wp2
  all_goals
    go_light
    go_ret
    refine ⟨ret_b ?_, rfl⟩
    rw [Bool.eq_iff_iff]
    simp
    (try omega)
set_option maxRecDepth 100000 in
set_option maxHeartbeats 2000000 in
/-- the document's Next answers as the program's -/
theorem rnext_any (enc : Int) (D : Nat → Prop) (A : Option Addr) (N c p : Nat) (l : List Int) (w : World) (he : enc = 1 ∨ enc = 2 ∨ enc = 3 ∨ enc = 4) (hl : Bts w D A N l) (hB : Byt l) (hN : N ≤ 2147483648) (hc : N ≤ c) (hp : p < N) :
    Calls Tryz.prog 46 #[.int .i64 enc, .slice A N c, .int .i64 (p : Int)] w fun e w' => e = .returned (.tuple #[.int .i64 (atomAt enc (l.drop p)), .int .i64 (sizeAt enc (l.drop p))]) ∧ Below w.heap.size w w' := by
  have hle := hl.len
  have hcut := Reads.cut hl (Nat.le_of_lt hp) hc
  rw [if_neg (by omega), Nat.mul_one, ← List.map_drop] at hcut
  obtain ⟨ad, rfl, _, c0⟩ := hl.at_ hp
  have hat := fun (w' : World) (hb : Below w.heap.size w w') => rat_any enc D (some (ad.add p)) (N - p) (c - p) 0 (l.drop p) w' he (Reads.below hcut hb) (hB.drop _) (by omega) (by omega)
  rw [List.drop_zero, refAt_eq he (hB.drop p) (by rw [List.length_drop]; omega)] at hat
  have hk := rknown_any enc w
  rw [show decide (1 ≤ enc ∧ enc ≤ 4) = true by rw [decide_eq_true_eq]; omega] at hk
  have HK := Lib.hid hk
  have HA := Lib.hid hat
  have q1 : ¬ c = p := by omega
  have q2 : (0 : Int) ≤ (p : Int) := by omega
  have q3 : (p : Int) ≤ (N : Int) := by omega
  have q4 : (p : Int) ≤ (c : Int) := by omega
  clear hk hat hcut c0 he
  go_enter Tryz.func46, Tryz.ntmps46
  go_wp2_with fail
  refine (HK.out).mono ?_
  rintro e w1 ⟨rfl, rfl⟩
  go_wp2_with fail
  refine (HA.out _ (Below.refl _ _)).mono ?_
  rintro e w1 ⟨rfl, hb1⟩
  go_wp2_with fail
  go_ret2
  exact ⟨rfl, hb1⟩
end Go.Proofs.YtcdhfmkfkhhnoaaGreat
