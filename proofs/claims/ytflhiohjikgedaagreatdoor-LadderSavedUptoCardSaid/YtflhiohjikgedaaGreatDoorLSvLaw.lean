import Derived.Test.YtflhiohjikgedaaGreatDoorLSaved
import Derived.Test.YtflhiohjikgedaaGreatDoorLDetect
import Derived.Test.YtflhiohjikgedaaGreatDoorLSaveName
import Derived.Test.YtflhiohjikgedaaGreatDoorLSaveLaw
set_option linter.unusedSimpArgs false
set_option linter.unusedVariables false
namespace Go.Proofs.YtflhiohjikgedaaGreatDoor
open Go.RowKit

/-- new blocks of bytes -/
def NewU (B : Nat) (w : World) (b : Nat) : Prop := B ≤ b ∧ U8 w b
theorem own_u8 {W : World} {B : Nat} {v : Value} {l : List Int} (h : W.ownsRow B 5 1 v l.length (l.map (Value.int .u8))) : (v = .slice none 0 0 ∧ l = []) ∨ ∃ r c, v = .slice (some ⟨r, 0, none⟩) l.length c ∧ l.length ≤ c ∧ c ≤ 9223372036854775807 ∧ Bts W (NewU B W) (some ⟨r, 0, none⟩) l.length l := by
  rcases h.2 with ⟨e, hl⟩ | ⟨r, cap, cur, e, hB, hr, h4, h5, h6⟩
  · exact .inl ⟨e, List.length_eq_zero_iff.1 hl⟩
  · refine .inr ⟨r, cap, e, h4, h5, ?_⟩
    subst e
    refine Reads.more (bts_own h) (fun b hb _ => ?_) (by decide)
    have : r = b := by simpa [Value.ownBlock] using hb
    subst this
    exact ⟨hB, _, hr⟩
theorem bts_newu {W : World} {B : Nat} {v : Value} {l : List Int} (h : W.ownsRow B 5 1 v l.length (l.map (Value.int .u8))) : ∃ A c, v = .slice A l.length c ∧ l.length ≤ c ∧ Bts W (NewU B W) A l.length l := by
  rcases own_u8 h with ⟨e, rfl⟩ | ⟨r, c, e, h1, _, h2⟩
  · exact ⟨none, 0, e, Nat.zero_le _, by rfl, fun h => by simp at h⟩
  · exact ⟨_, c, e, h1, h2⟩
theorem bts_drop {w : World} {D : Nat → Prop} {A : Option Addr} {n c k : Nat} {l : List Int} (h : Bts w D A n l) (hk : k ≤ n) (hc : n ≤ c) : Bts w D (if c = k then A else A.map (·.add k)) (l.drop k).length (l.drop k) := by
  have hl := h.len
  rcases Nat.eq_zero_or_pos k with rfl | h0
  · have e : (if c = 0 then A else A.map (·.add 0)) = A := by
      split
      · rfl
      · cases A with
        | none => rfl
        | some ad => simp [Addr.add]
    rw [e, List.drop_zero, hl]
    exact h
  · rcases Nat.lt_or_ge k n with hz | hz
    · obtain ⟨ad, rfl, _, _⟩ := h.2 (by omega)
      rw [if_neg (by omega), List.length_drop, hl]
      show Bts w D (some (ad.add k)) _ _
      rw [add_pos ad k h0]
      exact h.cut_ h0 hk
    · have e : l.drop k = [] := List.drop_eq_nil_of_le (by omega)
      rw [e]
      exact ⟨by simp, fun h => absurd h (by simp)⟩
theorem bts_take {w : World} {D : Nat → Prop} {A : Option Addr} {n k : Nat} {l : List Int} (h : Bts w D A n l) (hk : k ≤ n) : Bts w D A k (l.take k) := by
  have h1 := Reads.take h hk
  rw [Nat.mul_one] at h1
  unfold Bts
  rw [List.map_take]
  exact h1
/-- the length of the mark that bytes begin with -/
def nM (enc : Int) (xs : List Int) : Nat := if preF (markL enc) xs = true then (markL enc).length else 0
theorem markL_len (enc : Int) : (markL enc).length ≤ 3 := by
  unfold markL
  split <;> (try split) <;> (try split) <;> decide
theorem nM_le (enc : Int) (xs : List Int) : nM enc xs ≤ xs.length ∧ nM enc xs ≤ 3 := by
  have := markL_len enc
  unfold nM
  split
  · rename_i h
    have h1 : (xs.take (markL enc).length).length = (markL enc).length := by rw [of_decide_eq_true h]
    rw [List.length_take] at h1
    omega
  · exact ⟨Nat.zero_le _, Nat.zero_le _⟩
theorem markL_byt (enc : Int) : Byt (markL enc) := by
  unfold markL
  split <;> (try split) <;> (try split) <;> (intro z hz; simp at hz <;> omega)
set_option maxRecDepth 100000 in
set_option maxHeartbeats 8000000 in
theorem sopen_any (enc : Int) (he : 1 ≤ enc ∧ enc ≤ 4) (d sb f n c : Nat) (ls ac : Value) (last st num sy ct : Int) (A : Option Addr) (D : Nat → Prop) (xs : List Int) (l : List (ByteArray × Value)) (w : World) (h : DkAt w d sb ls ac last st) (hst : 0 ≤ st ∧ st ≤ 1073741823) (hm : MapS w sb l) (hg : getS l sA = some (.pointer (some ⟨f, 0, none⟩)))
    (hf : FlAt w f num (.slice A n c) sy ct) (hx : Bts w D A n xs) (hb : Byt xs) (hn : n ≤ 65539) (hDd : ∀ b, D b → b ≠ d) (hlim : xs.length - nM enc xs ≤ 65536) :
    Calls Tryz.prog 8 #[.pointer (some ⟨d, 0, none⟩), .string sA, .int .i64 enc, .int .i64 65536] w fun e w' => ∃ (fb : Nat) (Am : Option Addr) (cm : Nat) (Al : Option Addr) (cl : Nat), e = .returned (.tuple #[.pointer (some ⟨fb, 0, none⟩), .agg #[.int .i64 enc, .int .i64 (nM enc xs : Int), .slice Al (xs.drop (nM enc xs)).length cl, .bool false], .int .i64 0]) ∧ w.heap.size ≤ fb ∧
      Blk w' fb 75 (flC d Am (xs.take (nM enc xs)).length cm num n ct 0 0 0) ∧ Bts w' (NewU w.heap.size w') Am (xs.take (nM enc xs)).length (xs.take (nM enc xs)) ∧ Bts w' (NewU w.heap.size w') Al (xs.drop (nM enc xs)).length (xs.drop (nM enc xs)) ∧ (xs.drop (nM enc xs)).length ≤ cl ∧ DkAt w' d sb ls ac last (st + 2) ∧ Fr (· = d) w w' := by
  have hdl := Blk.lt h
  obtain rfl : xs.length = n := hx.len
  have hKle := nM_le enc xs
  obtain ⟨K, hK⟩ : ∃ K, nM enc xs = K := ⟨_, rfl⟩
  rw [hK] at hlim hKle ⊢
  have HNm := Lib.hid name_a
  have HMK := Lib.hid (fun w => mark_any enc w)
  have HIS := Lib.hid is_nil
  have HST := Lib.hid (fun wx (hb : Below w.heap.size w wx) => stamp_any sA sA_ok d sb f ls ac last st num sy ct A xs.length c l wx (Blk.below h hb) (by omega) (hm.below hb) hg (Blk.below hf hb))
  have HRD := Lib.hid (fun wx w1 (hd : DkAt w1 d sb ls ac last (st + 1)) (hb : Below w.heap.size w wx) (hf1 : Fr (· = d) wx w1) => read_any sA sA_ok d sb f ls ac last (st + 1) num sy ct A xs.length c D xs l w1 hd (by omega) ((hm.below hb).fr hf1 (hm.ne_blk h)) hg (Blk.fr (Blk.below hf hb) hf1 (Blk.ne_ hf h (by decide))) ((Reads.below hx hb).fr hf1 (fun b hb _ e => hDd b hb e)) (by omega) hDd)
  have HF := Lib.hid hb
  have HH := Lib.hid (And.intro h (And.intro hm (And.intro hf hx)))
  have e1 : (enc < 0) = False := by simp; omega
  have e2 : (4 < enc) = False := by simp; omega
  have e3 : (enc = 0) = False := by simp; omega
  have e4 : (enc == 0) = false := by simp; omega
  clear h hm hf hx hb
  go_enter Tryz.func8, Tryz.ntmps8
  go_wp2_with fail
  refine (HNm.out _).mono ?_
  rintro e wa ⟨rfl, hba⟩
  have HBa : Hid (Below w.heap.size w wa) := Lib.hid ((balloc (balloc (Below.refl _ _))).trans (hba.mono (by simp; omega)))
  have k9 := (((Blk.new w 34 #[.int .i64 0, .int .i64 0, .slice none 0 0, .bool false]).alloc (.cells #[.int .i64 0, .int .i64 0, .slice none 0 0, .bool false] 34)).below (hba.mono (by simp)))
  clear hba
  go_wp2_with fail
  refine (HST.out _ HBa.out).mono ?_
  rintro e wb ⟨rfl, hdb, hfb⟩
  go_wp2_with fail
  refine (HIS.out _ _ _).mono ?_
  rintro e wb' ⟨rfl, rfl⟩
  go_wp2_with fail
  refine (HRD.out wa _ (Blk.below hdb (balloc (Below.refl _ _))) HBa.out (hfb.bel (balloc (Below.refl _ _)))).mono ?_
  rintro e wk ⟨⟨v, rfl, ho⟩, hdc, hfc⟩
  have hszb : w.heap.size ≤ wb.heap.size := Nat.le_trans HBa.out.size hfb.size
  have HSZ := Lib.hid hszb
  have k12 := (Blk.new wb 70 #[.int .i64 num, .int .i64 xs.length, .int .i64 ct]).fr hfc (by omega)
  have k9c := ((k9.fr hfb (by omega)).alloc (.cells #[.int .i64 num, .int .i64 xs.length, .int .i64 ct] 70)).fr hfc (by omega)
  obtain ⟨A', c', rfl, hcc, hbx⟩ := bts_newu ho
  have hFc : Fr (· = d) w wk := (((Fr.of_below HBa.out).trans hfb).alloc _).trans hfc
  have HC := Lib.hid (And.intro hFc (And.intro hdc (And.intro k9c (And.intro k12 hbx))))
  have HDT := Lib.hid (detect_any _ A' xs.length c' xs wk hbx (by omega))
  clear k9 k12 k9c hdb hfb hdc hfc hbx hFc ho
  go_wp2_with fail
  refine (HDT.out).mono ?_
  rintro e wk' ⟨⟨ga, gb, rfl⟩, rfl⟩
  go_upto_block 1 with fail
  go_cut [2, 15] from 77 to 101 (fun s2 s15 wx => s2 = .int .i64 enc ∧ s15 = .int .i64 (K : Int) ∧ Below wk.heap.size wk wx)
  case first =>
    go_wp2_with fail
    refine (HMK.out _).mono ?_
    rintro e wd ⟨A2, c2, rfl, hb2, hbd⟩
    have HPF := Lib.hid (prefix_any _ _ A' A2 _ c' _ c2 xs (markL enc) wd (Reads.below HC.out.2.2.2.2 hbd) hb2 HF.out (markL_byt enc) hcc)
    have HBD := Lib.hid hbd
    clear hb2 hbd
    go_wp2_with fail
    refine (HPF.out).mono ?_
    rintro e wd' ⟨rfl, rfl⟩
    cases eP : preF (markL enc) xs
    · have e0 : nM enc xs = 0 := by
        unfold nM
        rw [eP]
        rfl
      go_wp2_with fail
      go_meet
      refine ⟨rfl, ?_, HBD.out⟩
      rw [← hK, e0]
      rfl
    · have e0 : nM enc xs = (markL enc).length := by
        unfold nM
        rw [eP]
        rfl
      go_wp2_with fail
      refine (HMK.out _).mono ?_
      rintro e we ⟨A3, c3, rfl, hb3, hbe⟩
      have HBE := Lib.hid hbe
      clear hb3 hbe
      go_wp2_with fail
      go_meet
      refine ⟨rfl, ?_, HBD.out.trans (HBE.out.mono HBD.out.size)⟩
      rw [← hK, e0]
  case rest =>
    obtain ⟨rfl, rfl, hbf⟩ := hcut
    have q1 : ((65536 : Int) < (xs.length : Int) - (K : Int)) = False := by simp; omega
    have HBF := Lib.hid hbf
    clear hbf
    go_upto_region 26 with fail
    have hKL : (xs.take K).length = K := by rw [List.length_take]; omega
    have qK : (K ≤ c') = True := by simp; omega
    have hbxf := Reads.below HC.out.2.2.2.2 HBF.out
    have HCL := Lib.hid (fun wx (hb : Below wk.heap.size wk wx) => bclone_any _ A' K c' (xs.take K) wx (bts_take (Reads.below HC.out.2.2.2.2 hb) (by omega)) (by omega))
    have HS0 := Lib.hid (fun w' (h : Below wk.heap.size wk w') => stamp_at (HC.out.2.2.2.1.below h))
    refine wp_region_lin (fun w' => Below wk.heap.size wk w') (fun w' => Below wk.heap.size wk w') (fun k => k == 5 || k == 8) (fun k => k == 8) (fun k => k == 9) (by kernel_rfl) (by kernel_rfl) (Below.drew HBF.out) (fun w' h => h) ?_
    repeat ((first
      | (refine wpL_read (v := ?_) (by rfl) (by rfl) (fun w6 hSw => ?_) ?_; rotate_left; (· (obtain ⟨⟨z0, z1, z2⟩, -⟩ := HS0.out _ hSw; go_simp; try with_reducible rfl)))
      | (refine wpL_free (v := ?_) (by rfl) (fun w6 => ?_) ?_; rotate_left; (· (go_simp; try with_reducible rfl)))
      | refine wpL_not (by rfl) ?_); (try simp only [Act.put, List.setIfInBounds_toArray, List.set_cons_zero, List.set_cons_succ]))
    refine wpL_call (f := ?_) (args := ?_) (fun v w' => ∃ wx, Below wk.heap.size wk wx ∧ NewB (xs.take K) wx (.returned v) w') (by rfl) (by rfl) (fun w6 hSw => ?_) (fun w6 hSw => ?_) (.inr (fun v6 w6 hT6 => ?_)) (fun v6 hv6 => ?_)
    rotate_left 2
    · (skip; go_simp; first | done | (constructor <;> with_reducible rfl) | with_reducible rfl)
    · (refine (HCL.out _ hSw).mono ?_; rintro e w' ⟨v, rfl, hq⟩; exact ⟨_, rfl, _, hSw, _, rfl, hq⟩)
    · (obtain ⟨wx, hq1, v', hq2, hq3, hq4⟩ := hT6; exact hq1.trans (hq4.mono hq1.size))
    obtain ⟨wz, wx, hq1, v', hq2, hq3, hq4⟩ := hv6; injection hq2 with hq2; subst hq2; obtain ⟨Am, cm, hv7, hcm, hbm⟩ := bts_newu hq3; rw [hKL] at hv7; subst hv7
    (try simp only [Act.put, List.setIfInBounds_toArray, List.set_cons_zero, List.set_cons_succ])
    clear hq1 hq3 hq4 hbm wz wx
    repeat ((first
      | (refine wpL_read (v := ?_) (by rfl) (by rfl) (fun w6 hSw => ?_) ?_; rotate_left; (· (obtain ⟨⟨z0, z1, z2⟩, -⟩ := HS0.out _ hSw; go_simp; try with_reducible rfl)))
      | (refine wpL_free (v := ?_) (by rfl) (fun w6 => ?_) ?_; rotate_left; (· (go_simp; try with_reducible rfl)))
      | refine wpL_not (by rfl) ?_); (try simp only [Act.put, List.setIfInBounds_toArray, List.set_cons_zero, List.set_cons_succ]))
    refine wpL_heavy (fun v w'' => ∃ w' wx, v = .pointer (some ⟨w'.heap.size, 0, none⟩) ∧ Below wk.heap.size wk wx ∧ NewB (xs.take K) wx (.returned (.slice Am K cm)) w' ∧ w'' = w'.alloc (.cells (flC d Am K cm num xs.length ct 0 0 0) 75)) (by rfl) (by rfl) (fun w6 hSw => ?_) (.inl (by rfl)) (fun v6 hv6 => ?_)
    · (obtain ⟨wx, hq1, hq2⟩ := hSw; go_simp; exact ⟨w6, rfl, wx, hq1, hq2, rfl⟩)
    obtain ⟨wz, wy, wx, rfl, -⟩ := hv6
    (try simp only [Act.put, List.setIfInBounds_toArray, List.set_cons_zero, List.set_cons_succ])
    repeat ((first
      | (refine wpL_read (v := ?_) (by rfl) (by rfl) (fun w6 hSw => ?_) ?_; rotate_left; (· (skip; go_simp; try with_reducible rfl)))
      | (refine wpL_free (v := ?_) (by rfl) (fun w6 => ?_) ?_; rotate_left; (· (go_simp; try with_reducible rfl)))
      | refine wpL_not (by rfl) ?_); (try simp only [Act.put, List.setIfInBounds_toArray, List.set_cons_zero, List.set_cons_succ]))
    refine wpL_nil ?_
    rintro wg ⟨w', wx, heq, hq1, hq2, rfl⟩
    obtain ⟨fb, hfb⟩ : ∃ fb, w'.heap.size = fb := ⟨_, rfl⟩
    have e9 : wy.heap.size = fb := by
      injection heq with heq
      injection heq with heq
      injection heq with heq
      rw [heq, hfb]
    rw [e9]
    obtain ⟨v', hv', hq3, hq4⟩ := hq2
    injection hv' with hv'
    subst hv'
    have hbw' : Below wk.heap.size wk w' := hq1.trans (hq4.mono hq1.size)
    obtain ⟨hFk, hdk, k9, k12, hbx⟩ := HC.out
    have hszk : w.heap.size ≤ wk.heap.size := hFk.size
    have hszx : wk.heap.size ≤ wx.heap.size := hq1.size
    obtain ⟨wh, hwh⟩ : ∃ wh, w'.alloc (.cells (flC d Am K cm num xs.length ct 0 0 0) 75) = wh := ⟨_, rfl⟩
    have hbwh : Below wk.heap.size wk wh := by rw [← hwh]; exact balloc hbw'
    have hfbk : Blk wh fb 75 (flC d Am K cm num xs.length ct 0 0 0) := by rw [← hwh]; exact Blk.newAt hfb
    obtain ⟨Am', cm', hAm, hcm', hbm⟩ := bts_newu hq3
    rw [hKL] at hAm hbm hcm'
    injection hAm with hAm1 _ hAm2
    subst hAm1; subst hAm2
    have hbmh : Bts wh (NewU w.heap.size wh) Am K (xs.take K) := by
      rw [← hwh]
      refine Reads.more (Reads.below hbm (balloc (Below.refl _ _))) (fun b hb _ => ?_) (by decide)
      obtain ⟨hb1, cs, hb2⟩ := hb
      exact ⟨by omega, cs, hb2.alloc _⟩
    have hbxh := bts_drop (c := c') (k := K) (Reads.below hbx hbwh) hKle.1 hcc
    obtain ⟨A9, hA9⟩ : ∃ A9, (if c' = K then A' else A'.map (·.add K)) = A9 := ⟨_, rfl⟩
    rw [hA9] at hbxh
    have hl9 : (xs.drop K).length = xs.length - K := List.length_drop
    have qK2 : (K ≤ xs.length) = True := by simp; omega
    have HCL2 := Lib.hid (bclone_any _ A9 (xs.drop K).length (c' - K) (xs.drop K) wh hbxh (by omega))
    rw [hl9] at HCL2
    have k9h := k9.below hbwh
    have HP := Lib.hid (And.intro hFk (And.intro hdk (And.intro hbwh (And.intro hfbk (And.intro hbmh k9h)))))
    have HHI := Lib.hid (show w.heap.size ≤ fb by rw [← hfb]; have := hq4.size; omega)
    rw [hwh]
    clear hFk hdk k9 k12 hbx hbwh hfbk hbm hbmh hbxh k9h hq1 hq3 hq4 hbw' hwh HCL HS0
    go_wp2_with fail
    refine (HCL2.out).mono ?_
    rintro e wi ⟨v9, rfl, ho9, hb9⟩
    obtain ⟨Al, cl, rfl, hcl, hbl⟩ := bts_newu ho9
    obtain ⟨hFk, hdk, hbwh, hfbk, hbmh, k9h⟩ := HP.out
    have k9i := k9h.below hb9
    have j0 := k9i.cell 0
    have j1 := k9i.cell 1
    have j2 := k9i.cell 2
    have j3 := k9i.cell 3
    have g0 := k9i.frozen 0
    have g1 := k9i.frozen 1
    have g2 := k9i.frozen 2
    have g3 := k9i.frozen 3
    simp at j0 j1 j2 j3
    have hszh : wk.heap.size ≤ wh.heap.size := hbwh.size
    have HQ := Lib.hid (And.intro hbl (And.intro hcl (And.intro hb9 k9i)))
    clear hbl hcl hb9 k9i k9h hFk hdk hbwh hfbk hbmh ho9
    go_wp2_with fail
    obtain ⟨hbl, hcl', hb9, k9i⟩ := HQ.out
    obtain ⟨hFk, hdk, hbwh, hfbk, hbmh, k9h⟩ := HP.out
    rw [hl9] at hbl hcl'
    obtain ⟨wj, hwj⟩ : ∃ wj, (((wi.setCell ⟨w.heap.size, 0, none⟩ (.int .i64 enc)).setCell ⟨w.heap.size, 1, none⟩ (.int .i64 (K : Int))).setCell ⟨w.heap.size, 2, none⟩ (.slice Al (xs.length - K) cl)).setCell ⟨w.heap.size, 3, none⟩ (.bool false) = wj := ⟨_, rfl⟩
    have k9j : Blk wj w.heap.size 34 #[.int .i64 enc, .int .i64 (K : Int), .slice Al (xs.length - K) cl, .bool false] := by
      rw [← hwj]
      exact ((((k9i.set_ 0 _).set_ 1 _).set_ 2 _).set_ 3 _)
    have hfj : Fr (· = w.heap.size) wi wj := by rw [← hwj]; exact ((((Fr.refl _ _).set1 0 _).set1 1 _).set1 2 _).set1 3 _
    rw [hwj]
    have c0 := k9j.cell 0
    have c1 := k9j.cell 1
    have c2 := k9j.cell 2
    have c3 := k9j.cell 3
    simp at c0 c1 c2 c3
    have hU : ∀ {B : Nat} {b : Nat}, NewU B wi b → b ≠ w.heap.size → NewU B wj b := fun h hn => by
      obtain ⟨h1, cs, h2⟩ := h
      exact ⟨h1, cs, h2.fr hfj hn⟩
    have hnu : ∀ {b : Nat}, U8 wi b → b ≠ w.heap.size := fun h => by
      obtain ⟨cs, h⟩ := h
      exact Blk.ne_ h k9i (by decide)
    have hF2 : Fr (· = d) w wj := by
      have h1 : Fr (· = d) w wi := (hFk.bel hbwh).bel hb9
      refine h1.call hfj (fun b hb e => ?_)
      omega
    refine bodyPost_ret (v := .tuple #[.pointer (some ⟨fb, 0, none⟩), .agg #[.int .i64 enc, .int .i64 (K : Int), .slice Al (xs.length - K) cl, .bool false], .int .i64 0]) ?_ rfl ⟨fb, Am, cm, Al, cl, ?_, HHI.out, ?_, ?_, ?_, ?_, ?_, hF2⟩
    · simp [results, Tryz.results8, go_sem, c0, c1, c2, c3]
    · rw [hl9]
    · rw [hKL]
      exact (hfbk.below hb9).fr hfj (fun e => Blk.ne_ (hfbk.below hb9) k9i (by decide) e)
    · rw [hKL]
      refine Reads.more ((Reads.below hbmh hb9).fr hfj (fun b hb _ e => ?_)) (fun b hb _ => ?_) (by decide)
      · obtain ⟨_, cs, h⟩ := hb
        exact hnu ⟨cs, h.below hb9⟩ e
      · obtain ⟨h0, cs, h⟩ := hb
        exact hU ⟨h0, cs, h.below hb9⟩ (hnu ⟨cs, h.below hb9⟩)
    · rw [hl9]
      refine Reads.more (Reads.fr hbl hfj (fun b hb _ e => hnu hb.2 e)) (fun b hb _ => ?_) (by decide)
      obtain ⟨h1, h2⟩ := hU hb (hnu hb.2)
      exact ⟨by omega, h2⟩
    · rw [hl9]
      exact hcl'
    · have := ((Blk.below hdk hbwh).below hb9).fr hfj (by omega)
      have e2 : st + 1 + 1 = st + 2 := by omega
      rw [e2] at this
      exact this
end Go.Proofs.YtflhiohjikgedaaGreatDoor
namespace Go.Proofs.YtflhiohjikgedaaGreatDoor
open Go.RowKit

theorem mark_atom (enc : Int) (he : enc = 1 ∨ enc = 2 ∨ enc = 3) (B : List Int) (h : B.take (markL enc).length = markL enc) : 0 < B.length ∧ atomAt enc B = 65279 := by
  rcases he with rfl | rfl | rfl
  · match B, h with
    | [], h => simp [markL] at h
    | [_], h => simp [markL] at h
    | [_, _], h => simp [markL] at h
    | a :: b :: c :: r, h =>
      simp [markL] at h
      obtain ⟨rfl, rfl, rfl⟩ := h
      refine ⟨by simp, ?_⟩
      simp [atomAt, atom8, rawF, rowHave, bdN, bdLo, bdHi, contF, valF8, leadF, goOn]
      rw [if_neg (by omega)]
      decide
  · match B, h with
    | [], h => simp [markL] at h
    | [_], h => simp [markL] at h
    | a :: b :: r, h =>
      simp [markL] at h
      obtain ⟨rfl, rfl⟩ := h
      refine ⟨by simp, ?_⟩
      simp [atomAt, atom16, pairF, unitF, highF]
  · match B, h with
    | [], h => simp [markL] at h
    | [_], h => simp [markL] at h
    | a :: b :: r, h =>
      simp [markL] at h
      obtain ⟨rfl, rfl⟩ := h
      refine ⟨by simp, ?_⟩
      simp [atomAt, atom16, pairF, unitF, highF]
theorem decL_fit (enc : Int) (he : enc = 1 ∨ enc = 2 ∨ enc = 3 ∨ enc = 4) (ps : List Pc) (hok : ∀ p ∈ ps, PcOk enc p) : Fit enc ((decL enc ps).map Prod.fst) := by
  intro a ha
  obtain ⟨⟨x, s⟩, hx, rfl⟩ := List.mem_map.1 ha
  have hpos := decL_pos enc ps
  obtain ⟨p, hp, hxp⟩ := List.mem_flatMap.1 hx
  rw [dec_sized enc he _ _ (Nat.le_refl _) (hok p hp).1] at hxp
  obtain ⟨y, hy, e⟩ := List.mem_map.1 hxp
  injection e with e1 e2
  have := hpos _ hx
  subst e1
  rw [← e2] at this
  exact this
theorem save_law (enc : Int) (he : 1 ≤ enc ∧ enc ≤ 4) (bl : List Int) (ps : List Pc) (hok : ∀ p ∈ ps, PcOk enc p) (xs : List Int) (hx : (decL enc ps).map Prod.fst = xs) (hp : ∀ a ∈ xs, Plain a) (hF : ¬ (nM enc bl = 0 ∧ enc < 4 ∧ 0 < xs.length ∧ xs.getD 0 0 = 65279)) :
    nM enc (bl.take (nM enc bl) ++ bytesL ps) = nM enc bl ∧ (dec enc (bytesL ps)).map Prod.fst = xs := by
  have he' : enc = 1 ∨ enc = 2 ∨ enc = 3 ∨ enc = 4 := by omega
  have hd : (dec enc (bytesL ps)).map Prod.fst = xs := by
    rw [← hx]
    exact dec_whole enc he' ps hok (decL_fit enc he' ps hok) (by rw [hx]; exact hp)
  refine ⟨?_, hd⟩
  cases hm : preF (markL enc) bl
  · have e0 : nM enc bl = 0 := by unfold nM; rw [hm]; rfl
    rw [e0, List.take_zero, List.nil_append]
    have hm' : bl.take (markL enc).length ≠ markL enc := of_decide_eq_false hm
    by_cases h4 : enc = 4
    · subst h4
      exact absurd (by simp [markL]) hm'
    · unfold nM
      rw [if_neg]
      intro h
      obtain ⟨h0, h1⟩ := mark_atom enc (by omega) _ (of_decide_eq_true h)
      rw [dec_cons enc _ h0, List.map_cons] at hd
      apply hF
      rw [← hd]
      exact ⟨e0, by omega, by simp, h1⟩
  · have e0 : nM enc bl = (markL enc).length := by unfold nM; rw [hm]; rfl
    have hm' : bl.take (markL enc).length = markL enc := of_decide_eq_true hm
    rw [e0, hm']
    unfold nM
    rw [if_pos]
    unfold preF
    rw [decide_eq_true_eq]
    exact List.take_left' rfl
end Go.Proofs.YtflhiohjikgedaaGreatDoor
