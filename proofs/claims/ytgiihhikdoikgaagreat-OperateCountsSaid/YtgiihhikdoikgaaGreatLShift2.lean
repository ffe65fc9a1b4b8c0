/-
  operate.Shift's act, walked through.
-/
import Derived.Test.YtgiihhikdoikgaaGreatLShift1
set_option linter.unusedSimpArgs false
set_option linter.unusedVariables false
set_option maxRecDepth 100000
set_option maxHeartbeats 32000000
namespace Go.Proofs.YtgiihhikdoikgaaGreat
open Go.RowKit
theorem shift1_any (B gd gb g n b0 b1 b2 : Nat) (enc lim a b kd steps : Int) (st : BkS) (o : OpS) (dc : Array Value) (w : World) (h : DeskIs w B gd gb g enc lim n st dc) (hn : st.now = some o) (hom : o.moves.length < 1048576)
  (k0 : Blk w b0 23 #[.pointer (some ⟨gd, 0, none⟩)]) (k1 : Blk w b1 29 #[.int .i64 a, .int .i64 b, .int .i64 kd]) (k2 : Blk w b2 3 #[.int .i64 steps])
  (hk : kd = 0 \/ kd = 1) (ha : 0 <= a /\ a <= b /\ b <= (st.ats.length : Int)) (hst : steps ≠ 0) (hsz : szS (sizedA enc st.ats) <= lim) (hnn : n + 131072 <= 1073741824) :
  Calls Tryz.prog 52 #[.pointer (some ⟨b0, 0, none⟩), .pointer (some ⟨b1, 0, none⟩), .pointer (some ⟨b2, 0, none⟩)] w (Shift1Post B gd gb g b2 enc lim n st o dc (stepsF steps) (rowIx (sizedA enc st.ats) a false) (rowIx (sizedA enc st.ats) (max a (b - 1)) false) w) := by
 have hp := h.pos
 have hlen : (sizedA enc st.ats).length <= 65536 := by rw [sizedA_len]; exact h.len
 have hte : totE (sizedA enc st.ats) <= 65536 := Nat.le_trans (cntE_le _ _) hlen
 have hE4 := h.enc4
 have hs6 := h.sz
 have hspos := szS_pos hp
 have htab := szA_tab hE4
 have HCK := Lib.hid (checked_ok h a b kd hk ha)
 have HRW := Lib.hid (fun (w' : World) (hb : Below w.heap.size w w') => rows_desk (h.below hb) a b kd ha)
 have hfl := rowIx_mono (sizedA enc st.ats) (show a <= max a (b - 1) by omega)
 have hll := rowIx_le (sizedA enc st.ats) (max a (b - 1)) false
 unfold Shift1Post
 obtain ⟨f, hf⟩ : ∃ f, rowIx (sizedA enc st.ats) a false = f := ⟨_, rfl⟩
 obtain ⟨l, hl⟩ : ∃ l, rowIx (sizedA enc st.ats) (max a (b - 1)) false = l := ⟨_, rfl⟩
 rw [hf, hl] at HRW hfl
 rw [hl] at hll
 rw [hf, hl]
 obtain ⟨k, hkk⟩ : ∃ k, stepsF steps = k := ⟨_, rfl⟩
 rw [hkk]
 have hk0 : k ≠ 0 /\ -9999 <= k /\ k <= 9999 := by
  rw [<- hkk]
  unfold stepsF
  omega
 have HKK := Lib.hid hkk
 have HH := Lib.hid h
 have HN := Lib.hid hn
 have HOM := Lib.hid hom
 have HB := Lib.hid (And.intro k0 (And.intro k1 k2))
 have hcw : ∀ w', Below w.heap.size w w' -> w'.cell? ⟨b0, 0, none⟩ = some (.pointer (some ⟨gd, 0, none⟩)) /\ w'.cell? ⟨b1, 0, none⟩ = some (.int .i64 a) /\ w'.cell? ⟨b1, 1, none⟩ = some (.int .i64 b) /\ w'.cell? ⟨b1, 2, none⟩ = some (.int .i64 kd) /\ w'.cell? ⟨b2, 0, none⟩ = some (.int .i64 steps) /\ w'.frozen? ⟨b2, 0, none⟩ = false := fun w' hb =>
  ⟨(k0.below hb).cell 0, (k1.below hb).cell 0, (k1.below hb).cell 1, (k1.below hb).cell 2, (k2.below hb).cell 0, (k2.below hb).frozen 0⟩
 have HCW := Lib.hid hcw
 obtain ⟨y0, y1, y2, y3, y4, y5⟩ := hcw w (Below.refl _ _)
 clear h hn hom k0 k1 k2 hcw hf hl hkk hk ha
 go_enter Tryz.func52, Tryz.ntmps52
 go_wp2_with fail
 refine (HCK.out).mono ?_
 rintro e w1 ⟨rfl, hb1⟩
 obtain ⟨y0, y1, y2, y3, y4, y5⟩ := HCW.out w1 hb1
 go_wp2_with fail
 refine (HRW.out _ hb1).mono ?_
 rintro e w2 ⟨rfl, hb2⟩
 have hb12 := bseq hb1 hb2
 clear y0 y1 y2 y3 y4 y5
 obtain ⟨y0, y1, y2, y3, y4, y5⟩ := HCW.out w2 hb12
 go_upto_region 3 with fail
 go_cut [] (fun wx => wx = w2.setCell ⟨b2, 0, none⟩ (.int .i64 k))
 case first =>
  by_cases h1 : steps < -9999
  ·have p1 : (steps < -9999) = True := by simp; exact h1
   have e1 : k = -9999 := by rw [<- HKK.out]; unfold stepsF; omega
   subst e1
   clear h1
   go_wp2_with fail
   go_meet
   rfl
  ·have p1 : (steps < -9999) = False := by simp; omega
   by_cases h2 : 9999 < steps
   ·have p2 : (9999 < steps) = True := by simp; exact h2
    have e1 : k = 9999 := by rw [<- HKK.out]; unfold stepsF; omega
    subst e1
    clear h1 h2
    go_wp2_with fail
    go_meet
    rfl
   ·have p2 : (9999 < steps) = False := by simp; omega
    have e1 : k = steps := by rw [<- HKK.out]; unfold stepsF; omega
    subst e1
    clear h1 h2
    go_wp2_with fail
    go_meet
    rfl
 case rest =>
  have hwc := hcut
  clear hcut
  obtain ⟨k0, k1, k2⟩ := HB.out
  have k22 := k2.below hb12
  have hF3 : Fr (· = b2) w2 (w2.setCell ⟨b2, 0, none⟩ (.int .i64 k)) := (Fr.refl _ _).set1 0 _
  have hd3 := (HH.out.below hb12).alien hF3 (fun q _ hq => ⟨fun e => Blk.ne_ k22 (HH.out.below hb12).desk (by decide) (hq.symm.trans e), _, _, hq ▸ k22, by decide⟩)
  have k23 := (k22.set_ 0 (.int .i64 k)).eq_ (show _ = #[.int .i64 k] by simp)
  have k03 := (k0.below hb12).fr hF3 (fun e => Blk.ne_ (k0.below hb12) k22 (by decide) e)
  have hD3 : DFr B (· = b2) w (w2.setCell ⟨b2, 0, none⟩ (.int .i64 k)) := (DFr.of_below hb12).trans (DFr.of_x hF3)
  rw [<- hwc] at hd3 k23 k03 hD3
  clear hwc hF3 k22 k0 k1 k2 HB HCW y0 y1 y2 y3 y4 y5 HCK HRW
  obtain ⟨w3, hw3⟩ : ∃ x, wc = x := ⟨_, rfl⟩
  rw [hw3] at hd3 k23 k03 hD3 ⊢
  clear hw3
  have hHB : ∀ w', Below w3.heap.size w3 w' -> w'.cell? ⟨b0, 0, none⟩ = some (.pointer (some ⟨gd, 0, none⟩)) /\ w'.cell? ⟨b2, 0, none⟩ = some (.int .i64 k) := fun w' hb => ⟨(k03.below hb).cell 0, (k23.below hb).cell 0⟩
  have HHB := Lib.hid hHB
  have HK03 := Lib.hid k03
  have HT := Lib.hid (fun (w' : World) (hb : Below w3.heap.size w3 w') => text_desk (hd3.below hb))
  have HEN := Lib.hid (tenc_any Any g enc (sizedA enc st.ats) w3 hd3.at_)
  have HTB := Lib.hid (csize_any enc 9 w3 hE4)
  have HLI := Lib.hid (fun (w' : World) (hb : Below w3.heap.size w3 w') (i : Nat) (hi : i <= totE (sizedA enc st.ats)) => line_desk (hd3.below hb) i hi)
  have HAT := Lib.hid (fun (w' : World) (hb : Below w3.heap.size w3 w') (x y : Int) (hx : 0 <= x) (hy : y <= 65536) => tatoms_any Any g enc (sizedA enc st.ats) x y w' (hd3.below hb).at_ (by omega) (by omega))
  have HFO := Lib.hid (fun (w' : World) (hb : Below w3.heap.size w3 w') => fits_ok (hd3.below hb))
  have HFB := Lib.hid (fun (w' : World) (hb : Below w3.heap.size w3 w') => fits_bad (hd3.below hb))
  have HD3 := Lib.hid hd3
  have HDF3 := Lib.hid hD3
  obtain ⟨ds, hds⟩ : ∃ ds, sizedA enc st.ats = ds := ⟨_, rfl⟩
  rw [hds] at hp hlen hte hs6 hspos hll HLI HAT HFO HFB hsz
  obtain ⟨S, hS⟩ : ∃ S, szS ds = S := ⟨_, rfl⟩
  rw [hS] at hs6 hspos HFO HFB
  obtain ⟨tb, htb⟩ : ∃ tb, szA enc 9 = tb := ⟨_, rfl⟩
  rw [htb] at HTB htab
  have HDS := Lib.hid hds
  have HS := Lib.hid hS
  have HTBE := Lib.hid htb
  have HP := Lib.hid hp
  have HSZ := Lib.hid hsz
  have HLEN := Lib.hid hlen
  obtain ⟨ie, ze, hie, he0, he1, he2, he3⟩ := edit_row
  have HIE := Lib.hid hie
  obtain ⟨y0, y2⟩ := hHB w3 (Below.refl _ _)
  have hs65 : S <= 65536 := hs6.1
  have hl65 : lim <= 65536 := hs6.2.1
  clear hd3 k23 k03 hD3 hHB hds hS htb hp hsz hlen hie hs6
  go_wp2_with fail
  refine (HT.out _ (Below.refl _ _)).mono ?_
  rintro e wz ⟨rfl, rfl⟩
  go_wp2_with fail
  refine (HEN.out).mono ?_
  rintro e wz ⟨rfl, rfl⟩
  go_wp2_with fail
  refine (HTB.out).mono ?_
  rintro e w4 ⟨rfl, hb4⟩
  clear y0 y2 HTB HEN
  go_wp2_with fail
  go_loopg [6, 8] (l + 1 - f) (fun m q6 q8 wr => ShR ds k tb S f l w3 m q6 q8 wr)
  case atStart => exact ⟨0, f, [], rfl, Lib.hid rfl, Lib.hid (EdsS.nil _ _), Lib.hid rfl, Lib.hid (fun _ => by simpa using hs65), by omega, by omega, hb4⟩
  case round =>
   obtain ⟨j, i, es, rfl, hi, hE, hes, hSE, hjl, hm, hb⟩ := hrel
   have hie1 : i <= f + j := Nat.le_of_eq hi.out
   have hie2 : f + j <= i := Nat.le_of_eq hi.out.symm
   have hs0 := hb.size
   obtain ⟨y0, y2⟩ := HHB.out _ hb
   have hel : es.length <= j := by
    have h1 := congrArg List.length hes.out
    rw [List.length_map] at h1
    rw [h1]
    exact shL_len HP.out k f j (by omega)
   by_cases hgo : i <= l
   ·have q1 : ((i : Int) <= (l : Int)) = True := by simp; omega
    have hit : i <= totE ds := by omega
    have hli := HLI.out _ hb i hit
    have hbd := lineF_bd HP.out hit
    have hcl := cont_len HP.out hit
    obtain ⟨⟨z0, z1, z2, z3⟩, hL⟩ : ∃ L, lineF ds i = L := ⟨_, rfl⟩
    obtain ⟨C, hC⟩ : ∃ C, cont ds i = C := ⟨_, rfl⟩
    have hS2 : seg z0 z1 (ds.map Prod.fst) = C := by rw [<- hC]; unfold cont; rw [hL]
    have hsh : shE ds k i = if k < 0 then (if 0 < ldF C (-k).toNat 0 then [(z0, z0 + (ldF C (-k).toNat 0 : Int), [])] else []) else if z0 < z1 then [(z0, z0, tabs k.toNat)] else [] := by unfold shE; rw [hL, hC]
    rw [hL] at hli hbd hcl
    rw [hC] at hcl
    unfold Ln.cells at hli
    dsimp only at hli hbd hcl
    have hcl1 : (C.length : Int) <= z1 - z0 := Int.le_of_eq hcl
    have hlen := HLEN.out
    have HSH := Lib.hid hsh
    have HLIi := Lib.hid hli
    have HNE := Lib.hid (fun (h : z0 < z1) => (by rw [hL]; exact h : (lineF ds i).from_ < (lineF ds i).to_))
    have HS2 := Lib.hid hS2
    clear hL hC hS2 hli hcl hsh
    go_wp2_with fail
    refine (HLIi.out).mono ?_
    rintro e w5 ⟨rfl, hb5⟩
    go_upto_region 10 with fail
    have hw6 : Below wr.heap.size wr (w5.alloc (.cells #[.int .i64 z0, .int .i64 z1, .int .i64 z2, .int .i64 z3] 59)) := balloc hb5
    have hB9 : Blk (w5.alloc (.cells #[.int .i64 z0, .int .i64 z1, .int .i64 z2, .int .i64 z3] 59)) w5.heap.size 59 #[.int .i64 z0, .int .i64 z1, .int .i64 z2, .int .i64 z3] := Blk.new w5 _ _
    obtain ⟨b9, hb9⟩ : ∃ x, w5.heap.size = x := ⟨_, rfl⟩
    obtain ⟨w6, hw60⟩ : ∃ x, w5.alloc (.cells #[.int .i64 z0, .int .i64 z1, .int .i64 z2, .int .i64 z3] 59) = x := ⟨_, rfl⟩
    rw [hb9] at hB9 ⊢
    rw [hw60] at hw6 hB9 ⊢
    clear hw60 hb9 hb5 y0 y2 HLIi
    have hw36 := bseq hb hw6
    have hG : ∀ w', Below w6.heap.size w6 w' -> w'.cell? ⟨b0, 0, none⟩ = some (.pointer (some ⟨gd, 0, none⟩)) /\ w'.cell? ⟨b2, 0, none⟩ = some (.int .i64 k) /\ w'.cell? ⟨b9, 0, none⟩ = some (.int .i64 z0) /\ w'.cell? ⟨b9, 1, none⟩ = some (.int .i64 z1) := fun w' hb' =>
     ⟨(HHB.out _ (bseq hw36 hb')).1, (HHB.out _ (bseq hw36 hb')).2, (hB9.below hb').cell 0, (hB9.below hb').cell 1⟩
    have HG := Lib.hid hG
    obtain ⟨y0, y2, x0, x1⟩ := hG w6 (Below.refl _ _)
    clear hG hB9
    by_cases hneg : k < 0
    ·have q2 : (k < 0) = True := by simp; exact hneg
     obtain ⟨K, hK⟩ : ∃ K, (-k).toNat = K := ⟨_, rfl⟩
     have hKb : K <= 9999 := by omega
     have wk : IntKind.i64.wrap (-k) = (K : Int) := by rw [IntWalk.i64_in _ (by omega)]; omega
     obtain ⟨n0, hn0⟩ : ∃ n0, ldF C K 0 = n0 := ⟨_, rfl⟩
     have hnl : n0 <= C.length := by rw [<- hn0]; exact ldF_le C K 0 (Nat.zero_le _)
     have hsh := HSH.out
     rw [if_pos hneg, hK, hn0] at hsh
     have HLD := Lib.hid (fun (A : Option Addr) (c : Nat) (w' : World) (h : IntsI w' A C.length C) => hn0 ▸ lead_any _ A C.length c K C w' h (by omega) (by omega))
     have HSH := Lib.hid hsh
     have HATi := Lib.hid (fun (w' : World) (hb' : Below w6.heap.size w6 w') => HS2.out ▸ HAT.out w' (bseq hw36 hb') z0 z1 (by omega) (by omega))
     clear hK hn0 hsh
     go_upto_region 11 with fail
     refine wp_region_lin (fun w' => Below w6.heap.size w6 w') (fun w' => Below w6.heap.size w6 w') (fun k => k == 1 || k == 6 || k == 9) (fun k => k == 9) (fun k => k == 10) (by kernel_rfl) (by kernel_rfl) (Below.drew (Below.refl _ _)) (fun _ h => h) ?_
     repeat ((first
      | (refine wpL_read (v := ?_) (by rfl) (by rfl) (fun w6 hSw => ?_) ?_; rotate_left; (· (obtain ⟨y0, y2, x0, x1⟩ := HG.out _ hSw; go_simp; try with_reducible rfl)))
      | (refine wpL_free (v := ?_) (by rfl) (fun w6 => ?_) ?_; rotate_left; (· (go_simp; try with_reducible rfl)))
      | refine wpL_not (by rfl) ?_); (try simp only [Act.put, pA, pB, pC]))
     refine wpL_call (f := ?_) (args := ?_) (fun v w' => v = .pointer (some ⟨g, 0, none⟩) /\ Below w6.heap.size w6 w') (by rfl) (by rfl) (fun w6 hSw => ?_) (fun w6 hSw => ?_) (.inr (fun v6 w6 hT6 => ?_)) (fun v6 hv6 => ?_)
     rotate_left 2
     ·(skip; go_simp; first | done | (constructor <;> with_reducible rfl) | with_reducible rfl)
     ·(refine (HT.out _ (bseq hw36 hSw)).mono ?_; rintro e w' ⟨rfl, rfl⟩; exact ⟨_, rfl, rfl, hSw⟩)
     ·(exact hT6.2)
     obtain ⟨wz, rfl, -⟩ := hv6
     (try simp only [Act.put, pA, pB, pC])
     repeat ((first
      | (refine wpL_read (v := ?_) (by rfl) (by rfl) (fun w6 hSw => ?_) ?_; rotate_left; (· (obtain ⟨y0, y2, x0, x1⟩ := HG.out _ hSw; go_simp; try with_reducible rfl)))
      | (refine wpL_free (v := ?_) (by rfl) (fun w6 => ?_) ?_; rotate_left; (· (go_simp; try with_reducible rfl)))
      | refine wpL_not (by rfl) ?_); (try simp only [Act.put, pA, pB, pC]))
     refine wpL_call (f := ?_) (args := ?_) (fun v w' => IntsW w' v C.length C /\ Below w6.heap.size w6 w') (by rfl) (by rfl) (fun w6 hSw => ?_) (fun w6 hSw => ?_) (.inr (fun v6 w6 hT6 => ?_)) (fun v6 hv6 => ?_)
     rotate_left 2
     ·(skip; go_simp; first | done | (constructor <;> with_reducible rfl) | with_reducible rfl)
     ·(refine (HATi.out _ hSw.2).mono ?_; rintro e w' ⟨v, rfl, hown, hb'⟩; obtain ⟨A7, k7, rfl, hk7⟩ := own_slice hown; exact ⟨_, rfl, ⟨A7, k7, rfl, IntsI.of_own hown⟩, bseq hSw.2 hb'⟩)
     ·(exact hT6.2)
     obtain ⟨wz, hz7, -⟩ := hv6; obtain ⟨A7, c7, rfl⟩ := hz7.form
     (try simp only [Act.put, pA, pB, pC])
     repeat ((first
      | (refine wpL_read (v := ?_) (by rfl) (by rfl) (fun w6 hSw => ?_) ?_; rotate_left; (· (obtain ⟨y0, y2, x0, x1⟩ := HG.out _ hSw; go_simp; try with_reducible rfl)))
      | (refine wpL_free (v := ?_) (by rfl) (fun w6 => ?_) ?_; rotate_left; (· (go_simp; try with_reducible rfl)))
      | refine wpL_not (by rfl) ?_); (try simp only [Act.put, pA, pB, pC]))
     refine wpL_call (f := ?_) (args := ?_) (fun v w' => v = .int .i64 (n0 : Int) /\ Below w6.heap.size w6 w') (by rfl) (by rfl) (fun w6 hSw => ?_) (fun w6 hSw => ?_) (.inl (by rfl)) (fun v6 hv6 => ?_)
     rotate_left 2
     ·(skip; go_simp; first | done | (constructor <;> with_reducible rfl) | with_reducible rfl)
     ·(refine (HLD.out A7 c7 _ hSw.1.at_.2).mono ?_; rintro e w' ⟨rfl, rfl⟩; exact ⟨_, rfl, rfl, hSw.2⟩)
     obtain ⟨wz, rfl, -⟩ := hv6
     (try simp only [Act.put, pA, pB, pC])
     repeat ((first
      | (refine wpL_read (v := ?_) (by rfl) (by rfl) (fun w6 hSw => ?_) ?_; rotate_left; (· (obtain ⟨y0, y2, x0, x1⟩ := HG.out _ hSw; go_simp; try with_reducible rfl)))
      | (refine wpL_free (v := ?_) (by rfl) (fun w6 => ?_) ?_; rotate_left; (· (go_simp; try with_reducible rfl)))
      | refine wpL_not (by rfl) ?_); (try simp only [Act.put, pA, pB, pC]))
     refine wpL_nil ?_
     rintro w7 ⟨-, hb7⟩
     have hw37 := bseq hw36 hb7
     have hw67 := bseq hw6 hb7
     obtain ⟨y0, y2, x0, x1⟩ := HG.out _ hb7
     have wi : IntKind.i64.wrap ((i : Int) + 1) = ((i + 1 : Nat) : Int) := by rw [IntWalk.i64_in _ (by omega)]; omega
     by_cases h0 : 0 < n0
     ·have p0 : ((0 : Int) < (n0 : Int)) = True := by simp; exact h0
      have wz : IntKind.i64.wrap (z0 + (n0 : Int)) = z0 + (n0 : Int) := IntWalk.i64_in _ (by omega)
      have hsh := HSH.out
      rw [if_pos h0] at hsh
      have HSH := Lib.hid hsh
      clear hsh
      obtain ⟨A6, c6, rfl, hc6⟩ := own_slice hE.out.row
      go_upto_region 13 with fail
      go_wp2_with (at_builtin; refine wpList_append_own_at _ rfl (.tmp 51) (.tmp 59) 92 rfl w3.heap.size 89 ie ze 3 40 Tryz.underlying92 HIE.out he0 he1 he2 he3 (by decide) (.slice A6 es.length c6) es.length _ rfl ((own_bel hE.out.row hw67).alloc _) ⟨w7.heap.size, 0, none⟩ 1 1 [.int .i64 z0, .int .i64 (z0 + (n0 : Int)), .slice none 0 0] rfl rfl (cells_new _ _ _) (edit_one _ _ _ _ _) (by unfold maxLen; omega) (by omega) (by have := hw37.size; simp; omega) ?_)
      intro v1 w8 hown8 hgr _ _
      have hE8 := hE.out.snoc (e := ⟨z0, z0 + (n0 : Int), none, 0, 0, []⟩) (balloc hw67) (PutI.nil rfl rfl) hgr hown8
      have hb8 : Below w3.heap.size w3 w8 := below_grown2 (balloc hw37) hgr (fun k hk => own_ge hE.out.row hk)
      have HE8 := Lib.hid hE8
      clear hE8 hown8 hgr
      go_wp2_with fail
      go_roundg (l + 1 - (f + (j + 1)))
      case measure => omega
      case rel => exact ShR.more hi.out HE8.out hes.out (fun h => absurd h (by omega)) hb8 hgo (Nat.le_refl _) HSH.out
     ·have p0 : ((0 : Int) < (n0 : Int)) = False := by simp; omega
      have hsh := HSH.out
      rw [if_neg h0] at hsh
      have HSH := Lib.hid hsh
      clear hsh
      go_wp2_with fail
      go_roundg (l + 1 - (f + (j + 1)))
      case measure => omega
      case rel => exact ShR.same hi.out hE.out hes.out hSE.out hb hw67 hgo (Nat.le_refl _) HSH.out
    ·have q2 : (k < 0) = False := by simp; omega
     obtain ⟨s, hs⟩ : ∃ s : Nat, k = (s : Int) := ⟨k.toNat, by omega⟩
     have hsb : s <= 9999 := by omega
     have wi : IntKind.i64.wrap ((i : Int) + 1) = ((i + 1 : Nat) : Int) := by rw [IntWalk.i64_in _ (by omega)]; omega
     have hsh := HSH.out
     rw [if_neg hneg] at hsh
     by_cases hne : z0 < z1
     ·have q3 : (z0 < z1) = True := by simp; exact hne
      rw [if_pos hne, hs, Int.toNat_natCast] at hsh
      have HSH := Lib.hid hsh
      obtain ⟨A6, c6, rfl, hc6⟩ := own_slice hE.out.row
      obtain ⟨E1, hE1⟩ : ∃ E1, es.length + 1 = E1 := ⟨_, rfl⟩
      have we : IntKind.i64.wrap ((es.length : Int) + 1) = (E1 : Int) := by rw [IntWalk.i64_in _ (by omega)]; omega
      obtain ⟨P1, hP1⟩ : ∃ P1, E1 * s = P1 := ⟨_, rfl⟩
      have hP1b : P1 <= 655314462 := by
       have hmm := Nat.mul_le_mul (show E1 <= 65538 by omega) hsb
       rw [hP1] at hmm
       omega
      have wp : IntKind.i64.wrap ((E1 : Int) * k) = (P1 : Int) := by
       rw [hs, <- Int.natCast_mul, hP1]
       exact IntWalk.i64_in _ (by omega)
      obtain ⟨P2, hP2⟩ : ∃ P2, (P1 : Int) * tb = P2 := ⟨_, rfl⟩
      have hP2b : 0 <= P2 /\ P2 <= 2 * (P1 : Int) := by
       rcases (show tb = 1 \/ tb = 2 by omega) with h | h
       ·rw [<- hP2, h]; omega
       ·rw [<- hP2, h]; omega
      have wq : IntKind.i64.wrap ((P1 : Int) * tb) = P2 := by
       rw [hP2]
       exact IntWalk.i64_in _ (by omega)
      have hPE : ((es.length : Int) + 1) * (k * tb) = P2 := by
       rw [<- hP2, <- hP1, Int.natCast_mul, Int.mul_assoc, hs, <- hE1]
       rfl
      have HE1 := Lib.hid hE1
      clear hE1
      have HPE := Lib.hid hPE
      have HSK := Lib.hid hs
      clear hP1 hP2 hPE hsh hs
      by_cases hfit : S + P2 <= 65536
      ·have HFX := Lib.hid (HFO.out _ hw36 P2 ⟨hP2b.1, by omega⟩ hfit)
       go_upto_region 15 with fail
       go_wp2_with fail
       refine (HFX.out).mono ?_
       rintro e w7 ⟨rfl, hb7⟩
       have hw37 := bseq hw36 hb7
       have hw67 := bseq hw6 hb7
       have hys : ∀ w', Below w7.heap.size w7 w' -> w'.cell? ⟨b2, 0, none⟩ = some (.int .i64 (s : Int)) /\ w'.cell? ⟨b9, 0, none⟩ = some (.int .i64 z0) := fun w' hb' => ⟨HSK.out ▸ (HG.out _ (bseq hb7 hb')).2.1, (HG.out _ (bseq hb7 hb')).2.2.1⟩
       have HYS := Lib.hid hys
       obtain ⟨R, hR⟩ : ∃ R, repeatL [9] s = R := ⟨_, rfl⟩
       have hRt : R = tabs s := by rw [<- hR]; exact repeatL_tab s
       have HRP := Lib.hid (fun (A : Option Addr) (c : Nat) (w' : World) (h : IntsI w' A 1 [9]) => hR ▸ repeated_any _ A 1 c s [9] w' h (by omega) (by omega) (by omega))
       have HRT := Lib.hid hRt
       clear hys hR hRt y0 y2 x0 x1 we wp wq HFX
       go_upto_region 16 with fail
       refine wp_region_lin (fun w' => Below w7.heap.size w7 w') (fun w' => Below w7.heap.size w7 w') (fun k => k == 5 || k == 7 || k == 9 || k == 10) (fun k => k == 10) (fun k => k == 11) (by kernel_rfl) (by kernel_rfl) (Below.drew (Below.refl _ _)) (fun _ h => h) ?_
       repeat ((first
        | (refine wpL_read (v := ?_) (by rfl) (by rfl) (fun w6 hSw => ?_) ?_; rotate_left; (· (obtain ⟨y2, x0⟩ := HYS.out _ hSw; go_simp; try with_reducible rfl)))
        | (refine wpL_free (v := ?_) (by rfl) (fun w6 => ?_) ?_; rotate_left; (· (go_simp; try with_reducible rfl)))
        | refine wpL_not (by rfl) ?_); (try simp only [Act.put, pA, pB, pC]))
       refine wpL_heavy (fun u w' => IntsW w' u 1 [9] /\ Below w7.heap.size w7 w') (by rfl) (by rfl) (fun w6 hSw => ?_) (.inr (fun v6 w6 hT6 => ?_)) (fun v6 hv6 => ?_)
       ·(go_simp; exact ⟨IntsW.one _ _, balloc hSw⟩)
       ·(exact hT6.2)
       obtain ⟨wz, hz7, -⟩ := hv6; obtain ⟨A7, c7, rfl⟩ := hz7.form
       (try simp only [Act.put, pA, pB, pC])
       repeat ((first
        | (refine wpL_read (v := ?_) (by rfl) (by rfl) (fun w6 hSw => ?_) ?_; rotate_left; (· (obtain ⟨y2, x0⟩ := HYS.out _ hSw; go_simp; try with_reducible rfl)))
        | (refine wpL_free (v := ?_) (by rfl) (fun w6 => ?_) ?_; rotate_left; (· (go_simp; try with_reducible rfl)))
        | refine wpL_not (by rfl) ?_); (try simp only [Act.put, pA, pB, pC]))
       refine wpL_call (f := ?_) (args := ?_) (fun v w' => PutV w' w3.heap.size v R.length R /\ Below w7.heap.size w7 w') (by rfl) (by rfl) (fun w6 hSw => ?_) (fun w6 hSw => ?_) (.inr (fun v6 w6 hT6 => ?_)) (fun v6 hv6 => ?_)
       rotate_left 2
       ·(skip; go_simp; first | done | (constructor <;> with_reducible rfl) | with_reducible rfl)
       ·(refine (HRP.out A7 c7 _ hSw.1.at_.2).mono ?_; intro e w' hN; obtain ⟨v, rfl, hp', hb'⟩ := PutV.of_new (base := w3.heap.size) hN (bseq hw37 hSw.2).size; exact ⟨v, rfl, hp', bseq hSw.2 hb'⟩)
       ·(exact hT6.2)
       obtain ⟨wz, hz8, -⟩ := hv6; obtain ⟨A8, c8, rfl⟩ := hz8.form
       (try simp only [Act.put, pA, pB, pC])
       repeat ((first
        | (refine wpL_read (v := ?_) (by rfl) (by rfl) (fun w6 hSw => ?_) ?_; rotate_left; (· (obtain ⟨y2, x0⟩ := HYS.out _ hSw; go_simp; try with_reducible rfl)))
        | (refine wpL_free (v := ?_) (by rfl) (fun w6 => ?_) ?_; rotate_left; (· (go_simp; try with_reducible rfl)))
        | refine wpL_not (by rfl) ?_); (try simp only [Act.put, pA, pB, pC]))
       refine wpL_heavy (fun u w' => ∃ wq, (PutV wq w3.heap.size (.slice A8 R.length c8) R.length R /\ Below w7.heap.size w7 wq) /\ u = .slice (some ⟨wq.heap.size, 0, none⟩) 1 1 /\ w' = wq.alloc (.cells #[.int .i64 z0, .int .i64 z0, .slice A8 R.length c8] 89)) (by rfl) (by rfl) (fun w6 hSw => ?_) (.inr (fun v6 w6 hT6 => ?_)) (fun v6 hv6 => ?_)
       ·(go_simp; exact ⟨w6, hSw, rfl, rfl⟩)
       ·(obtain ⟨wq, hq, -, rfl⟩ := hT6; exact balloc hq.2)
       skip
       (try simp only [Act.put, pA, pB, pC])
       refine wpL_heavy (fun u w' => EdsS w' w3.heap.size u (es ++ [⟨z0, z0, A8, R.length, c8, R⟩]) /\ Below w3.heap.size w3 w') (by rfl) (by rfl) (fun w6 hSw => ?_) (.inl (by rfl)) (fun v6 hv6 => ?_)
       ·(obtain ⟨wq, hq, rfl, rfl⟩ := hSw; exact hrun_append_own 92 rfl w3.heap.size 89 ie ze 3 40 Tryz.underlying92 HIE.out he0 he1 he2 he3 (by decide) (.slice A6 es.length c6) es.length _ rfl ((own_bel hE.out.row (bseq hw67 hq.2)).alloc _) ⟨wq.heap.size, 0, none⟩ 1 1 [.int .i64 z0, .int .i64 z0, .slice A8 R.length c8] rfl rfl (cells_new _ _ _) (edit_one _ _ _ _ _) (by unfold maxLen; omega) (by omega) (by have := (bseq hw37 hq.2).size; simp; omega) (fun v' w' ho' hg' _ hat' => ⟨hE.out.snoc (balloc (bseq hw67 hq.2)) ((PutV.at_ hq.1).2.bel (balloc (Below.refl _ _))) hg' ho', below_grown2 (balloc (bseq hw37 hq.2)) hg' (fun k hk => own_ge hE.out.row hk)⟩))
       skip
       (try simp only [Act.put, pA, pB, pC])
       repeat ((first
        | (refine wpL_read (v := ?_) (by rfl) (by rfl) (fun w6 hSw => ?_) ?_; rotate_left; (· (obtain ⟨y2, x0⟩ := HYS.out _ hSw; go_simp; try with_reducible rfl)))
        | (refine wpL_free (v := ?_) (by rfl) (fun w6 => ?_) ?_; rotate_left; (· (go_simp; try with_reducible rfl)))
        | refine wpL_not (by rfl) ?_); (try simp only [Act.put, pA, pB, pC]))
       refine wpL_nil ?_
       rintro w8 ⟨hE8, hb8⟩
       have HE8 := Lib.hid hE8
       clear hE8
       go_wp2_with fail
       go_roundg (l + 1 - (f + (j + 1)))
       case measure => omega
       case rel => exact ShR.more hi.out HE8.out hes.out (fun _ => by rw [HPE.out]; exact hfit) hb8 hgo (Nat.le_refl _) (by have h := HSH.out; rw [<- HSK.out] at h; rw [h]; unfold abE; rw [HRT.out])
      ·have HFX := Lib.hid (HFB.out _ hw36 P2 ⟨hP2b.1, by omega⟩ (by omega))
       have hfin : 0 < k /\ lim < szS ds + ((psF ds f (l + 1 - f)).length : Int) * (k * tb) := by
        have h1 : es.length + 1 <= (psF ds f (l + 1 - f)).length := by
         clear we wp wq
         have h2 := hes.out
         rw [HSK.out] at h2
         have h3 := (sh_right (enc := 1) h2).1
         have h4 := psF_len_mono ds f (show j + 1 <= l + 1 - f by omega)
         have h5 : (psF ds f (j + 1)).length = (psF ds f j).length + 1 := by
          rw [psF_succ, <- hi.out, if_pos (HNE.out hne), List.length_append]
          rfl
         omega
        have h6 : 0 < k := by omega
        have h7 : 0 <= k * tb := Int.mul_nonneg (by omega) (by omega)
        have h8 := Int.mul_le_mul_of_nonneg_right (show ((es.length : Int) + 1) <= ((psF ds f (l + 1 - f)).length : Int) by omega) h7
        rw [HPE.out] at h8
        rw [HS.out]
        exact ⟨h6, by omega⟩
       have HFIN := Lib.hid hfin
       clear hfin
       go_upto_region 15 with fail
       go_wp2_with fail
       refine (HFX.out).mono ?_
       rintro e w7 ⟨rfl, hb7⟩
       go_wp2_with fail
       have hde := HDS.out
       subst hde
       exact ⟨rfl, .inr ⟨HFIN.out.1, by rw [HTBE.out]; exact HFIN.out.2, rfl, HD3.out.below (bseq hw36 hb7), HDF3.out.trans (DFr.of_below (bseq hw36 hb7))⟩⟩
     ·have q3 : (z0 < z1) = False := by simp; omega
      rw [if_neg hne] at hsh
      have HSH := Lib.hid hsh
      clear hsh
      go_wp2_with fail
      go_roundg (l + 1 - (f + (j + 1)))
      case measure => omega
      case rel => exact ShR.same hi.out hE.out hes.out hSE.out hb hw6 hgo (Nat.le_refl _) HSH.out
   ·have q1 : ((i : Int) <= (l : Int)) = False := by simp; omega
    have hjm : j = l + 1 - f := by omega
    have hes' := hes.out
    rw [hjm] at hes'
    have hft : f + (l + 1 - f) <= totE ds + 1 := by omega
    have hlf := HLI.out _ hb f (by omega)
    obtain ⟨⟨x0, x1, x2, x3⟩, hL⟩ : ∃ L, lineF ds f = L := ⟨_, rfl⟩
    have hx0 : (lineF ds f).from_ = x0 := by rw [hL]
    rw [hL] at hlf
    unfold Ln.cells at hlf
    dsimp only at hlf
    have HX0 := Lib.hid hx0
    have HLF := Lib.hid hlf
    have lf := lfield0 x0 x1 x2 x3
    obtain ⟨A6, c6, rfl, hc6⟩ := own_slice hE.out.row
    have hpn : putN es <= 268435456 := by
     rcases ilt_or_ge k 0 with h1 | h1
     ·have := (sh_putB_left (enc := 1) HP.out h1 hft hes').2
      omega
     ·obtain ⟨s, hs⟩ : ∃ s : Nat, k = (s : Int) := ⟨k.toNat, by omega⟩
      have h2 := hes'
      rw [hs] at h2
      have h3 := (sh_right (enc := 1) h2).2.2.2
      have h4 := Nat.mul_le_mul (show es.length <= 65537 by omega) (show s <= 9999 by omega)
      have h5 := hSE.out h1
      have h6 : ((es.length * s : Nat) : Int) <= (es.length : Int) * (k * tb) := by
       rw [hs, Int.natCast_mul]
       refine Int.mul_le_mul_of_nonneg_left ?_ (by omega)
       have := Int.mul_le_mul_of_nonneg_left (show (1 : Int) <= tb by omega) (show (0 : Int) <= (s : Int) by omega)
       omega
      omega
    have hrf : refF enc lim ds es ≠ 0 -> refF enc lim ds es = 50 /\ 0 < k /\ lim < szS ds + ((psF ds f (l + 1 - f)).length : Int) * (k * tb) := fun hz => by
     rcases ilt_or_ge k 0 with h1 | h1
     ·exact absurd (sh_ref_left hE4 HP.out HLEN.out HSZ.out h1 hft hes') hz
     ·obtain ⟨s, hs⟩ : ∃ s : Nat, k = (s : Int) := ⟨k.toNat, by omega⟩
      have h2 := hes'
      rw [hs] at h2
      have h3 := sh_ref_right (lim := lim) hE4 HP.out HLEN.out hft h2
      rw [h3, HTBE.out, <- hs] at hz ⊢
      split at hz
      ·rename_i h4
       rw [if_pos h4]
       exact ⟨rfl, by omega, h4⟩
      ·exact absurd rfl hz
    obtain ⟨r, hr⟩ : ∃ r, refF enc lim ds es = r := ⟨_, rfl⟩
    rw [hr] at hrf
    have HRF := Lib.hid hrf
    have HR := Lib.hid hr
    have HES := Lib.hid hes'
    clear hL hx0 hlf hes' hrf hr
    go_wp2_with fail
    refine (HLF.out).mono ?_
    rintro e w5 ⟨rfl, hb5⟩
    clear y0 y2
    obtain ⟨y0, y2⟩ := HHB.out _ (bseq hb hb5)
    have hdc := dchange_any (c := c6) (HD3.out.below (bseq hb hb5)) HN.out ((hE.out.bel hb5).eds rfl) (fun b hb _ => by
     rcases hb.2 with ⟨cs, hb⟩ | ⟨cs, hb⟩
     ·exact ⟨_, cs, hb, by decide⟩
     ·exact ⟨_, cs, hb, by decide⟩) hpn hnn HOM.out
    unfold DChgPost at hdc
    rw [HDS.out, HR.out] at hdc
    have HDC := Lib.hid hdc
    clear hdc
    go_wp2_with fail
    refine (HDC.out).mono ?_
    rintro e w6 (⟨hz, rfl, hd6, hf6⟩ | ⟨hz, rfl, hb6⟩)
    ·clear y0 y2
     have y0 := (hf6.blk (HK03.out.below (bseq hb hb5)) (by decide)).cell 0
     simp at y0
     have HSG := Lib.hid (sign_desk hd6 x0)
     have HD6 := Lib.hid hd6
     have HZ := Lib.hid hz
     clear hd6 hz
     go_wp2_with fail
     refine (HSG.out).mono ?_
     rintro e w7 ⟨i', T, hH, hT', rfl, hb7⟩
     have HFIN := Lib.hid (And.intro hH hT')
     clear hH hT'
     go_wp2_with fail
     go_ret
     have hde := HDS.out
     subst hde
     refine .inl ⟨es, T, HES.out, by rw [HR.out]; exact HZ.out, ⟨i', ?_, HFIN.out.2⟩, rfl, HD6.out.below hb7, (HDF3.out.trans (DFr.of_below (bseq hb hb5))).trans ((DFr.of_bk hf6).trans (DFr.of_below hb7))⟩
     rw [HX0.out]
     exact HFIN.out.1
    ·obtain ⟨h50, hfin⟩ := HRF.out hz
     subst h50
     have HFIN := Lib.hid hfin
     clear hfin hz
     go_wp2_with fail
     have hde := HDS.out
     subst hde
     exact ⟨rfl, .inr ⟨HFIN.out.1, by rw [HTBE.out]; exact HFIN.out.2, rfl, HD3.out.below (bseq (bseq hb hb5) hb6), HDF3.out.trans (DFr.of_below (bseq (bseq hb hb5) hb6))⟩⟩
end Go.Proofs.YtgiihhikdoikgaaGreat
