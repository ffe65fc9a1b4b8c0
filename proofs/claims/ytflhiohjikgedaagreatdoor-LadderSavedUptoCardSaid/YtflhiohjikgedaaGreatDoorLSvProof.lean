import Derived.Test.YtflhiohjikgedaaGreatDoorLSvKeep
import Derived.Test.YtflhiohjikgedaaGreatDoorLSvLaw
import Derived.Test.YtflhiohjikgedaaGreatDoorRows
import Derived.Test.YtflhiohjikgedaaGreatDoorCards
import Derived.Test.YtflhiohjikgedaaGreatDoorTie
import Derived.WalkKit
import Derived.ProofKit
import Derived.OpenShut
import Derived.ChangeOld
import Derived.Below
import Derived.LaidMore
import Derived.Deep.Slices
import Derived.Deep.DeepHandedRow
import Derived.Deep.DeepWitnessRowRef
import Derived.Lib.LaidTab
import Derived.SevenTiedAt
import Derived.JoinedCond
set_option linter.unusedSimpArgs false
set_option linter.unusedVariables false
namespace Go.Proofs.YtflhiohjikgedaaGreatDoor
open Go.RowKit

def IntB (w : World) (b : Nat) : Prop := ∃ cs, Blk w b 3 cs
theorem ints_newi {W : World} {B : Nat} {v : Value} {l : List Int} (h : W.ownsRow B 3 1 v l.length (l.map (Value.int .i64))) : ∃ A c, v = .slice A l.length c ∧ Ints W (IntB W) A l.length l := by
  rcases h.2 with ⟨e, hl⟩ | ⟨r, cap, cur, e, hB, hr, h4, h5, h6⟩
  · have : l = [] := List.length_eq_zero_iff.1 hl
    subst this
    exact ⟨none, 0, e, by rfl, fun h => by simp at h⟩
  · refine ⟨_, cap, e, ?_⟩
    subst e
    have h1 := Reads.of_own h
    refine ⟨h1.1, fun hn => ?_⟩
    obtain ⟨ad, e, _, hc⟩ := h1.2 hn
    refine ⟨ad, e, ?_, hc⟩
    injection e with e
    subst e
    exact ⟨cur, hr⟩
theorem ed_one {w : World} {b : Nat} {x y : Int} {A : Option Addr} {n c : Nat} {xs : List Int} (hb : Blk w b 45 #[.int .i64 x, .int .i64 y, .slice A n c]) (hI : Ints w (IntB w) A n xs) :
    EdsAt w (fun b => IntB w b ∨ ∃ cs, Blk w b 45 cs) (some ⟨b, 0, none⟩) 1 [⟨x, y, A, n, c, xs⟩] := by
  refine ⟨⟨rfl, fun _ => ⟨_, rfl, .inr ⟨_, hb⟩, fun j u hu => ?_⟩⟩, fun e he => ?_⟩
  · rw [add_cell, hb.cell, Nat.zero_add]
    simp only [Ed.cells, List.flatMap_cons, List.flatMap_nil, List.append_nil] at hu
    rw [← hu]
    simp
  · simp at he
    subst he
    exact Reads.more hI (fun _ h _ => .inl h) (by decide)
theorem TxI.len {B g : Nat} {enc : Int} {i : Nat} {W : World} (h : TxI B g enc i W) : ∃ T : Nat, T ≤ 1073741824 ∧ ∀ w', Below W.heap.size W w' → Calls Tryz.prog 12 #[.pointer (some ⟨g, 0, none⟩)] w' fun e w'' => e = .returned (.int .i64 (T : Int)) ∧ Below w'.heap.size w' w'' := by
  obtain ⟨n, add, t, a, xs, h1, h2, h3, h4⟩ := h
  exact ⟨(decL enc t.list).length, TextAt.len ⟨65536, t, a, add, h1.text, rfl⟩, fun w' hb => len_any Any g enc (decL enc t.list) w' ⟨65536, t, a, add, (h1.below hb).text, rfl⟩⟩
theorem TxI.chg {B g : Nat} {enc : Int} {i : Nat} {W : World} (h : TxI B g enc i W) (hi : i ≤ 200) {q : Nat} {x y : Int} {A : Option Addr} {n c : Nat} {xs : List Int} (hb : Blk W q 45 #[.int .i64 x, .int .i64 y, .slice A n c]) (hI : Ints W (IntB W) A n xs) (hn : xs.length ≤ 1048576) (hBW : B ≤ W.heap.size) :
    Calls Tryz.prog 13 #[.pointer (some ⟨g, 0, none⟩), .slice (some ⟨q, 0, none⟩) 1 1] W fun e w' => (∃ r, e = .returned (.int .i64 r)) ∧ TxI B g enc (i + 1) w' ∧ Below B W w' := by
  obtain ⟨m, add, t, a, ys, h1, h2, h3, h4⟩ := h
  refine (change_any B g enc 65536 m add t a ys _ (some ⟨q, 0, none⟩) 1 1 _ W h1 (ed_one hb hI) (fun b hb => ?_) (by simp [putN]; omega) (by omega) h2 (by omega)).mono ?_
  · rcases hb with ⟨cs, hb⟩ | ⟨cs, hb⟩
    · exact ⟨Blk.ne_ hb h1.blk (by decide), own_blk_ne h1.row hb (by decide)⟩
    · exact ⟨Blk.ne_ hb h1.blk (by decide), own_blk_ne h1.row hb (by decide)⟩
  · rintro e w' ⟨rfl, k1, k2⟩
    refine ⟨⟨_, rfl⟩, ?_⟩
    by_cases h0 : refF enc 65536 (decL enc t.list) [⟨x, y, A, n, c, xs⟩] = 0
    · obtain ⟨add', n', xs', ⟨t', a', r1, r2, r3, r4⟩, r5⟩ := k2 h0
      obtain ⟨-, -, -, -, hz⟩ := refF_ok (decL_pos enc _) h0 (by omega) h2
      refine ⟨⟨n', add', t', a', xs', r1, by rw [r3]; exact hz, by omega, h4⟩, ?_⟩
      have hf := r2.fr
      refine ⟨hf.os, hf.tape, hf.output, hf.size, fun k hk => hf.block k (by omega) (fun hs => ?_)⟩
      rcases hs with hs | hs
      · omega
      · have := (h1.row.lt k hs).1
        omega
    · have hb := k1 h0
      exact ⟨⟨m, add, t, a, ys, h1.below hb, h2, by omega, h4⟩, hb.mono hBW⟩
theorem TxI.textU {B g : Nat} {enc : Int} {i : Nat} {W : World} (h : TxI B g enc i W) : ∃ t a add, TextU W g enc 65536 t a add ∧ (bytesL t.list).length ≤ 65536 ∧ totB t.list ≤ 65536 := by
  obtain ⟨n, add, t, a, xs, h1, h2, h3, h4⟩ := h
  have hx := h1.text
  have ht : totB t.list ≤ 65536 := by
    have h1 := (sumL_good hx.good).2
    rw [sumL_dec hx.ok, (sumsOf_good' (decL_pos enc _)).2.2] at h1
    have h2' : ((decL enc t.list).map Prod.snd).sum ≤ 65536 := h2
    omega
  refine ⟨t, a, add, ⟨hx.blk, hx.enc4, hx.node, hx.len, hx.tot, hx.ok, fun p hp => ?_⟩, ?_, ht⟩
  · obtain ⟨k1, k2⟩ := hx.bts p hp
    refine ⟨k1, fun hn => ?_⟩
    obtain ⟨ad, e, _, hc⟩ := k2 hn
    refine ⟨ad, e, ?_, hc⟩
    exact h1.tree.pcs.u8 p hp ad e
  · have := bytesL_len hx.ok
    omega
theorem MapS.noTx {w : World} {r : Nat} {l : List (ByteArray × Value)} (h : MapS w r l) : NoTx w r := by
  obtain ⟨es, clock, h, _⟩ := h
  exact NoTx.obj h rfl
end Go.Proofs.YtflhiohjikgedaaGreatDoor
namespace Go.Proofs.YtflhiohjikgedaaGreatDoor
open Go.RowKit

set_option maxRecDepth 100000 in
set_option maxHeartbeats 16000000 in
theorem saved_any (enc : Int) (Ab : Option Addr) (nb cb : Nat) (bl : List Int) (Ap : Option Addr) (mp cp : Nat) (es : List Ed) (w : World) (hb : Bts w Any Ab nb bl) (hby : Byt bl) (hcb : nb ≤ cb) (hes : EdsAt w Any Ap mp es)
    (hP : ∀ e ∈ es, (-9223372036854775808 ≤ e.f ∧ e.f ≤ 9223372036854775807) ∧ (-9223372036854775808 ≤ e.t ∧ e.t ≤ 9223372036854775807) ∧ e.put.length ≤ 1048576) :
    Calls Tryz.prog 3 #[.int .i64 enc, .slice Ab nb cb, .slice Ap mp cp] w fun e w' => e = .returned (.bool true) ∧ Below w.heap.size w w' := by
  have hR := right_any enc Ab nb cb
  cases eR : rightF enc nb
  · rw [eR] at hR
    go_enter Tryz.func3, Tryz.ntmps3
    go_wp2_with fail
    refine (hR _).mono ?_
    rintro e w1 ⟨rfl, rfl⟩
    go_wp2_with fail
    go_ret
    exact ⟨rfl, Below.refl _ _⟩
  rw [eR] at hR
  by_cases h200 : 200 < mp
  · have q1 : ((200 : Int) < (mp : Int)) = True := by simp; omega
    go_enter Tryz.func3, Tryz.ntmps3
    go_wp2_with fail
    refine (hR _).mono ?_
    rintro e w1 ⟨rfl, rfl⟩
    go_wp2_with fail
    go_ret
    exact ⟨rfl, Below.refl _ _⟩
  have q1 : ((200 : Int) < (mp : Int)) = False := by simp; omega
  simp [rightF] at eR
  obtain ⟨⟨he1, he4⟩, hnb⟩ := eR
  have hbl := hb.len
  obtain ⟨K, hK⟩ : ∃ K, nM enc bl = K := ⟨_, rfl⟩
  have hKle := nM_le enc bl
  rw [hK] at hKle
  obtain ⟨ii, hii, hz0, hz1, hz2⟩ := info_parts int_info
  have HII := Lib.hid hii
  have HB := Lib.hid (And.intro hb (And.intro hby (And.intro hcb (And.intro hes hP))))
  have HR := Lib.hid hR
  have HNEW := Lib.hid new_any
  have HNUM := Lib.hid num_any
  clear hb hby hes hP hR hii
  subst hbl
  go_enter Tryz.func3, Tryz.ntmps3
  go_wp2_with fail
  refine (HR.out _).mono ?_
  rintro e w1 ⟨rfl, rfl⟩
  go_wp2_with fail
  refine (HNEW.out _).mono ?_
  rintro e w1 ⟨d, sb, lb, rfl, hd1, hm1, hsb, hdw, hsd, hb1⟩
  have HT := Lib.hid (twin_own Any Ab bl.length cb bl w1 (Reads.below HB.out.1 hb1) (by omega))
  have H1 := Lib.hid (And.intro hd1 (And.intro hm1 hb1))
  clear hd1 hm1 hb1
  go_wp2_with fail
  refine (HT.out).mono ?_
  rintro e w2 ⟨v2, rfl, ho2, hb2⟩
  obtain ⟨A2, c2, rfl, hc2, hx2⟩ := bts_newu ho2
  have HPUT := Lib.hid (put_any sA sA_ok d sb lb A2 bl.length c2 _ bl w2 (Blk.below H1.out.1 hb2) (H1.out.2.1.below hb2) hx2 (by omega) (fun b hb => by
    obtain ⟨_, cs, hb⟩ := hb
    exact ⟨Blk.ne_ hb (Blk.below H1.out.1 hb2) (by decide), fun e => (H1.out.2.1.below hb2).ne_blk hb e.symm⟩))
  have H2 := Lib.hid (H1.out.2.2.trans (hb2.mono H1.out.2.2.size))
  clear ho2 hb2 hx2
  go_wp2_with fail
  refine (HPUT.out).mono ?_
  rintro e w3 ⟨rfl, f, lb3, A3, c3, hd3, hm3, hf3, ho3, hfw, hfr3⟩
  have hb3 : Below w.heap.size w w3 := ((Fr.of_below H2.out : Fr (fun b => b = d ∨ b = sb) w w2).trans hfr3).below (fun k hk => by omega)
  obtain ⟨A3', c3', hA3, hc3, hx3⟩ := bts_newu ho3
  injection hA3 with hA3 _ hc3'
  subst hA3; subst hc3'
  have hSO := sopen_any enc ⟨he1, he4⟩ d sb f bl.length c3 (.map (some lb3)) (.slice none 0 0) 1 0 1 bl.length 1 A3 _ bl _ w3 hd3 (by omega) hm3 (by rw [getS_cons, if_pos rfl]) hf3 hx3 HB.out.2.1 (by omega) (fun b hb => by
    obtain ⟨_, cs, hb⟩ := hb
    exact Blk.ne_ hb hd3 (by decide)) (by omega)
  rw [hK] at hSO
  have HSO := Lib.hid hSO
  have hw23 : w.heap.size ≤ w2.heap.size := H2.out.size
  have H3 := Lib.hid (And.intro hd3 (And.intro hm3 (And.intro hf3 (And.intro hb3 (And.intro hfr3.size (show w.heap.size ≤ f by omega))))))
  clear hd3 hm3 hf3 ho3 hfr3 hb3 hx3 hSO
  go_wp2_with fail
  refine (HSO.out).mono ?_
  rintro e w4 ⟨fb, Am, cm, Al, cl, rfl, hfb, hbf4, hmb4, hal4, hcl, hd4, hfr4⟩
  obtain ⟨L, hL⟩ : ∃ L, (bl.drop K).length = L := ⟨_, rfl⟩
  have hKL : K + L = bl.length := by rw [← hL, List.length_drop]; omega
  have hKt : (bl.take K).length = K := by rw [List.length_take]; omega
  rw [hKt] at hbf4 hmb4
  rw [hL] at hal4 hcl ⊢
  obtain ⟨w5, hw5⟩ : ∃ w5, w4.alloc (.cells #[.int .i64 enc, .int .i64 (K : Int), .slice Al L cl, .bool false] 34) = w5 := ⟨_, rfl⟩
  obtain ⟨q10, hq10⟩ : ∃ q10, w4.heap.size = q10 := ⟨_, rfl⟩
  have hb45 : Below w4.heap.size w4 w5 := by rw [← hw5]; exact balloc (Below.refl _ _)
  have hLn : bl.length - K = L := by omega
  have hsz5 : w5.heap.size = q10 + 1 := by rw [← hw5, ← hq10]; simp
  have hK5 : SvK enc d sb lb3 f bl.length c3 fb K cm q10 cl A3 Am Al bl w5 := by
    refine ⟨Blk.below hd4 hb45, (H3.out.2.1.fr hfr4 (H3.out.2.1.ne_blk H3.out.1)).below hb45, Blk.below (Blk.fr H3.out.2.2.1 hfr4 (Blk.ne_ H3.out.2.2.1 H3.out.1 (by decide))) hb45, hbf4.below hb45, ?_, ?_⟩
    · refine bu8_below (Reads.more hmb4 (fun b hb _ => hb.2) (by decide)) hb45
    · rw [hLn, ← hw5]
      exact Blk.newAt hq10
  have hal5 := Reads.below hal4 hb45
  have hb5 : Below w.heap.size w w5 := ((Fr.of_below H3.out.2.2.2.1 : Fr (· = d) w w3).trans (hfr4.bel hb45)).below (fun k hk => by omega)
  have hld := hK5.ldc
  rw [hLn] at hld
  obtain ⟨x0, x1, x2⟩ := hld
  have HK5 := Lib.hid hK5
  have HBW5 := Lib.hid hb5
  have HLO := Lib.hid (show w.heap.size ≤ d ∧ w.heap.size ≤ sb ∧ w.heap.size ≤ f ∧ w3.heap.size ≤ fb ∧ fb < w5.heap.size from ⟨hdw, hsb, H3.out.2.2.2.2.2, hfb, hK5.bf.lt⟩)
  have hOP := open_any enc 65536 _ Al L cl (bl.drop K) w5 (by omega) hal5 (fun x hx => HB.out.2.1 x (List.mem_of_mem_drop hx)) (by omega) hcl
  have HOP := Lib.hid hOP
  have HAL := Lib.hid hal5
  have e1 : IntKind.i64.wrap ((K : Int) + (L : Int)) = (bl.length : Int) := by rw [IntWalk.i64_in _ (by omega)]; omega
  have e2 : ((bl.length : Int) != (bl.length : Int)) = false := by simp
  have e3 : (enc != enc) = false := by simp
  clear hbf4 hmb4 hal4 hd4 hfr4 hb45 hK5 hal5 hb5 hOP
  have HW5 := Lib.hid hw5
  have HQ := Lib.hid hq10
  clear hw5 hq10
  go_upto_region 7 with fail
  rw [HW5.out, HQ.out]
  go_wp2_with fail
  refine (HNUM.out _ _).mono ?_
  rintro e w5' ⟨rfl, rfl⟩
  go_wp2_with fail
  refine (HOP.out).mono ?_
  rintro e w6 ⟨g, rfl, hT6, hg6, hb6⟩
  have hsz0 : (((dec enc (bl.drop K)).map Prod.snd).sum) ≤ 65536 := by
    rw [sum_dec enc _ _ (Nat.le_refl _), hL]
    omega
  obtain ⟨t0, a0, hM6, hd6, ha6⟩ := hT6.textM hsz0
  have hTX : TxI w5.heap.size g enc 0 w6 := ⟨0, .slice none 0 0, t0, a0, [], ⟨hM6.blk, World.ownsRow_nil _ _ _ _, hM6.enc4, hb6.size, hM6.tree⟩, by rw [hd6]; exact hsz0, by omega, hg6⟩
  have HTX := Lib.hid (And.intro hTX hb6)
  clear hT6 hg6 hb6 hM6 hd6 ha6 hsz0
  go_wp2_with fail
  refine (HNUM.out _ _).mono ?_
  rintro e w6' ⟨rfl, rfl⟩
  go_wp2_with fail
  go_loopg [13] mp (fun k q wr => ∃ i : Nat, q = .int .i64 (i : Int) ∧ i ≤ mp ∧ mp - i ≤ k ∧ Hid (TxI w5.heap.size g enc i wr) ∧ Hid (Below w5.heap.size w5 wr))
  case atStart => exact ⟨0, rfl, Nat.zero_le _, by omega, Lib.hid HTX.out.1, Lib.hid HTX.out.2⟩
  case round =>
    obtain ⟨i, rfl, hi, hk, hTX, hB5⟩ := hrel
    by_cases hlt : i < mp
    · have z1 : ((i : Int) < (mp : Int)) = True := by simp; omega
      obtain ⟨b, o, ed, hAp, hei, -, c0, c1, c2⟩ := HB.out.2.2.2.1.at_ hlt
      subst hAp
      obtain ⟨hf1, ht1, hp1⟩ := HB.out.2.2.2.2 ed (List.mem_of_getElem? hei)
      have hput := HB.out.2.2.2.1.put ed (List.mem_of_getElem? hei)
      have hbr : Below w.heap.size w wr := HBW5.out.trans (hB5.out.mono HBW5.out.size)
      have HE := Lib.hid (fun wx (hb : Below wr.heap.size wr wx) => (⟨cell_keep (hbr.trans (hb.mono hbr.size)) c0, cell_keep (hbr.trans (hb.mono hbr.size)) c1, cell_keep (hbr.trans (hb.mono hbr.size)) c2⟩ : wx.cell? ⟨b, o + i * 3, none⟩ = some (.int .i64 ed.f) ∧ wx.cell? ⟨b, o + i * 3 + 1, none⟩ = some (.int .i64 ed.t) ∧ wx.cell? ⟨b, o + i * 3 + 2, none⟩ = some (.slice ed.A ed.n ed.c)))
      have HPU := Lib.hid (And.intro hput (And.intro hp1 hbr))
      obtain ⟨T, hT, hLen⟩ := hTX.out.len
      have HLE := Lib.hid hLen
      have hkf := amongF_bd ed.f ((T : Int) + 1) (by omega)
      have HAM1 := Lib.hid (fun wx => among_val ed.f ((T : Int) + 1) wx hf1 (by omega))
      obtain ⟨kf, hkf'⟩ : ∃ kf, amongF ed.f ((T : Int) + 1) = kf := ⟨_, rfl⟩
      rw [hkf'] at hkf HAM1
      have hkt := amongF_bd ed.t ((T : Int) - kf + 1) (by omega)
      have HAM2 := Lib.hid (fun wx => among_val ed.t ((T : Int) - kf + 1) wx ht1 (by omega))
      obtain ⟨kt, hkt'⟩ : ∃ kt, amongF ed.t ((T : Int) - kf + 1) = kt := ⟨_, rfl⟩
      rw [hkt'] at hkt HAM2
      have wr1 : IntKind.i64.wrap ((T : Int) + 1) = (T : Int) + 1 := IntWalk.i64_in _ (by omega)
      have wr2 : IntKind.i64.wrap ((T : Int) - kf) = (T : Int) - kf := IntWalk.i64_in _ (by omega)
      have wr3 : IntKind.i64.wrap ((T : Int) - kf + 1) = (T : Int) - kf + 1 := IntWalk.i64_in _ (by omega)
      have wr4 : IntKind.i64.wrap (kf + kt) = kf + kt := IntWalk.i64_in _ (by omega)
      have wr5 : IntKind.i64.wrap ((i : Int) + 1) = (i : Int) + 1 := IntWalk.i64_in _ (by omega)
      have i0 : (0 : Int) ≤ (i : Int) := by omega
      have i1 : (i : Int) < (mp : Int) := by omega
      obtain ⟨y0, y1, y2⟩ := HE.out wr (Below.refl _ _)
      clear c0 c1 c2 hput hbr hLen hkf' hkt' hf1 ht1 hp1 hei
      go_upto_region 15 with fail
      refine wp_region_steady (fun w' => Below wr.heap.size wr w') (by kernel_rfl) (by kernel_rfl) (Below.drew (Below.refl _ _)) ?_
      repeat ((first
        | (refine wpSt_read (v := ?_) (by rfl) (fun w6 hSw => ?_) ?_; rotate_left; (· (obtain ⟨y0, y1, y2⟩ := HE.out _ hSw; go_simp; try with_reducible rfl)))
        | refine wpSt_not (by rfl) ?_
        | (refine wpSt_call (f := ?_) (args := ?_) (v := .int .i64 (T : Int)) (by rfl) (fun w6 hSw => ?_) (fun w6 hSw => ?_) ?_; rotate_left 2; (· (obtain ⟨y0, y1, y2⟩ := HE.out _ hSw; go_simp; first | done | (constructor <;> with_reducible rfl) | with_reducible rfl)); (· ((with_reducible refine (HLE.out _ hSw).mono ?_); rintro e w5 ⟨rfl, hb5⟩; exact ⟨rfl, bseq hSw hb5⟩)))
        | (refine wpSt_call (f := ?_) (args := ?_) (v := .int .i64 kf) (by rfl) (fun w6 hSw => ?_) (fun w6 hSw => ?_) ?_; rotate_left 2; (· (obtain ⟨y0, y1, y2⟩ := HE.out _ hSw; go_simp; first | done | (constructor <;> with_reducible rfl) | with_reducible rfl)); (· ((with_reducible refine (HAM1.out _).mono ?_); rintro e w5 ⟨rfl, hb5⟩; exact ⟨rfl, bseq hSw hb5⟩)))); (try simp only [Act.put, List.setIfInBounds_toArray, List.set_cons_zero, List.set_cons_succ]))
      refine wpSt_nil ?_
      intro w7 hb7
      go_upto_region 16 with fail
      refine wp_region_steady (fun w' => Below wr.heap.size wr w') (by kernel_rfl) (by kernel_rfl) (Below.drew hb7) ?_
      repeat ((first
        | (refine wpSt_read (v := ?_) (by rfl) (fun w6 hSw => ?_) ?_; rotate_left; (· (obtain ⟨y0, y1, y2⟩ := HE.out _ hSw; go_simp; try with_reducible rfl)))
        | refine wpSt_not (by rfl) ?_
        | (refine wpSt_call (f := ?_) (args := ?_) (v := .int .i64 (T : Int)) (by rfl) (fun w6 hSw => ?_) (fun w6 hSw => ?_) ?_; rotate_left 2; (· (obtain ⟨y0, y1, y2⟩ := HE.out _ hSw; go_simp; first | done | (constructor <;> with_reducible rfl) | with_reducible rfl)); (· ((with_reducible refine (HLE.out _ hSw).mono ?_); rintro e w5 ⟨rfl, hb5⟩; exact ⟨rfl, bseq hSw hb5⟩)))
        | (refine wpSt_call (f := ?_) (args := ?_) (v := .int .i64 kt) (by rfl) (fun w6 hSw => ?_) (fun w6 hSw => ?_) ?_; rotate_left 2; (· (obtain ⟨y0, y1, y2⟩ := HE.out _ hSw; go_simp; first | done | (constructor <;> with_reducible rfl) | with_reducible rfl)); (· ((with_reducible refine (HAM2.out _).mono ?_); rintro e w5 ⟨rfl, hb5⟩; exact ⟨rfl, bseq hSw hb5⟩)))); (try simp only [Act.put, List.setIfInBounds_toArray, List.set_cons_zero, List.set_cons_succ]))
      refine wpSt_nil ?_
      intro w8 hb8
      obtain ⟨y0, y1, y2⟩ := HE.out w8 hb8
      have hel : ed.put.length = ed.n := HPU.out.1.len
      have hpn := HPU.out.2.1
      go_wp2_with (at_builtin; refine wpList_append_all _ rfl (.const (.slice none 0 0)) (.tmp 130) 43 rfl w8.heap.size 3 ii (.int .i64 0) 1 8 Tryz.underlying43 HII.out hz0 hz1 hz2 rfl (by decide) (.slice none 0 0) 0 [] rfl (World.ownsRow_nil _ _ _ _) Any ed.A ed.n ed.c (ed.put.map (Value.int .i64)) rfl (Reads.below HPU.out.1 (HPU.out.2.2.trans (hb8.mono HPU.out.2.2.size))) (by intro u hu; obtain ⟨x, _, rfl⟩ := List.mem_map.1 hu; rfl) (by unfold maxLen; omega) (by omega) (Nat.le_refl _) ?_)
      intro v9 w9 ho9 hg9 _
      have hb9 : Below w8.heap.size w8 w9 := (Fr.of_grown (S := No) hg9 (fun k hk _ => by simp [Value.ownBlock] at hk)).below (fun _ _ h => h)
      have ho9' : w9.ownsRow w8.heap.size 3 1 v9 ed.put.length (ed.put.map (Value.int .i64)) := by rw [hel]; simpa using ho9
      obtain ⟨A9, c9, rfl, hi9⟩ := ints_newi ho9'
      rw [hel] at hi9 ⊢
      have hb89 : Below wr.heap.size wr w9 := hb8.trans (hb9.mono hb8.size)
      obtain ⟨q9, hq9⟩ : ∃ q, w9.heap.size = q := ⟨_, rfl⟩
      obtain ⟨wc, hwc⟩ : ∃ wc, w9.alloc (.cells #[.int .i64 kf, .int .i64 (kf + kt), .slice A9 ed.n c9] 45) = wc := ⟨_, rfl⟩
      have hbc : Below w9.heap.size w9 wc := by rw [← hwc]; exact balloc (Below.refl _ _)
      have hqc : Blk wc q9 45 #[.int .i64 kf, .int .i64 (kf + kt), .slice A9 ed.n c9] := by rw [← hwc]; exact Blk.newAt hq9
      have hbrc : Below wr.heap.size wr wc := hb89.trans (hbc.mono hb89.size)
      have hic : Ints wc (IntB wc) A9 ed.n ed.put := Reads.more (Reads.below hi9 hbc) (fun b hb _ => by
        obtain ⟨cs, hb⟩ := hb
        exact ⟨cs, hb.below hbc⟩) (by decide)
      have hsz5r : w5.heap.size ≤ wr.heap.size := hB5.out.size
      have HCH := Lib.hid ((hTX.out.below hbrc).chg (by omega) hqc hic hpn (by have := hbrc.size; omega))
      have HBC := Lib.hid (hB5.out.trans (hbrc.mono hsz5r))
      have HWC := Lib.hid (And.intro hwc hq9)
      clear ho9 ho9' hg9 hi9 hb9 hb89 hbc hqc hbrc hic hwc hq9 hb7 hb8
      go_wp2_with (rw [HWC.out.1, HWC.out.2])
      refine (HCH.out).mono ?_
      rintro e wd ⟨⟨r, rfl⟩, hTd, hBd⟩
      have HTD := Lib.hid hTd
      have HBD := Lib.hid (HBC.out.trans hBd)
      clear hTd hBd
      go_wp2_with fail
      go_roundg (mp - (i + 1))
      case measure => omega
      case rel => exact ⟨i + 1, by go_num, by omega, by omega, HTD, HBD⟩
    · have z1 : ((i : Int) < (mp : Int)) = False := by simp; omega
      have hKr := HK5.out.below (Nat.le_refl _) hB5.out
      obtain ⟨t, a, add, hTU, hbl64, htot⟩ := hTX.out.textU
      obtain ⟨mk, hmk⟩ : ∃ mk, bl.take K = mk := ⟨_, rfl⟩
      have hmkl : mk.length = K := by rw [← hmk]; exact hKt
      obtain ⟨hKd, hKm, hKf, hKb, hKmb, hKld⟩ := hKr
      rw [← hmkl] at hKb
      rw [hmk, ← hmkl] at hKmb
      have hSV := save_any fb d sb f bl.length c3 (.map (some lb3)) 1 2 bl.length A3 Am cm (U8 wr) mk g enc 65536 t a add wr hKb hKmb (by omega) (fun _ h _ => h) hKd (by omega) (by omega) hKm hKf hTU hbl64 (by omega)
      have HSV := Lib.hid hSV
      have hbr : Below w.heap.size w wr := HBW5.out.trans (hB5.out.mono HBW5.out.size)
      have HKR := Lib.hid (And.intro hKd (And.intro hKm (And.intro hKb (And.intro hKld (And.intro hTU hbr)))))
      have HMK := Lib.hid hmk
      clear hKd hKm hKf hKb hKmb hKld hTU hbr hSV hTX hmk
      go_wp2_with fail
      refine (HSV.out).mono ?_
      rintro e ws ⟨rfl, f2, st, ct, A4, c4, lb4, p1, pd, p2, p3, pm, pf, po, pfr⟩
      obtain ⟨hKd, hKm, hKb, hKld, hTU, hbr⟩ := HKR.out
      obtain ⟨lo1, lo2, lo3, lo4, lo5⟩ := HLO.out
      have hw3 : w.heap.size ≤ w3.heap.size := H3.out.2.2.2.1.size
      have hTS : TextU ws g enc 65536 t a add := hTU.fr pfr (fun b hs _ => by
        rcases hs with rfl | rfl | rfl
        · exact NoTx.blk hKd (by decide)
        · exact hKm.noTx
        · exact NoTx.blk hKb (by decide))
      have hlds := hKld.fr pfr (by
        rintro (e | e | e)
        · exact Blk.ne_ hKld hKd (by decide) e
        · exact hKm.ne_blk hKld e.symm
        · exact Blk.ne_ hKld hKb (by decide) e)
      have hbs : Below w.heap.size w ws := ((Fr.of_below hbr : Fr (fun b => b = d ∨ b = sb ∨ b = fb) w wr).trans pfr).below (fun k hk => by omega)
      obtain ⟨Y, hY⟩ : ∃ Y, mk ++ bytesL t.list = Y := ⟨_, rfl⟩
      rw [hY] at p3 pf po
      have hYl : Y.length ≤ 65539 := by rw [← hY, List.length_append]; omega
      obtain ⟨A4', c4', hA4, hc4, hx4⟩ := bts_newu po
      injection hA4 with hA4 _ hc4'
      subst hA4; subst hc4'
      have hRD := read_any sA sA_ok d sb f2 (.map (some lb4)) (.slice none 0 0) (1 + 1) st (1 + 1) Y.length ct A4 Y.length c4 _ Y _ ws pd (by omega) pm (by rw [getS_cons, if_pos rfl]) pf hx4 (by omega) (fun b hb => by
        obtain ⟨_, cs, hb⟩ := hb
        exact Blk.ne_ hb pd (by decide))
      have HRD := Lib.hid hRD
      have HS := Lib.hid (And.intro pd (And.intro pm (And.intro pf (And.intro hx4 (And.intro hTS (And.intro hlds hbs))))))
      have HY := Lib.hid hY
      clear pd pm pf hx4 hTS hlds hbs hRD po pfr hKd hKm hKb hKld hTU hbr HKR hY
      go_wp2_with fail
      refine (HRD.out).mono ?_
      rintro e wt ⟨⟨v5, rfl, ho5⟩, hdt, hft⟩
      obtain ⟨A5, c5, rfl, hc5, hx5⟩ := bts_newu ho5
      obtain ⟨pd, pm, pf, hx4, hTS, hlds, hbs⟩ := HS.out
      have hTt : TextU wt g enc 65536 t a add := hTS.fr hft (fun b hs _ => by rw [hs]; exact NoTx.blk pd (by decide))
      have hldt := hlds.fr hft (Blk.ne_ hlds pd (by decide))
      have hpmt := pm.fr hft (pm.ne_blk pd)
      have hpft := Blk.fr pf hft (Blk.ne_ pf pd (by decide))
      have hx4t := Reads.fr hx4 hft (fun b hb _ e => by
        obtain ⟨_, cs, hb⟩ := hb
        exact Blk.ne_ hb pd (by decide) e)
      have hbt : Below w.heap.size w wt := ((Fr.of_below hbs : Fr (· = d) w ws).trans hft).below (fun k hk => by omega)
      have HT2 := Lib.hid (And.intro hdt (And.intro hpmt (And.intro hpft (And.intro hx4t (And.intro hTt (And.intro hldt (And.intro hbt hx5)))))))
      have hl0 := hldt.cell 0
      have hl1 := hldt.cell 1
      have hl2 := hldt.cell 2
      simp at hl0 hl1 hl2
      have qcb : (K ≤ cb) = True := by simp; omega
      have HTW := Lib.hid (twin_own Any Ab K cb (bl.take K) wt (bts_take (Reads.below HB.out.1 hbt) hKle.1) (by omega))
      rw [HMK.out] at HTW
      clear pd pm pf hx4 hTS hlds hbs hTt hldt hpmt hpft hx4t hbt hdt hft hx5 ho5
      go_wp2_with fail
      refine (HTW.out).mono ?_
      rintro e wu ⟨v6, rfl, ho6, hb6⟩
      have HBY := Lib.hid (tbytes_any (U8 wt) g enc 65536 t a add wu (TextIn.below HT2.out.2.2.2.2.1 hb6) (by omega))
      have HO6 := Lib.hid (And.intro ho6 hb6)
      clear ho6 hb6
      go_wp2_with fail
      refine (HBY.out).mono ?_
      rintro e wv ⟨v7, rfl, ho7, hb7⟩
      obtain ⟨A7, c7, rfl, hc7, hx7⟩ := bts_newu ho7
      have ho6v := own_bel HO6.out.1 hb7
      have hszuv : wu.heap.size ≤ wv.heap.size := hb7.size
      have hsztu : wt.heap.size ≤ wu.heap.size := HO6.out.2.size
      have h6 := HO6.out.2.trans (hb7.mono hsztu)
      obtain ⟨jj, hjj, ju0, ju1, ju2⟩ := info_parts u8_info
      clear ho7 hb7
      go_wp2_with (at_builtin; refine wpList_append_all _ rfl (.tmp 147) (.tmp 149) 22 rfl wt.heap.size 5 jj (.int .u8 0) 1 1 Tryz.underlying22 hjj ju0 ju1 ju2 rfl (by decide) v6 mk.length _ rfl ho6v _ A7 (bytesL t.list).length c7 ((bytesL t.list).map (Value.int .u8)) rfl hx7 (by intro u hu; obtain ⟨x, _, rfl⟩ := List.mem_map.1 hu; rfl) (by unfold maxLen; omega) (by omega) (by omega) ?_)
      intro v8 wx ho8 hg8 _
      have hbx : Below wt.heap.size wt wx := below_grown2 h6 hg8 (fun k hk => (ho6v.lt k hk).1)
      have hYm : K + (bytesL t.list).length = Y.length := by rw [← HY.out, List.length_append, hmkl]
      rw [hYm, ← List.map_append, HY.out] at ho8
      obtain ⟨A8, c8, rfl, hc8, hx8⟩ := bts_newu ho8
      have HBX := Lib.hid hbx
      have hcv1 := bytes_str _ A5 Y.length c5 Y wx (Reads.below HT2.out.2.2.2.2.2.2.2 hbx)
      have hcv2 := bytes_str _ A8 Y.length c8 Y wx hx8
      obtain ⟨SS, hSS⟩ : ∃ SS, strOfNums Y = SS := ⟨_, rfl⟩
      rw [hSS] at hcv1 hcv2
      clear ho8 hg8 hbx h6 ho6v hx7 hx8 hSS
      go_wp2_with fail
      refine (HNUM.out _ _).mono ?_
      rintro e wx' ⟨rfl, rfl⟩
      go_wp2_with fail
      obtain ⟨xs, hxs⟩ : ∃ xs, (decL enc t.list).map Prod.fst = xs := ⟨_, rfl⟩
      have hxl : (decL enc t.list).length = xs.length := by rw [← hxs, List.length_map]
      have HTA := Lib.hid (fun wz (hb : Below wt.heap.size wt wz) => (⟨65536, t, a, add, TextIn.below HT2.out.2.2.2.2.1 hb, rfl⟩ : TextAt wz (U8 wt) g enc (decL enc t.list)))
      have hxm : xs.length ≤ 1073741824 := by rw [← hxl]; exact TextAt.len (HTA.out wt (Below.refl _ _))
      have hLN := len_any _ g enc _ wx (HTA.out wx HBX.out)
      rw [hxl] at hLN
      refine (hLN).mono ?_
      rintro e wy ⟨rfl, hby⟩
      have hszx : wt.heap.size ≤ wx.heap.size := HBX.out.size
      have hbty : Below wt.heap.size wt wy := HBX.out.trans (hby.mono hszx)
      have hAT := tatoms_any _ g enc _ 0 (xs.length : Int) wy (HTA.out wy hbty) (by omega) (by omega)
      rw [hxs, show seg 0 (xs.length : Int) xs = xs by unfold seg; rw [show Int.toNat 0 = 0 from rfl, List.drop_zero]; exact List.take_of_length_le (by omega)] at hAT
      have HAT := Lib.hid hAT
      have HXS := Lib.hid (And.intro hxs hxl)
      clear hLN hby hAT hxs hxl hcv1 hcv2
      go_wp2_with fail
      refine (HAT.out).mono ?_
      rintro e wz ⟨v10, rfl, ho10, hb10⟩
      obtain ⟨A10, c10, rfl, hi10⟩ := ints_newi ho10
      have hbtz : Below wt.heap.size wt wz := hbty.trans (hb10.mono hbty.size)
      have HBZ := Lib.hid hbtz
      have hwtz : w.heap.size ≤ wt.heap.size := HT2.out.2.2.2.2.2.2.1.size
      have HBW := Lib.hid (HT2.out.2.2.2.2.2.2.1.trans (hbtz.mono hwtz))
      have HI := Lib.hid hi10
      clear hbty ho10 hb10 hi10 hbtz
      go_wp2_with fail
      go_loopg [19] xs.length (fun k q wr2 => ∃ j : Nat, q = .int .i64 (j : Int) ∧ j ≤ xs.length ∧ xs.length - j ≤ k ∧ Hid (∀ m, m < j → Plain (xs.getD m 0)) ∧ wr2 = wz)
      case atStart => exact ⟨0, rfl, Nat.zero_le _, by omega, Lib.hid (fun m hm => absurd hm (by omega)), rfl⟩
      case round =>
        obtain ⟨j, rfl, hj, hkj, hPl, rfl⟩ := hrel
        by_cases hlj : j < xs.length
        · have z1 : ((j : Int) < (xs.length : Int)) = True := by simp; omega
          obtain ⟨ad, hA, _, cc⟩ := Ints.at_ HI.out hlj
          subst hA
          obtain ⟨z, hz⟩ : ∃ z, xs.getD j 0 = z := ⟨_, rfl⟩
          rw [hz] at cc
          have HZ := Lib.hid hz
          have j0 : (0 : Int) ≤ (j : Int) := by omega
          have j1 : (j : Int) < (xs.length : Int) := by omega
          have jw : IntKind.i64.wrap ((j : Int) + 1) = (j : Int) + 1 := IntWalk.i64_in _ (by omega)
          clear hz
          by_cases n1 : z < 0
          · have m1 : (z < 0) = True := by simp; omega
            go_wp2_with fail
            go_ret
            exact ⟨rfl, HBW.out⟩
          · have m1 : (z < 0) = False := by simp; omega
            by_cases n2 : 55296 ≤ z
            · have m2 : ((55296 : Int) ≤ z) = True := by simp; omega
              by_cases n3 : z ≤ 57343
              · have m3 : (z ≤ (57343 : Int)) = True := by simp; omega
                go_wp2_with fail
                go_ret
                exact ⟨rfl, HBW.out⟩
              · have m3 : (z ≤ (57343 : Int)) = False := by simp; omega
                go_wp2_with fail
                go_roundg (xs.length - (j + 1))
                case measure => omega
                case rel =>
                  refine ⟨j + 1, by go_num, by omega, by omega, Lib.hid (fun m hm => ?_), rfl⟩
                  rcases Nat.lt_or_ge m j with h | h
                  · exact hPl.out m h
                  · rw [show m = j by omega, HZ.out]
                    exact ⟨by omega, by omega⟩
            · have m2 : ((55296 : Int) ≤ z) = False := by simp; omega
              go_wp2_with fail
              go_roundg (xs.length - (j + 1))
              case measure => omega
              case rel =>
                refine ⟨j + 1, by go_num, by omega, by omega, Lib.hid (fun m hm => ?_), rfl⟩
                rcases Nat.lt_or_ge m j with h | h
                · exact hPl.out m h
                · rw [show m = j by omega, HZ.out]
                  exact ⟨by omega, by omega⟩
        · have z1 : ((j : Int) < (xs.length : Int)) = False := by simp; omega
          have hPa : ∀ a ∈ xs, Plain a := fun a ha => by
            obtain ⟨m, hm, e⟩ := List.getElem_of_mem ha
            have := hPl.out m (by omega)
            rw [List.getD_eq_getElem?_getD, List.getElem?_eq_getElem hm] at this
            simp at this
            rw [← e]
            exact this
          have hldz := HT2.out.2.2.2.2.2.1.below HBZ.out
          have hl1z := hldz.cell 1
          simp at hl1z
          have HPA := Lib.hid hPa
          clear hPa hldz hPl
          go_upto_region 29 with fail
          go_cut [211] from 194 to 211 (fun s wx => s = .bool (decide (K = 0 ∧ enc < 4 ∧ 0 < xs.length ∧ xs.getD 0 0 = 65279)) ∧ wx = wr)
          case first =>
            by_cases k0 : K = 0
            · have m0 : ((K : Int) == 0) = true := by simp; omega
              have K0 := Lib.hid k0
              clear k0
              by_cases k1 : enc < 4
              · have m1 : (enc < 4) = True := by simp; omega
                by_cases k2 : 0 < xs.length
                · have m2 : ((0 : Int) < (xs.length : Int)) = True := by simp; omega
                  obtain ⟨ad, hA, _, cc⟩ := Ints.at_ HI.out k2
                  subst hA
                  have ca : ad.add 0 = ad := by simp [Addr.add]
                  rw [ca] at cc
                  obtain ⟨z, hz⟩ : ∃ z, xs.getD 0 0 = z := ⟨_, rfl⟩
                  rw [hz] at cc
                  cases hzz : (z == 65279)
                  · go_wp2_with fail
                    go_meet
                    exact ⟨by rw [beq_eq_false_iff_ne] at hzz; rw [hz]; simp [hzz], rfl⟩
                  · go_wp2_with fail
                    go_meet
                    rw [beq_iff_eq] at hzz
                    exact ⟨by have k0 := K0.out; rw [hz]; simp [k0, k1, k2, hzz], rfl⟩
                · have m2 : ((0 : Int) < (xs.length : Int)) = False := eq_false (by omega)
                  go_wp2_with fail
                  go_meet
                  exact ⟨by rw [decide_eq_false (fun h => k2 h.2.2.1)], rfl⟩
              · have m1 : (enc < 4) = False := by simp; omega
                go_wp2_with fail
                go_meet
                exact ⟨by rw [decide_eq_false (fun h => absurd h.2.1 (by omega))], rfl⟩
            · have m0 : ((K : Int) == 0) = false := by simp; omega
              go_wp2_with fail
              go_meet
              exact ⟨by rw [decide_eq_false (fun h => k0 h.1)], rfl⟩
          case rest =>
            obtain ⟨rfl, rfl⟩ := hcut
            by_cases hF : K = 0 ∧ enc < 4 ∧ 0 < xs.length ∧ xs.getD 0 0 = 65279
            · rw [decide_eq_true hF]
              go_wp2_with fail
              go_ret
              exact ⟨rfl, HBW.out⟩
            rw [decide_eq_false hF]
            have hbZ := HBZ.out
            obtain ⟨hdt, hpmt, hpft, hx4t, hTt, hldt, hbt, -⟩ := HT2.out
            have hPl' := HPA.out
            have hok := hTt.ok
            have hmkK := HMK.out
            obtain ⟨law1, law2⟩ := save_law enc ⟨he1, he4⟩ bl t.list hok xs HXS.out.1 hPl' (by rw [hK]; exact hF)
            rw [hK, hmkK, HY.out] at law1
            have hYB : Byt Y := by
              rw [← HY.out]
              intro x hx
              rcases List.mem_append.1 hx with hx | hx
              · rw [← hmkK] at hx
                exact HB.out.2.1 x (List.mem_of_mem_take hx)
              · obtain ⟨p, hp, hxp⟩ := bytesL_mem hx
                exact (hok p hp).1 x hxp
            have hYd : Y.drop K = bytesL t.list := by rw [← HY.out, ← hmkl]; exact List.drop_left
            have hSO2 := sopen_any enc ⟨he1, he4⟩ d sb f2 Y.length c4 (.map (some lb4)) (.slice none 0 0) (1 + 1) (st + 1) (1 + 1) Y.length ct A4 _ Y _ wc (Blk.below hdt hbZ) (by omega) (hpmt.below hbZ) (by rw [getS_cons, if_pos rfl]) (Blk.below hpft hbZ) (Reads.below hx4t hbZ) hYB (by omega) (fun b hb => by
              obtain ⟨_, cs, hb⟩ := hb
              exact Blk.ne_ hb HS.out.1 (by decide)) (by
              rw [law1]
              have h9 : Y.length = mk.length + (bytesL t.list).length := by rw [← HY.out, List.length_append]
              omega)
            rw [law1, hYd] at hSO2
            have HSO2 := Lib.hid hSO2
            have HLAW := Lib.hid law2
            have hBB : Byt (bytesL t.list) := fun x hx => by
              obtain ⟨p, hp, hxp⟩ := bytesL_mem hx
              exact (hok p hp).1 x hxp
            have HBB := Lib.hid hBB
            clear hBB hbZ hdt hpmt hpft hx4t hTt hldt hbt hPl' hok law1 law2 hYB hYd hSO2
            go_wp2_with fail
            refine (HSO2.out).mono ?_
            rintro e y1 ⟨fb2, Am2, cm2, Al2, cl2, rfl, -, -, -, hal, hcl2, -, hfry⟩
            obtain ⟨M, hM⟩ : ∃ M, (bytesL t.list).length = M := ⟨_, rfl⟩
            rw [hM] at hal hcl2 hbl64
            rw [hM]
            obtain ⟨y2, hy2⟩ : ∃ y2, y1.alloc (.cells #[.int .i64 enc, .int .i64 (K : Int), .slice Al2 M cl2, .bool false] 34) = y2 := ⟨_, rfl⟩
            obtain ⟨q21, hq21⟩ : ∃ q, y1.heap.size = q := ⟨_, rfl⟩
            have hb12 : Below y1.heap.size y1 y2 := by rw [← hy2]; exact balloc (Below.refl _ _)
            have k21 : Blk y2 q21 34 #[.int .i64 enc, .int .i64 (K : Int), .slice Al2 M cl2, .bool false] := by rw [← hy2]; exact Blk.newAt hq21
            obtain ⟨hdt, -, -, -, -, hldt, -, -⟩ := HT2.out
            have k10 := ((hldt.below HBZ.out).fr hfry (Blk.ne_ hldt hdt (by decide))).below hb12
            have hbY1 : Below w.heap.size w y1 := ((Fr.of_below HBW.out : Fr (· = d) w wc).trans hfry).below (fun k hk => by omega)
            have hbY2 := hbY1.trans (hb12.mono hbY1.size)
            have HOP2 := Lib.hid (open_any enc 65536 _ Al2 M cl2 (bytesL t.list) y2 (by omega) (Reads.below hal hb12) HBB.out (by omega) hcl2)
            have x2 := k21.cell 2
            simp at x2
            have hi1 := Reads.below (Reads.fr HI.out hfry (fun b hb _ e => by
              obtain ⟨cs, hb⟩ := hb
              exact Blk.ne_ hb (Blk.below hdt HBZ.out) (by decide) e)) hb12
            have HI1 := Lib.hid hi1
            have HY2 := Lib.hid (And.intro hy2 (And.intro hq21 (And.intro k21 (And.intro k10 hbY2))))
            clear hi1 hy2 hq21 hb12 k21 hldt hdt k10 hbY1 hbY2 hal hfry hl1z
            go_upto_region 32 with fail
            rw [HY2.out.1, HY2.out.2.1]
            go_wp2_with fail
            refine (HOP2.out).mono ?_
            rintro e y3 ⟨g3, rfl, hT3, hg3, hb3⟩
            have w1c := (HY2.out.2.2.1.below hb3).cell 1
            have w2c := (HY2.out.2.2.2.1.below hb3).cell 1
            simp at w1c w2c
            have hdl : (dec enc (bytesL t.list)).length = xs.length := by rw [← HLAW.out, List.length_map]
            have hLN3 := len_any _ g3 enc _ y3 hT3.at_
            rw [hdl] at hLN3
            have HLN3 := Lib.hid hLN3
            have HB3 := Lib.hid (And.intro hb3 hT3)
            clear hb3 hT3 hLN3 hg3
            go_wp2_with fail
            refine (HNUM.out _ _).mono ?_
            rintro e y3' ⟨rfl, rfl⟩
            go_wp2_with fail
            refine (HNUM.out _ _).mono ?_
            rintro e y3' ⟨rfl, rfl⟩
            go_wp2_with fail
            refine (HLN3.out).mono ?_
            rintro e y4 ⟨rfl, hb4⟩
            have hAT3 := tatoms_any _ g3 enc _ 0 (xs.length : Int) y4 (HB3.out.2.at_.below hb4) (by omega) (by omega)
            rw [HLAW.out, show seg 0 (xs.length : Int) xs = xs by unfold seg; rw [show Int.toNat 0 = 0 from rfl, List.drop_zero]; exact List.take_of_length_le (by omega)] at hAT3
            have HAT3 := Lib.hid hAT3
            have HB4 := Lib.hid hb4
            clear hb4 hAT3
            go_wp2_with fail
            refine (HAT3.out).mono ?_
            rintro e y5 ⟨v11, rfl, ho11, hb5⟩
            obtain ⟨A11, c11, rfl, hi11⟩ := ints_newi ho11
            have hY2 := HY2.out.2.2.2.2
            have hY3 := hY2.trans (HB3.out.1.mono hY2.size)
            have hY4 := hY3.trans (HB4.out.mono hY3.size)
            have hY5 := hY4.trans (hb5.mono hY4.size)
            have hb25 := HB3.out.1.trans (HB4.out.mono HB3.out.1.size)
            have hb25' := hb25.trans (hb5.mono hb25.size)
            have hSM := lsame_any _ _ A11 A10 xs.length c11 xs.length c10 xs xs y5 hi11 (Reads.below HI1.out hb25') hxm hxm
            rw [show decide (xs = xs) = true by simp] at hSM
            have HSM := Lib.hid hSM
            have HY5 := Lib.hid hY5
            clear hY2 hY3 hY4 hY5 hb25 hb25' hSM hi11 ho11 hb5
            go_wp2_with fail
            refine (HSM.out).mono ?_
            rintro e y6 ⟨rfl, hb6⟩
            go_wp2_with fail
            go_ret
            exact ⟨rfl, HY5.out.trans (hb6.mono HY5.out.size)⟩
end Go.Proofs.YtflhiohjikgedaaGreatDoor
namespace Go.Proofs.YtflhiohjikgedaaGreatDoor.ladderSaved
open Go.ChangeShapes Go.WideShapes Go.ChangeAt Go.RowKit Go.Deep
set_option linter.unusedVariables false

theorem own : ownKnob Tryz.prog.godebug = none := by kernel_rfl
theorem laidOut : laidOutB Tryz.prog = true := by kernel_rfl
theorem cellsI : Tryz.prog.cellsOf 3 = 1 := by kernel_rfl
theorem cellsS : Tryz.prog.cellsOf 43 = 1 := by kernel_rfl
theorem cellsE : Tryz.prog.cellsOf 45 = 3 := by kernel_rfl
def FitI (x : Int) : Prop := -9223372036854775808 ≤ x ∧ x ≤ 9223372036854775807
theorem fit_of {n : Int} (h : (Lit.int .i64 n).wf = true) : FitI n := by
  have e1 : IntKind.i64.min = -9223372036854775808 := by decide
  have e2 : IntKind.i64.max = 9223372036854775807 := by decide
  unfold Lit.wf at h
  dsimp only at h
  rw [e1, e2, Bool.and_eq_true, decide_eq_true_eq, decide_eq_true_eq] at h
  exact h
theorem byte_of {n : Int} (h : (Lit.int .u8 n).wf = true) : 0 ≤ n ∧ n < 256 := by
  have e1 : IntKind.u8.min = 0 := by decide
  have e2 : IntKind.u8.max = 255 := by decide
  unfold Lit.wf at h
  dsimp only at h
  rw [e1, e2, Bool.and_eq_true, decide_eq_true_eq, decide_eq_true_eq] at h
  omega
/-! ### bulk -/
theorem one_le {H : Type} (d : DataW H) : 1 ≤ Rows.uptoBulk d := by
  cases d with
  | lit l => cases l <;> simp [Rows.uptoBulk]
  | nil => simp [Rows.uptoBulk]
  | ptr d => simp [Rows.uptoBulk]
  | slice elems spare => simp [Rows.uptoBulk]
  | agg parts => simp [Rows.uptoBulk]
  | iface t d => simp [Rows.uptoBulk]
  | map entries => simp [Rows.uptoBulk]
  | held h => simp [Rows.uptoBulk]
theorem part_le {H : Type} {d : DataW H} {l : List (DataW H)} (h : d ∈ l) : Rows.uptoBulk d ≤ Rows.uptoBulkAll l := by
  induction l with
  | nil => cases h
  | cons x r ih =>
    simp only [Rows.uptoBulkAll]
    cases List.mem_cons.1 h with
    | inl e => subst e; omega
    | inr e => have := ih e; omega
theorem length_le {H : Type} (l : List (DataW H)) : l.length ≤ Rows.uptoBulkAll l := by
  induction l with
  | nil => simp [Rows.uptoBulkAll]
  | cons x r ih => have := one_le x; simp only [Rows.uptoBulkAll, List.length_cons]; omega
/-! ### the arguments -/
section
variable {H : Type} {enc : TypeId × Value → H} {W : World}
/-- a slice of numbers that came in -/
theorem open_nums {k : IntKind} {t e : TypeId} {fuel : Nat} {cs : List Value} {x : DataW H × List MemPlace} (ht : Tryz.prog.underlying t = some (.slice e)) (he : Tryz.prog.underlying e = some (.int k)) (hc : Tryz.prog.cellsOf e = 1) (h : DataW.trod enc Tryz.prog W 0 (fun _ => true) true fuel t cs = some x) :
    ∃ (a : Option Addr) (len cap : Nat) (l : List Int), cs = [.slice a len cap] ∧ len ≤ cap ∧ Reads W Any 1 a len (l.map (Value.int k)) ∧ (∀ n ∈ l, (Lit.int k n).wf = true) ∧ l.length ≤ Rows.uptoBulk x.1 := by
  rcases open_ints ht he hc h with ⟨rfl, rfl⟩ | ⟨a, len, cap, zs, rfl, _, hl, hm, hz, rfl, hcell, hwz⟩
  · exact ⟨none, 0, 0, [], rfl, Nat.le_refl _, ⟨rfl, fun h => absurd h (by omega)⟩, (by simp), (by simp)⟩
  · have hz' : zs.length = cap := by simpa using hz
    refine ⟨some a, len, cap, zs.take len, rfl, hl, ⟨by simp; omega, fun _ => ⟨a, rfl, trivial, fun j u hu => ?_⟩⟩, fun n hn => hwz n (List.mem_of_mem_take hn), ?_⟩
    · rw [List.getElem?_map, List.getElem?_take] at hu
      split at hu
      · rename_i hj
        rw [List.getElem?_eq_getElem (by omega)] at hu
        have := hcell j (by omega)
        rw [List.getD_eq_getElem?_getD, List.getElem?_eq_getElem (by omega)] at this
        rw [this]
        exact hu
      · cases hu
    · simp only [Rows.uptoBulk]
      have := length_le (H := H) (lits k (zs.take len))
      have e : (lits (H := H) k (zs.take len)).length = (zs.take len).length := by simp [lits]
      omega
set_option maxRecDepth 100000 in
/-- the edits that came in -/
theorem open_edits {fuel : Nat} {cs : List Value} {x : DataW H × List MemPlace} (h : DataW.trod enc Tryz.prog W 0 (fun _ => true) true fuel 23 cs = some x) (hbk : Rows.uptoBulk x.1 ≤ 1048576) :
    ∃ (a : Option Addr) (len cap : Nat) (es : List Ed), cs = [.slice a len cap] ∧ EdsAt W Any a len es ∧ ∀ e ∈ es, FitI e.f ∧ FitI e.t ∧ e.put.length ≤ 1048576 := by
  rcases open_slice Tryz.underlying23 h with ⟨rfl, rfl⟩ | ⟨a, len, cap, m, n, D, Pl, rfl, _, hl, hm, hmm, rfl, hx⟩
  · exact ⟨none, 0, 0, [], rfl, ⟨⟨rfl, fun h => absurd h (by omega)⟩, fun e he => by cases he⟩, fun e he => by cases he⟩
  · have hmc : m = cap := by simpa using hmm
    subst hmc
    rw [cellsE] at hx
    haveI : Inhabited Ed := ⟨⟨0, 0, none, 0, 0, []⟩⟩
    obtain ⟨V, hV⟩ := choose_lt (α := Ed) (n := len) (p := fun i e => (∀ r, r < 3 → W.cell? (a.add (i * 3 + r)) = e.cells[r]?) ∧ Ints W Any e.A e.n e.put ∧ FitI e.f ∧ FitI e.t ∧ e.put.length ≤ 1048576) (fun i hi => by
      obtain ⟨cs', h1, h2⟩ := hx i (by omega)
      obtain ⟨_, hlen, hc⟩ := World.cells?_some h1
      obtain ⟨xs, k, _, hxx, hcl, hxl, hfi⟩ := DataW.trod_struct Tryz.underlying45 h2
      match cs', hlen with
      | [c0, c1, c2], _ =>
        have g0 := hfi 0 _ rfl
        have g1 := hfi 1 _ rfl
        have g2 := hfi 2 _ rfl
        simp [cellsI, cellsS] at g0 g1 g2
        have hxl' : xs.length = 3 := hxl
        rw [List.getElem?_eq_getElem (by omega)] at g0 g1 g2
        obtain ⟨n0, e0, _, w0⟩ := DataW.trod_int Tryz.underlying3 g0
        obtain ⟨n1, e1, _, w1⟩ := DataW.trod_int Tryz.underlying3 g1
        obtain ⟨pa, pl, pc, l, e2, _, hr, _, hb⟩ := open_nums Tryz.underlying43 Tryz.underlying3 cellsI g2
        injection e0 with e0
        injection e1 with e1
        injection e2 with e2
        subst e0; subst e1; subst e2
        have hD : Rows.uptoBulk (D i) ≤ 1048576 := by
          have h3 : D i ∈ (List.range len).map D := List.mem_map.2 ⟨i, List.mem_range.2 hi, rfl⟩
          have h4 := part_le h3
          simp only [Rows.uptoBulk] at hbk
          omega
        have hDi : D i = .agg (xs.map (·.1)) := by
          have := congrArg Prod.fst hxx
          exact this
        have h5 : Rows.uptoBulk xs[2].1 ≤ Rows.uptoBulk (D i) := by
          rw [hDi]
          have h6 : xs[2].1 ∈ xs.map (·.1) := List.mem_map.2 ⟨xs[2], List.getElem_mem _, rfl⟩
          have := part_le h6
          simp only [Rows.uptoBulk]
          omega
        refine ⟨⟨n0, n1, pa, pl, pc, l⟩, fun r hr => ?_, hr, fit_of w0, fit_of w1, by show l.length ≤ _; omega⟩
        have := hc r hr
        rw [add_add] at this
        rw [this]
        simp [Ed.cells])
    refine ⟨some a, len, m, (List.range len).map V, rfl, ⟨⟨by rw [flat3]; simp, fun _ => ⟨a, rfl, trivial, fun j u hu => ?_⟩⟩, fun e he => ?_⟩, fun e he => ?_⟩
    · have hj : j < len * 3 := by
        have := (List.getElem?_eq_some_iff.1 hu).1
        rw [flat3] at this
        simpa using this
      have hk : j / 3 < len := by omega
      have e1 := flat3_at ((List.range len).map V) (j / 3) (by simpa using hk) (j % 3) (by omega)
      rw [show j / 3 * 3 + j % 3 = j by omega, hu] at e1
      have e2 := (hV (j / 3) hk).1 (j % 3) (by omega)
      rw [show j / 3 * 3 + j % 3 = j by omega] at e2
      rw [e2, e1]
      simp
    · obtain ⟨i, hi, rfl⟩ := List.mem_map.1 he
      exact (hV i (List.mem_range.1 hi)).2.1
    · obtain ⟨i, hi, rfl⟩ := List.mem_map.1 he
      exact (hV i (List.mem_range.1 hi)).2.2
end
/-! ### the row's step -/
set_option maxRecDepth 100000 in
theorem contract (H : Type) (enc : TypeId × Value → H) (W : World) (base : Nat) (args : Array Value) (ds gs : List (DataW H)) (before : List MemPlace)
    (hval0 : ∀ (j : Nat) t v, Tryz.f3.params[j]? = some t → args[j]? = some v → Value.okWide Tryz.prog W .any base t v)
    (hW : DataW.Whole enc Tryz.prog Tryz.f3.params.toList Rows.ladderSavedSpec.vars false W args.toList ds gs before) (hk : Rows.uptoSmall H (ds ++ gs) = true) :
    Calls Tryz.prog 3 args W fun e W' => ∃ v, e = .returned v ∧ Rows.ladderSavedSpec.post enc Tryz.prog Tryz.f3 false true false false W args v W' := by
  have hval : ∀ (j : Nat) t v, Tryz.f3.params[j]? = some t → args[j]? = some v → Value.okWide Tryz.prog W .any base t v := hval0
  have hbk : Rows.uptoBulkAll (ds ++ gs) ≤ 1048576 := of_decide_eq_true hk
  have hW' := hW
  obtain ⟨p, q, hA0, hV, rfl, hfz, hnd⟩ := hW
  have hA : DataW.TrodAll enc Tryz.prog W 0 (fun _ => true) true Tryz.f3.params.toList args.toList ds p := hA0
  rw [Tryz.params3] at hA hval
  obtain ⟨v0, vs0, d0, ds0, p0, q0, hargs, rfl, rfl, h0, r0⟩ := trodAll_cons hA
  obtain ⟨v1, vs1, d1, ds1, p1, q1, rfl, rfl, rfl, h1, r1⟩ := trodAll_cons r0
  obtain ⟨v2, vs2, d2, ds2, p2, q2, rfl, rfl, rfl, h2, r2⟩ := trodAll_cons r1
  obtain ⟨rfl, rfl, rfl⟩ := trodAll_nil r2
  obtain rfl : args = #[v0, v1, v2] := by cases args; simp_all
  obtain ⟨rfl, rfl⟩ := trodVars_none hV
  obtain ⟨a0, rfl, rfl, rfl, w0⟩ := open_int Tryz.underlying3 (hval 0 3 v0 rfl rfl) h0
  obtain ⟨a1, len1, cap1, rfl⟩ := okWide_slice Tryz.underlying22 (hval 1 22 v1 rfl rfl)
  have k1 := h1
  have lt1 : ∀ x ∈ p1, x.block < W.heap.size := by obtain ⟨m, hm⟩ := k1; exact DataW.trod_lt m _ _ _ hm
  obtain ⟨a2, len2, cap2, rfl⟩ := okWide_slice Tryz.underlying23 (hval 2 23 v2 rfl rfl)
  have k2 := h2
  have lt2 : ∀ x ∈ p2, x.block < W.heap.size := by obtain ⟨m, hm⟩ := k2; exact DataW.trod_lt m _ _ _ hm
  have hb2 : Rows.uptoBulk d2 ≤ 1048576 := by
    simp only [List.append_nil, Rows.uptoBulkAll] at hbk
    omega
  obtain ⟨l, hl1, hr1, hw1⟩ : ∃ l, len1 ≤ cap1 ∧ Bts W Any a1 len1 l ∧ Byt l := by
    obtain ⟨fuel, hf⟩ := h1
    obtain ⟨a, len, cap, l, e, g1, g2, g3, _⟩ := open_nums Tryz.underlying22 Tryz.underlying5 (by kernel_rfl) hf
    simp [Value.cells] at e
    obtain ⟨rfl, rfl, rfl⟩ := e
    exact ⟨l, g1, g2, fun x hx => byte_of (g3 x hx)⟩
  obtain ⟨es, he1, he2⟩ : ∃ es, EdsAt W Any a2 len2 es ∧ ∀ e ∈ es, FitI e.f ∧ FitI e.t ∧ e.put.length ≤ 1048576 := by
    obtain ⟨fuel, hf⟩ := h2
    obtain ⟨a, len, cap, es, e, g1, g2⟩ := open_edits hf hb2
    simp [Value.cells] at e
    obtain ⟨rfl, rfl, rfl⟩ := e
    exact ⟨es, g1, g2⟩
  clear hA0 hval0
  refine (saved_any a0 a1 len1 cap1 l a2 len2 cap2 es W hr1 hw1 hl1 he1 he2).mono fun e W' ⟨he, bel⟩ => ?_
  subst he
  refine ⟨_, rfl, _, _, _, [], _, [], hW', trodAll_mk1 (shut_bool Tryz.underlying4 _), (trodAll_cons_mk (shut_int Tryz.underlying3 w0) (trodAll_cons_mk (Below.trod laidOut (by kernel_rfl) (of_decide_eq_true (by kernel_rfl)) k1 bel lt1) (trodAll_cons_mk (Below.trod laidOut (by kernel_rfl) (of_decide_eq_true (by kernel_rfl)) k2 bel lt2) trodAll_mk0))), rfl, bel.frame _, fun h => by cases h⟩
/-- the door's own heap meets the condition -/
theorem laid_met (os : Os) : laidMetH Tryz.prog Rows.ladderSavedUptoRow.laid ((World.doorLaid Tryz.prog 16 os).forCall (fun _ _ => 0) ⟨#[], #[.int .i64 0, .slice none 0 0, .slice none 0 0], []⟩).memory :=
  laidMetH_of_parts3 (fuel := 8) (laidMet_of_run' 8 (by kernel_rfl) (by kernel_rfl)) (by kernel_rfl) (by kernel_rfl)
theorem reads (os : Os) {H : Type} (enc : TypeId × Value → H) : ∃ places, DataW.whole enc Tryz.prog ((World.doorLaid Tryz.prog 16 os).forCall (fun _ _ => 0) ⟨#[], #[.int .i64 0, .slice none 0 0, .slice none 0 0], []⟩).memory Tryz.f3.params.toList Rows.ladderSavedSpec.vars false #[Value.int .i64 0, .slice none 0 0, .slice none 0 0].toList 8 = some ([.lit (.int .i64 0), .nil, .nil], [], places) :=
  ⟨[], by kernel_rfl⟩
set_option maxRecDepth 100000 in
theorem liftedUpto (os : Os) (started : os.Started) (H : Type) (enc : TypeId × Value → H) (F : Stop.Interp) :
    ReturnsInHanded {} Tryz.checked os 3 .any ((Rows.OpenSpec.upto Rows.ladderSavedSpec).preRow enc Tryz.prog Tryz.f3 Rows.ladderSavedUptoRow.domain false Rows.ladderSavedUptoRow.laid) (((Rows.OpenSpec.upto Rows.ladderSavedSpec).at F).post enc Tryz.prog Tryz.f3 false true false false) := by
  obtain ⟨places, hx⟩ := reads os enc
  refine returnsInHanded_of_row (C := Tryz.checked) (s := Rows.OpenSpec.upto Rows.ladderSavedSpec) own started (by kernel_rfl) Tryz.func3
    (witness_row_at (enc := enc) (C := Tryz.checked) false (World.doorLaid Tryz.prog 16 os) #[.int .i64 0, .slice none 0 0, .slice none 0 0] rfl (by kernel_rfl) (by kernel_rfl) (by kernel_rfl)
      (OpenSpec.preRow_of_cond 8 hx (by kernel_rfl) (fun k hk => by cases hk; kernel_rfl) (by kernel_rfl) (laid_met os))) ?_
  intro W base args ds gs before hval hW _ hcond _ hL _ _
  exact contract H enc W base args ds gs before hval hW (hcond _ rfl)
theorem saidUpto : Rows.LadderSavedUptoSaid :=
  OpenClaim.holds_of_cond 3 Tryz.f3 rfl rfl rfl rfl rfl rfl rfl ⟨rfl, rfl, rfl, rfl, rfl⟩ rfl rfl rfl rfl rfl (by kernel_rfl) Tryz.func3 (by kernel_rfl)
    (of_decide_eq_true (by kernel_rfl)) (by unfold Func.isWrapper; first | (rw [if_pos (by decide +kernel)]; kernel_rfl) | (rw [if_neg (by decide +kernel)]; exact ⟨rfl, rfl⟩))
    (fun os started H enc _ F => by rw [OpenClaim.pre_eq_preRow]; exact liftedUpto os started H enc F)
theorem plain (f : FuncId) (fn : Func) (hf : Tryz.pinned.checked.prog.funcNamed "copyist/copyistladder.LadderSaved" = some f) (hfn : Tryz.pinned.checked.prog.funcs[f]? = some fn) :
    true = Tryz.pinned.checked.prog.looks [] ∧ ∀ (j : Nat) t, fn.params[j]? = some t → Tryz.pinned.checked.prog.wantsStandIn t = false := by
  obtain rfl : f = 3 := Option.some.inj ((show Tryz.prog.funcNamed "copyist/copyistladder.LadderSaved" = some 3 by kernel_rfl).symm.trans hf) |>.symm
  obtain rfl : fn = Tryz.f3 := (Option.some.inj (Tryz.func3.symm.trans hfn)).symm
  refine ⟨by kernel_rfl, fun j t ht => ?_⟩
  rw [Tryz.params3] at ht
  have hm : t ∈ [3, 22, 23] := by simpa using Array.mem_of_getElem? ht
  have hall : ([3, 22, 23].all fun u => !Tryz.prog.wantsStandIn u) = true := by kernel_rfl
  exact (show Tryz.prog.wantsStandIn t = false by simpa using List.all_eq_true.1 hall t hm)
/-- the statement: the tied card of the second form -/
theorem proved : Rows.LadderSavedUptoCardSaid :=
  Claim7.holds_tied_plain_at .later [] _ _ _ _ saidUpto (fun _ h => by cases h) (by kernel_rfl) (fun _ h => by cases h) ladderSavedUpto_row_tie rfl ⟨rfl, rfl⟩ (by kernel_rfl) rfl plain (by kernel_rfl)
end Go.Proofs.YtflhiohjikgedaaGreatDoor.ladderSaved
