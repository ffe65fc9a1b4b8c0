/-
  The walk of Text.walk, where there is something to go through.
-/
import Derived.Test.YtflhiohjikgedaaGreatDoorLRound
set_option linter.unusedSimpArgs false
set_option linter.unusedVariables false
set_option maxRecDepth 100000
set_option maxHeartbeats 32000000
namespace Go.Proofs.YtflhiohjikgedaaGreatDoor
open Go.RowKit
attribute [local go_sem] Oper.semAt_some
theorem walk_seg {α : Type} (L A B : List α) (hL : L = A ++ B) (nn lf : Nat) (f tt : Int) (h1 : (A.length : Int) + nn = max f 0) (h2 : min tt (L.length : Int) - max f 0 = (lf : Int)) (h3 : 1 <= lf) : (B.drop nn).take lf = seg f tt L := by
 have hf : f.toNat = A.length + nn := by omega
 have hd : L.drop f.toNat = B.drop nn := by rw [hL, hf, List.drop_append, List.drop_eq_nil_of_le (by omega), List.nil_append]; congr 1; omega
 unfold seg
 rw [hd]
 have hlen : L.length = A.length + B.length := by rw [hL, List.length_append]
 by_cases ht : tt <= L.length
 ·congr 1; omega
 ·rw [List.take_of_length_le (by rw [List.length_drop]; omega), List.take_of_length_le (by rw [List.length_drop]; omega)]
theorem twalk_some {σ : Type} (F : FuncId) (caps : Array Value) (J : σ -> (Nat -> Prop) -> World -> Prop) (step : σ -> Int -> Int -> σ) (size : σ -> Nat) (hS : Sees F caps J step size) (D : Nat -> Prop) (g : Nat) (enc lim : Int) (t : Tr) (a : Option Addr) (add : Value) (f tt : Int)
  (s0 : σ) (X0 : Nat -> Prop) (w : World) (h : TextIn w D g enc lim t a add) (hD : ∀ b, D b -> b < w.heap.size -> ¬ X0 b) (hj : J s0 X0 w) (hs0 : size s0 <= 1000) (f0 : -2147483648 <= f) (t0 : tt <= 2147483648) (hft : max f 0 < min tt (decL enc t.list).length) :
  Calls Tryz.prog 45 #[.pointer (some ⟨g, 0, none⟩), .int .i64 f, .int .i64 tt, .func (.func F) #[] caps] w fun e w' => SeenPost J ((seg f tt (atsL enc t.list)).foldl (fun s a => step s a.1 a.2) s0) X0 w e w' := by
 obtain ⟨W1, hW1⟩ : ∃ W1, (w.alloc (.cells #[.pointer (some ⟨g, 0, none⟩)] 39)).alloc (.cells #[.func (.func F) #[] caps] 111) = W1 := ⟨_, rfl⟩
 have hb1 : Below w.heap.size w W1 := by rw [<- hW1]; exact balloc (balloc (Below.refl _ w))
 have hn : W1.heap.size = w.heap.size + 2 := by rw [<- hW1]; simp
 have b4 : Blk W1 w.heap.size 39 #[.pointer (some ⟨g, 0, none⟩)] := by rw [<- hW1]; exact (Blk.new w _ _).alloc _
 have b7 : Blk W1 (w.heap.size + 1) 111 #[.func (.func F) #[] caps] := by
  rw [<- hW1]
  have := Blk.new (w.alloc (.cells #[.pointer (some ⟨g, 0, none⟩)] 39)) 111 #[.func (.func F) #[] caps]
  simpa only [World.size_alloc] using this
 have hl := len_any D g enc _ W1 ⟨lim, t, a, add, h.below hb1, rfl⟩
 have hdl := h.decLen
 obtain ⟨n, hnn⟩ : ∃ n, (decL enc t.list).length = n := ⟨_, rfl⟩
 rw [hnn] at hl hdl hft
 have HW1 := Lib.hid hW1
 have HN := Lib.hid hn
 have HL := Lib.hid hl
 have HNN := Lib.hid hnn
 clear hW1 hn hl hnn
 refine (callsIn_wide (n := 7)).1 ?_
 refine callsIn_of_wp_marks Tryz.func45 rfl trivial ?_ rfl
 simp only [Tryz.ntmps45, List.size_toArray, List.length_cons, List.length_nil, Nat.reduceAdd, Nat.reduceSub, Array.replicate_succ, Array.replicate_zero, List.push_toArray, List.append_toArray, List.nil_append, List.cons_append]
 refine wpIn_wide.2 ?_
 go_upto_region 1 with fail
 have e1 := HW1.out
 rw [e1]
 clear e1 HW1
 have hz := HN.out
 go_cut [1, 2] from 15 to 20 (fun q1 q2 wx => q1 = .int .i64 (max f 0) /\ q2 = .int .i64 (min tt n) /\ Below w.heap.size w wx /\ Blk wx w.heap.size 39 #[.pointer (some ⟨g, 0, none⟩)] /\ Blk wx (w.heap.size + 1) 111 #[.func (.func F) #[] caps])
 case first =>
  have c4 := b4.cell 0
  simp at c4
  clear hz
  by_cases q0 : f < 0 <;> by_cases q1 : tt <= n
  all_goals
   go_wp2_with fail
   refine (HL.out).mono ?_
   rintro e w1 ⟨rfl, hb2⟩
   go_wp2_with fail
   go_meet
   exact ⟨ret_v (by omega), ret_v (by omega), bseq hb1 hb2, b4.below hb2, b7.below hb2⟩
 case rest =>
  obtain ⟨rfl, rfl, hb2, b4, b7⟩ := hcut
  clear HL hb1 hz HN
  obtain ⟨m1, hm1⟩ : ∃ m1, max f 0 = m1 := ⟨_, rfl⟩
  obtain ⟨m2, hm2⟩ : ∃ m2, min tt (n : Int) = m2 := ⟨_, rfl⟩
  rw [hm1, hm2] at hft ⊢
  have HM1 := Lib.hid hm1
  have HM2 := Lib.hid hm2
  have k0 : 0 <= m1 := by omega
  have k1 : m1 < m2 := hft
  have k2 : m2 <= n := by omega
  clear hm1 hm2 hft
  have hf := tfind_any D g enc lim t a add m1 wc (h.below hb2) k0 (by have := HNN.out; omega)
  have HF := Lib.hid hf
  have hit := fun i => items_any a i
  have HI := Lib.hid hit
  have c4 := b4.cell 0
  simp at c4
  clear hf hit
  go_wp2_with fail
  refine (HF.out).mono ?_
  rintro e w1 ⟨i, nn, rfl, hfd, hb3⟩
  have hb3' := bseq hb2 hb3
  have b41 := b4.below hb3
  have b71 := b7.below hb3
  have hT := h.below hb3'
  obtain ⟨_, t2⟩ := hT.cells
  have c41 := b41.cell 0
  simp at c41
  have z4 := b41.lt
  have zg := hT.blk.lt
  clear c4
  go_wp2_with fail
  refine (HI.out _ _).mono ?_
  rintro e w2 ⟨rfl, rfl⟩
  go_wp2_with fail
  obtain ⟨w2, hw2⟩ : ∃ w2, (((w1.alloc (.cells #[.int .i64 (nn : Int)] 3)).alloc (.cells #[.int .i64 (m2 - m1)] 3)).alloc (.cells #[.pointer a] 86)).alloc (.cells #[.int .i64 (i : Int)] 3) = w2 := ⟨_, rfl⟩
  have hb4 : Below w1.heap.size w1 w2 := by rw [<- hw2]; exact balloc (balloc (balloc (balloc (Below.refl _ w1))))
  have hz2 : w2.heap.size = w1.heap.size + 4 := by rw [<- hw2]; simp
  obtain ⟨lf, hlf⟩ : ∃ lf : Nat, m2 - m1 = (lf : Int) := ⟨(m2 - m1).toNat, by omega⟩
  have bn : Blk w2 w1.heap.size 3 #[.int .i64 (nn : Int)] := by rw [<- hw2]; exact (((Blk.new w1 _ _).alloc _).alloc _).alloc _
  have bl : Blk w2 (w1.heap.size + 1) 3 #[.int .i64 (lf : Int)] := by
   rw [<- hw2, hlf]
   have := Blk.new (w1.alloc (.cells #[.int .i64 (nn : Int)] 3)) 3 #[.int .i64 (lf : Int)]
   simp only [World.size_alloc] at this
   exact (this.alloc _).alloc _
  have bt : Blk w2 (w1.heap.size + 2) 86 #[.pointer a] := by
   rw [<- hw2]
   have := Blk.new ((w1.alloc (.cells #[.int .i64 (nn : Int)] 3)).alloc (.cells #[.int .i64 (m2 - m1)] 3)) 86 #[.pointer a]
   simp only [World.size_alloc] at this
   exact this.alloc _
  have bi : Blk w2 (w1.heap.size + 3) 3 #[.int .i64 (i : Int)] := by
   rw [<- hw2]
   have := Blk.new (((w1.alloc (.cells #[.int .i64 (nn : Int)] 3)).alloc (.cells #[.int .i64 (m2 - m1)] 3)).alloc (.cells #[.pointer a] 86)) 3 #[.int .i64 (i : Int)]
   simp only [World.size_alloc] at this
   exact this
  rw [hw2]
  clear hw2 c41 t2
  have hx0 : ∀ b, X0 b -> b < w.heap.size := fun b hx => by obtain ⟨cs, T, hbk, _⟩ := hS.kind _ _ _ b hj hx; exact hbk.lt
  have hbw2 : Below w.heap.size w w2 := bseq hb3' hb4
  have hsz1 := b71.lt
  have hok : CoreOk X0 w w2.heap.size g w1.heap.size := ⟨hx0, by omega, by omega⟩
  have hcore : Core J X0 w w2.heap.size g #[.int .i64 enc, .int .i64 lim, .pointer a, add] (.func (.func F) #[] caps) w1.heap.size nn lf s0 X0 w2 :=
   ⟨hS.keep _ _ _ _ hj (fun b hx => hbw2.block b (hx0 b hx)), fun b hx => .inl hx, Fr.of_below hbw2, Nat.le_refl _, b41.below hb4, b71.below hb4, bn, bl, (h.below hbw2).blk⟩
  obtain ⟨hf1, hf2, hf3⟩ := hfd
  have hlen := h.len
  have hG : ∀ p ∈ t.list, GPc w D enc p := fun p hp => ⟨h.ok p hp, h.bts p hp⟩
  have hst := items_stops (GPc w D enc) 6 (w1.heap.size + 2) (w1.heap.size + 3) t a (i : Int) w2 (NodeAt.below hbw2 t a h.node) hG (bt.cell 0) (bi.cell 0) (by omega) (by omega) hlen
  have hnn1 : nn <= 1073741824 := by have := HNN.out; omega
  have hlf1 : lf <= 1073741824 := by have := HNN.out; omega
  have hlf0 : 1 <= lf := by omega
  have HLF := Lib.hid hlf
  have HZ2 := Lib.hid hz2
  have HF2 := Lib.hid hf2
  clear hlf hz2 hf2 HF HI
  refine (wpIn_wide (n := 7)).1 ?_
  refine wpIn_rangeFunc_ownH (w0 := w2) rfl (by decide) (gf := 73) (lb := #[.pointer (some ⟨w1.heap.size + 2, 0, none⟩), .pointer (some ⟨w1.heap.size + 3, 0, none⟩)]) rfl trivial Tryz.call73
   hst (fun h k => KT.trans h k) ?hKb (Below.refl _ _) (fun _ => rfl)
   (WkI J step size X0 w w2.heap.size g #[.int .i64 enc, .int .i64 lim, .pointer a, add] (.func (.func F) #[] caps) w1.heap.size enc (GPc w D enc) nn lf s0)
   (WkX J step X0 w w2.heap.size g #[.int .i64 enc, .int .i64 lim, .pointer a, add] (.func (.func F) #[] caps) w1.heap.size enc (GPc w D enc) nn lf s0)
   ?hI ?hIx ⟨nn, lf, s0, X0, by simp [atsL, feed], hlf0, by omega, hnn1, hcore⟩
   (fun x a' W => ∃ Bx, w2.heap.size <= Bx /\ Blk W Bx 94 x.1.cells /\ a' = { tmps := #[.pointer (some ⟨g, 0, none⟩), .int .i64 m1, .int .i64 m2, .func (.func F) #[] caps, .pointer (some ⟨w.heap.size, 0, none⟩), undef, undef, .pointer (some ⟨w.heap.size + 1, 0, none⟩), .int .i64 (i : Int), .pointer (some ⟨w1.heap.size, 0, none⟩), .pointer (some ⟨w1.heap.size + 1, 0, none⟩), .pointer (some ⟨Bx, 0, none⟩), undef, undef, undef, u15, u16, u17, u18, u19, u20, .int .i64 m1, .int .i64 m2, .bool (decide (m2 <= m1)), .tuple #[.int .i64 (i : Int), .int .i64 (nn : Int)], .pointer (some ⟨g, 0, none⟩), .int .i64 m1, .tuple #[.int .i64 (i : Int), .int .i64 (nn : Int)], .int .i64 (i : Int), .int .i64 (nn : Int), .int .i64 m2, .int .i64 m1, .int .i64 (m2 - m1), .pointer (some ⟨g, 0, none⟩), .pointer (some ⟨g, 0, none⟩), .pointer (some ⟨g, 2, none⟩), .agg #[.pointer a], .int .i64 (i : Int), .func (.func 73) #[] #[.pointer (some ⟨w1.heap.size + 1 + 1, 0, none⟩), .pointer (some ⟨w1.heap.size + 1 + 1 + 1, 0, none⟩)], .agg x.1.cells, undef, undef, undef, undef, undef, undef, undef, undef, undef, undef, undef, undef, undef, undef, undef, undef, undef, undef, undef, undef, undef, undef, undef, undef, undef, undef, undef, undef, undef, undef, undef, undef, undef, undef, undef, undef, undef, undef, undef, undef], defers := [] }) ?hAx ?assign ?body ?done ?stop
  case hKb => exact fun W l o o' hl ho hc hw => ⟨by simp, fun b cs T h1 hb => (World.putObj_heap_other (by rintro rfl; unfold Blk at hb; rw [hb] at ho; injection ho with ho; rw [<- ho] at hc; cases hc)).trans hb⟩
  case hI =>
   rintro pre W W' row ⟨n', left, s, X, q1, q2, q3, q4, hcr⟩ hg hr
   exact ⟨n', left, s, X, q1, q2, q3, q4, hcr.own hok hS hg hr⟩
  case hIx =>
   rintro c pre W W' row ⟨rfl, k, l, s, X, q1, hcr⟩ hg hr
   exact ⟨rfl, k, l, s, X, q1, hcr.own hok hS hg hr⟩
  case hAx =>
   rintro x a' _ W W' row ⟨Bx, q1, q2, q3⟩ hg hr
   exact ⟨Bx, q1, q2.grown hg (fun e => by
    obtain ⟨_, o, ho, hcell⟩ := hr _ e.symm
    unfold Blk at q2
    rw [q2] at ho
    injection ho with ho
    rw [<- ho] at hcell
    cases hcell), q3⟩
  case assign =>
   rintro l pre x W K ⟨n', left, s, X, q1, q2, q3, q4, hcr⟩ hK
   simp only [Pc.cells, partC] at hK ⊢
   have HQ := Lib.hid q1
   clear q1
   gi_wp2
   exact hK _ _ (Rel.below (balloc (Below.refl _ W))).1 (Rel.below (m2 := 0) (balloc (Below.refl _ W))).2 ⟨n', left, s, X, HQ.out, q2, q3, q4, hcr.below hS (balloc (Below.refl _ W))⟩ ⟨W.heap.size, hcr.sz, Blk.new W _ _, rfl⟩
  case body =>
   rintro l pre x a' W hl ⟨rr, hrr⟩ ⟨n1, l1, s1, X1, q1, q2, q3, q4, hcr⟩ ⟨Bx, hBx, hbx, rfl⟩ hlt
   obtain ⟨T, hT⟩ : ∃ T, feed step n1 l1 s1 (atsP enc x.1) = T := ⟨_, rfl⟩
   have hfin : feed step nn lf s0 (atsL enc ((pre ++ [x]).map Subtype.val)) = T := by
    rw [List.map_append, atsL_app, feed_go _ _ _ _ _ _ _ _ q1, <- hT]
    exact congrArg _ (atsL_one enc x.1)
   have HFIN := Lib.hid hfin
   have HT := Lib.hid hT
   clear q1 hfin hT hrr hst bn bl bt bi hj
   obtain ⟨⟨xb, xl, xp, xn, xc, xt0, xt1, _⟩, xbts⟩ := x.2
   gi_wp2
   gi_loopg [12] x.1.n (fun k q wr => WkR J step size X0 w w2.heap.size g #[.int .i64 enc, .int .i64 lim, .pointer a, add] (.func (.func F) #[] caps) w1.heap.size enc x.1 T W k q wr)
   case atStart => exact ⟨0, n1, l1, s1, X1, rfl, hcr, Rel.refl _ _, by rw [List.drop_zero]; exact HT.out, q2, q3, q4, Nat.zero_le _, Nat.le_refl _⟩
   case round =>
    obtain ⟨k, n', left, s, X, rfl, hc, hre, hfeed, r1, r2, r3, r4, r5⟩ := hrel
    have HFE := Lib.hid hfeed
    have hbxr := hre.2.2 _ _ _ (by decide) hbx
    have c11 := hbxr.cell 0
    have c11t := hbxr.cell 1
    simp only [Pc.cells, partC, List.getElem?_toArray, List.getElem?_cons_zero, List.getElem?_cons_succ] at c11 c11t
    clear hfeed
    by_cases hk : k < x.1.n
    ·have hdc := dec_cons enc (x.1.bytes.drop k) (by rw [List.length_drop]; omega)
     have hz := sizeAt_bd enc (x.1.bytes.drop k) (by rw [List.length_drop]; omega)
     rw [List.length_drop] at hz
     obtain ⟨z, hzz⟩ : ∃ z : Nat, sizeAt enc (x.1.bytes.drop k) = (z : Int) := ⟨(sizeAt enc (x.1.bytes.drop k)).toNat, by omega⟩
     obtain ⟨at_, hat⟩ : ∃ a, atomAt enc (x.1.bytes.drop k) = a := ⟨_, rfl⟩
     have hcn := fun (wy : World) (hy : Below wr.heap.size wr wy) => cnext_any enc D x.1.A x.1.n x.1.c k x.1.bytes wy h.enc4 (Reads.below (Reads.fr xbts hc.fr hD) hy) xb (by omega) xc hk
     rw [hzz, hat] at hcn hdc
     rw [hzz] at hz
     rw [List.drop_drop, Int.toNat_natCast] at hdc
     have HCN := Lib.hid hcn
     have HDC := Lib.hid hdc
     have z0 : 1 <= z := by omega
     have z1 : z <= x.1.n - k := by omega
     clear hcn hdc hz hzz hat
     gi_upto_region 9 with fail
     gi_cut [13, 14] from 45 (fun q13 q14 wx => q13 = .int .i64 at_ /\ q14 = .int .i64 (z : Int) /\ Below wr.heap.size wr wx)
     case first =>
      have c4 := hc.b4.cell 0
      have ct := hc.tx.cell 0
      simp at c4 ct
      clear h hs0 f0 t0 b4 b7 hdl HNN hb2 HM1 HM2 k0 k1 k2 hb3 hb3' b41 b71 hT z4 zg hb4 HLF hx0 hbw2 hsz1 hcore hf1 hf3 hlen hG hnn1 hlf1 hlf0 HZ2 HF2 hl q2 q3 q4 hcr hBx hlt HFIN HT xbts xb xl xp xn xc xt0 xt1 r1 r2 r3 r4 r5 HFE HDC z0 z1 c11t hD hre hbxr hbx hc hok hS
      refine wpIn_region_mid (fun _ => trivial) rfl (round_calls l _) 7 _ (by kernel_rfl) (by kernel_rfl) rfl ?_
      simp only [List.take_succ_cons, List.take_zero]
      repeat still_step
      refine wpStill_nil ?_
      gi_wp2_with (first | (refine ⟨trivial, ?_⟩; gi_at_call 33; refine (CallsIn.inRound l (callsIn_wide.2 (HCN.out _ (Below.drew (Below.refl _ _))))).mono ?_; rintro e w5 ⟨rfl, hb5⟩))
      all_goals
       refine MidQ.go ?_
       simp only [List.drop_succ_cons, List.drop_zero]
       repeat still_step
       refine wpStill_nil ?_
       gi_wp2
       gi_meet
       exact ⟨rfl, rfl, bdrew hb5⟩
     case rest =>
      obtain ⟨rfl, rfl, hb5⟩ := hcut
      have hc5 := hc.below hS hb5
      have hre5 := hre.trans (Rel.below hb5)
      have hbx5 := hbxr.below hb5
      clear hc hre hbxr c11 c11t hcr
      have d0 := hc5.bn.cell 0
      have d1 := hc5.bl.cell 0
      have d2 := hbx5.cell 0
      have d3 := hbx5.cell 1
      have d4 := hc5.b7.cell 0
      have v0 := hc5.bn.frozen 0
      have v1 := hc5.bl.frozen 0
      simp [Pc.cells, partC] at d0 d1 d2 d3 d4
      by_cases hn : 0 < n'
      ·gi_wp2
       gi_roundg (x.1.n - (k + z))
       case measure => omega
       case rel =>
        have hc6 := hc5.setN hok hS (n' - 1)
        rw [show ((n' - 1 : Nat) : Int) = (n' : Int) - 1 by omega] at hc6
        refine ⟨k + z, n' - 1, left, s, X, by go_num, hc6, hre5.trans (Rel.setInt hc5.bn _), ?_, r1, r2, by omega, by omega, by omega⟩
        rw [<- HFE.out, HDC.out, show n' = (n' - 1) + 1 by omega]
        rfl
      ·obtain rfl : n' = 0 := by omega
       obtain ⟨tg, htg⟩ : ∃ tg : Int, (if x.1.tag < 0 then -1 else x.1.tag + (k : Int)) = tg := ⟨_, rfl⟩
       have hT1 : feed step 0 left s ((at_, tg) :: tagF x.1.tag ((k : Int) + z) (dec enc (x.1.bytes.drop (k + z)))) = T := by
        rw [<- HFE.out, HDC.out, <- htg]
        rfl
       have hsc := hS.call s X at_ tg wc hc5.j (by omega)
       have hse := hS.enter
       have HSC := Lib.hid hsc
       have HT1 := Lib.hid hT1
       have HTG := Lib.hid htg
       clear hsc hT1 htg
       have htg : (x.1.tag < 0 /\ tg = -1) \/ (¬ x.1.tag < 0 /\ tg = x.1.tag + (k : Int)) := by
        have := HTG.out
        by_cases ht : x.1.tag < 0
        ·rw [if_pos ht] at this; exact .inl ⟨ht, this.symm⟩
        ·rw [if_neg ht] at this; exact .inr ⟨ht, this.symm⟩
       clear HTG
       rcases htg with ⟨ht, rfl⟩ | ⟨ht, rfl⟩
       all_goals
        by_cases hl1 : left = 1
        ·subst hl1
         gi_wp2_with (first | (refine ⟨trivial, ?_⟩; refine (CallsIn.inRound l (callsIn_wide.2 HSC.out)).mono ?_; rintro e w6 ⟨rfl, ⟨X6, hj6, hx6⟩, hf6⟩; have hc6 := hc5.see hok hS hj6 hx6 hf6; have hre6 := hre5.trans (hc5.rel hS hf6); have g1 := hc6.bl.cell 0; have g2 := hc6.bl.frozen 0; simp at g1))
         have hc7 := hc6.setL hok hS 0
         have hre7 := hre6.trans (Rel.setInt hc6.bl (.int .i64 ((0 : Nat) : Int)))
         refine ⟨hre7.1, rfl, 0, 0, _, X6, ?_, hc7⟩
         rw [HFIN.out, <- HT1.out]
         rfl
        ·have q : (((left : Nat) : Int) - 1 == 0) = false := by rw [beq_eq_false_iff_ne]; omega
         gi_wp2_with (first | (refine ⟨trivial, ?_⟩; refine (CallsIn.inRound l (callsIn_wide.2 HSC.out)).mono ?_; rintro e w6 ⟨rfl, ⟨X6, hj6, hx6⟩, hf6⟩; have hc6 := hc5.see hok hS hj6 hx6 hf6; have hre6 := hre5.trans (hc5.rel hS hf6); have g1 := hc6.bl.cell 0; have g2 := hc6.bl.frozen 0; simp at g1))
         gi_roundg (x.1.n - (k + z))
         case measure => omega
         case rel =>
          have hc7 := hc6.setL hok hS (left - 1)
          rw [show ((left - 1 : Nat) : Int) = (left : Int) - 1 by omega] at hc7
          have hri := hS.rises s at_
          refine ⟨k + z, 0, left - 1, _, X6, by go_num, hc7, hre6.trans (Rel.setInt hc6.bl _), ?_, by omega, ?_, by omega, by omega, by omega⟩
          ·rw [<- HT1.out]
           simp only [feed]
           rw [if_neg (by omega)]
           rfl
          ·have := hri (if x.1.tag < 0 then -1 else x.1.tag + (k : Int))
           first
            | (rw [if_pos ht] at this; omega)
            | (rw [if_neg (show ¬ x.1.tag < 0 by omega)] at this; omega)
    ·have hkn : k = x.1.n := by omega
     have hfin : feed step nn lf s0 (atsL enc ((pre ++ [x]).map Subtype.val)) = (false, n', left, s) := by
      rw [HFIN.out, <- HFE.out, List.drop_eq_nil_of_le (by omega)]
      rfl
     have HF2' := Lib.hid hfin
     clear hfin
     gi_wp2
     exact ⟨hre.1, hre.2, n', left, s, X, HF2'.out, r1, r2, r3, hc⟩
  case done =>
   rintro D2 xs W hD2 hxs ⟨n', left, s, X, q1, q2, q3, q4, hcr⟩ hK
   have hc7 := hcr.own hok hS (grownBy_putObj' W D2 (.deferred none)) (fun r e => by cases e; exact ⟨hD2, _, hK, rfl⟩)
   have hv := feed_val (step := step) (atsL enc (xs.map Subtype.val)) nn lf s0 hlf0
   rw [q1, hxs, Int.toNat_natCast, walk_seg (atsL enc t.list) (atsL enc (t.list.take i)) (atsL enc (t.list.drop i)) (by rw [<- atsL_app, List.take_append_drop]) nn lf f tt (by rw [atsL_len, HM1.out]; exact HF2.out) (by rw [atsL_len, HNN.out, HM1.out, HM2.out]; exact HLF.out) hlf0] at hv
   have HV := Lib.hid hv
   clear hv q1 hxs
   gi_wp2
   refine ⟨by simp, .inl ⟨_, _, rfl, run_takeDeferred hK, ?_⟩⟩
   refine ⟨_, results_none rfl _ _ _, rfl, ⟨X, ?_, fun b hb => ?_⟩, hc7.fr⟩
   ·rw [<- HV.out]; exact hc7.j
   ·rcases hc7.xs b hb with h1 | h1
    ·exact .inl h1
    ·exact .inr (Nat.le_trans hbw2.size h1)
  case stop =>
   rintro D2 c pre W hD2 hpre ⟨rfl, k, l, s, X, q1, hcr⟩ hK
   have hc7 := hcr.own hok hS (grownBy_putObj' W D2 (.deferred none)) (fun r e => by cases e; exact ⟨hD2, _, hK, rfl⟩)
   obtain ⟨rest, hrest⟩ := hpre
   have hstp := feed_stop (step := step) (atsL enc (pre.map Subtype.val)) (atsL enc rest) nn lf s0 (by rw [q1])
   rw [<- atsL_app, hrest, q1] at hstp
   have hv := feed_val (step := step) (atsL enc (t.list.drop (i : Int).toNat)) nn lf s0 hlf0
   rw [hstp, Int.toNat_natCast, walk_seg (atsL enc t.list) (atsL enc (t.list.take i)) (atsL enc (t.list.drop i)) (by rw [<- atsL_app, List.take_append_drop]) nn lf f tt (by rw [atsL_len, HM1.out]; exact HF2.out) (by rw [atsL_len, HNN.out, HM1.out, HM2.out]; exact HLF.out) hlf0] at hv
   have HV := Lib.hid hv
   clear hv q1 hstp hrest
   gi_wp2
   refine ⟨by simp, .inl ⟨_, _, rfl, run_takeDeferred hK, ?_⟩⟩
   refine ⟨_, results_none rfl _ _ _, rfl, ⟨X, ?_, fun b hb => ?_⟩, hc7.fr⟩
   ·rw [<- HV.out]; exact hc7.j
   ·rcases hc7.xs b hb with h1 | h1
    ·exact .inl h1
    ·exact .inr (Nat.le_trans hbw2.size h1)
end Go.Proofs.YtflhiohjikgedaaGreatDoor
