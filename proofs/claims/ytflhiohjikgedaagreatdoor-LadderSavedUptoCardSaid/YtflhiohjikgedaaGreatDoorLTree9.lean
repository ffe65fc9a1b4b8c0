/-
  The walks of package tree at the pieces, eighth part: Find. The walks of package tree at the pieces, ninth part: lists that may lie in a tree; of, with them.
-/
import Derived.Test.YtflhiohjikgedaaGreatDoorLTree7
set_option linter.unusedSimpArgs false
set_option linter.unusedVariables false
set_option maxRecDepth 100000
set_option maxHeartbeats 32000000
namespace Go.Proofs.YtflhiohjikgedaaGreatDoor
open Go.RowKit
def FindR (kk n R : Int) (W : World) (k : Nat) (q9 q8 : Value) (wr : World) : Prop :=
 ∃ (t : Tr) (a : Option Addr) (i : Int) (s : Sums), q9 = .pointer a /\ q8 = .int .i64 i /\ NodeAt W t a /\ t.list.length <= k /\ 0 <= i /\ i + t.list.length <= 1073741824 /\
  AllGood t.list /\ s.good /\ s.bytes + totB t.list <= 2147483648 /\ keyF s kk < n /\ i + findL kk n s t.list = R /\
  Below W.heap.size W wr /\ Blk wr (W.heap.size + 1) 92 s.cells
theorem find_any (t : Tr) (a : Option Addr) (kk n : Int) (w : World) (h : NodeAt w t a) (ht : t.list.length <= 1073741824) (hg : AllGood t.list) (hB : totB t.list <= 2147483648) :
  Calls Tryz.prog 87 #[.agg #[.pointer a], .int .i64 kk, .int .i64 n] w fun e w' => e = .returned (.int .i64 (if n <= 0 then 0 else findL kk n zeroS t.list)) /\ Below w.heap.size w w' := by
 by_cases hn : n <= 0
 ·rw [if_pos hn]
  go_enter Tryz.func87, Tryz.ntmps87
  go_wp2_with fail
  go_ret
  exact ⟨rfl, balloc (Below.refl _ _)⟩
 rw [if_neg hn]
 obtain ⟨R, hR⟩ : ∃ R, findL kk n zeroS t.list = R := ⟨_, rfl⟩
 rw [hR]
 have HR := Lib.hid hR
 clear hR
 have hW : Below w.heap.size w ((w.alloc (.cells #[.pointer a] 86)).alloc (.cells zeroS.cells 92)) := balloc (balloc (Below.refl _ w))
 have hB1 : Blk ((w.alloc (.cells #[.pointer a] 86)).alloc (.cells zeroS.cells 92)) (w.heap.size + 1) 92 zeroS.cells := by
  have := Blk.new (w.alloc (.cells #[.pointer a] 86)) 92 zeroS.cells
  simpa only [World.size_alloc] using this
 have hz : keyF zeroS kk < n := by unfold keyF; simp only [zeroS]; split <;> (try split) <;> omega
 go_enter Tryz.func87, Tryz.ntmps87
 go_wp2_with fail
 go_loopg [9, 8] t.list.length (fun k q9 q8 wr => FindR kk n R w k q9 q8 wr)
 case atStart => exact ⟨t, a, 0, zeroS, rfl, rfl, h, Nat.le_refl _, by omega, by omega, hg, zeroS_good, by simp only [zeroS]; omega, hz, by rw [Int.zero_add]; exact HR.out, hW, hB1⟩
 case round =>
  obtain ⟨t1, a1, i, s, rfl, rfl, hn0, hk, i1, i2, hg1, hs, hB1, hns, hF, hWr, hC1⟩ := hrel
  have HF := Lib.hid hF
  clear hF HR hz hn
  cases t1 with
  | nil =>
   cases hn0
   have e : i + 1 = R := HF.out
   have HE := Lib.hid e
   clear e
   have hi2 : i <= 1073741824 := by omega
   go_wp2_with fail
   go_ret
   exact ⟨ret_i HE.out, hWr⟩
  | node l x r =>
   have hls := Tr.size_list l
   have hlist : (Tr.node l x r).list.length = l.list.length + r.list.length + 1 := by simp only [Tr.list, List.length_append, List.length_cons]; omega
   have htot : totB (Tr.node l x r).list = totB l.list + (x.sum.bytes + totB r.list) := by rw [Tr.list, totB_app, totB_cons]
   have gl := Tr.good_l hg1
   have gr := Tr.good_r hg1
   have gx := Tr.good_x hg1
   have tl := totB_nonneg gl
   have tr := totB_nonneg gr
   have tx : 0 <= x.sum.bytes := by obtain ⟨p1, p2, p3, _⟩ := gx; omega
   have ts : 0 <= s.bytes := by obtain ⟨p1, p2, p3, _⟩ := hs; omega
   obtain ⟨b, al, ar, rfl, hb0, hn0l, hn0r⟩ := hn0
   have hb := hb0.below hWr
   obtain ⟨sz, hsz⟩ : ∃ s, l.size = s := ⟨_, rfl⟩
   have hcnt : ∀ w1, Below w.heap.size w w1 -> Calls Tryz.prog 75 #[.pointer al] w1 fun e w' => e = .returned (.int .i64 sz) /\ w1 = w' := by
    intro w1 h1
    rw [<- hsz]
    exact count_any l al _ (NodeAt.below h1 _ _ hn0l)
   have gll := sumL_good gl
   have hac := accF_eq hs l gl
   have hleft := findL_left kk n (x :: r.list) l.list s hs gl (by omega)
   have hright := findL_right kk n (x :: r.list) l.list s hs gl
   rw [<- hac] at hleft hright
   rw [hsz] at hls
   rw [<- hls] at hright
   have hs0 : 0 <= sz := by omega
   have hs1 : i + sz + 1 + r.list.length <= 1073741824 := by omega
   have hs2 : i + l.list.length <= 1073741824 := by omega
   have hk1 := show l.list.length < _ from Nat.lt_of_lt_of_le (by omega) hk
   have hk2 := show r.list.length < _ from Nat.lt_of_lt_of_le (by omega) hk
   have hBl : s.bytes + totB l.list <= 2147483648 := by omega
   have gac : (accF s l).good /\ (accF s l).bytes = s.bytes + totB l.list := by
    rw [hac]
    have := addF_good hs gll.1
    exact ⟨this.1, by rw [this.2.2, gll.2]⟩
   have okx : x.sum.ok := gx.ok (by omega)
   have oks : s.ok := hs.ok (by omega)
   have okl : l.sum.ok := (Tr.sum_good l gl).1.ok (by rw [(Tr.sum_good l gl).2]; omega)
   have oka : (accF s l).ok := gac.1.ok (by omega)
   have gnx := addF_good gac.1 gx
   have hBr : (addF (accF s l) x.sum).bytes + totB r.list <= 2147483648 := by omega
   have HC := Lib.hid hcnt
   have HL := Lib.hid hleft
   have HR := Lib.hid hright
   have HG := Lib.hid gnx
   clear hcnt hsz hls hlist hk hleft hright htot gac gnx hac gll
   obtain ⟨n0, n1, n2, n3, n4, m0, m1, m2, m3, m4⟩ := sums_facts hC1
   go_upto_region 7 with fail
   go_cut [8, 9, 10] (fun q8 q9 q10 wx => q8 = .int .i64 i /\ q9 = .pointer (some ⟨b, 0, none⟩) /\ ∃ g, q10 = .pointer (some ⟨g, 0, none⟩) /\ w.heap.size + 1 < g /\ Below w.heap.size w wx /\ Blk wx (w.heap.size + 1) 92 s.cells /\ Blk wx g 92 s.cells)
   case first =>
    go_wp2_with fail
    go_meet
    exact ⟨rfl, rfl, wr.heap.size, rfl, hC1.lt, balloc hWr, hC1.alloc _, Blk.new wr _ s.cells⟩
   case rest =>
    obtain ⟨rfl, rfl, g, rfl, hgg, hWc, hD1, hD2⟩ := hcut
    clear n0 n1 n2 n3 n4 m0 m1 m2 m3 m4 hWr hC1 hb
    obtain ⟨c0, c1, hit⟩ := node_facts2 (hb0.below hWc)
    clear hit
    go_upto_if 22 with fail
    go_cut [8, 9, 10] (fun q8 q9 q10 wx => q8 = .int .i64 i /\ q9 = .pointer (some ⟨b, 0, none⟩) /\ q10 = .pointer (some ⟨g, 0, none⟩) /\ Below w.heap.size w wx /\ Blk wx (w.heap.size + 1) 92 s.cells /\ Blk wx g 92 (accF s l).cells)
    case first =>
     cases l with
     | nil =>
      cases hn0l
      go_wp2_with fail
      go_meet
      exact ⟨rfl, rfl, rfl, hWc, hD1, hD2⟩
     | node la lx lr =>
      obtain ⟨bl, al', ar', rfl, hbl0, _, _⟩ := hn0l
      obtain ⟨p0, p1, p2, p3, p4, _, _, _, _, _⟩ := node_facts (hbl0.below hWc)
      obtain ⟨n0, n1, n2, n3, n4, m0, m1, m2, m3, m4⟩ := sums_facts hD2
      obtain ⟨v0, v1, v2, v3, v4, _, _, _, _, _⟩ := sums_facts hD1
      have hac : accF s (.node la lx lr) = addF s (Tr.node la lx lr).sum := rfl
      obtain ⟨sl, hsl⟩ : ∃ s, (Tr.node la lx lr).sum = s := ⟨_, rfl⟩
      rw [hsl] at p0 p1 p2 p3 p4 okl hac
      have HAC := Lib.hid hac
      have f1 := me_add s
      simp only [Sums.cells] at f1
      have hD22 := hD2
      clear hac hsl hD2 HC HL HR HG
      go_wp2_with fail
      go_region_with (first | (go_at_call 59; refine (add_any' s sl _ oks okl).mono ?_; rintro e w4 ⟨rfl, hb4⟩; obtain ⟨j0, j1, j2, j3, j4, j5, j6, j7, j8, j9⟩ := sums_facts (hD22.below (bdrew hb4))))
      all_goals
       go_wp2_with fail
       go_meet
       refine ⟨rfl, rfl, rfl, setS_below (s' := addF s sl) (bseq hWc (bdrew hb4)) (by omega), setS_far (s' := addF s sl) (hD1.below (bdrew hb4)) (by omega), ?_⟩
       rw [HAC.out]
       exact setS_own (hD22.below (bdrew hb4))
    case rest =>
     obtain ⟨rfl, rfl, rfl, hWd, hE1, hE2⟩ := hcut
     clear hWc hD1 hD2 c0 c1
     obtain ⟨n0, n1, n2, n3, n4, m0, m1, m2, m3, m4⟩ := sums_facts hE2
     have f1 := me_key (accF s l)
     have hky := key_any (accF s l) kk
     have HK := Lib.hid hky
     clear hky
     obtain ⟨ky, hky⟩ : ∃ ky, keyF (accF s l) kk = ky := ⟨_, rfl⟩
     rw [hky] at HK HL HR
     clear hky
     simp only [Sums.cells] at f1 HK
     go_wp2_with fail
     refine (HK.out _).mono ?_
     rintro e w1 ⟨rfl, hb1⟩
     have hWe := bseq hWd hb1
     have hF1 := hE1.below hb1
     have hF2 := hE2.below hb1
     clear n0 n1 n2 n3 n4 m0 m1 m2 m3 m4 f1 HK hE1 hE2 hWd
     obtain ⟨c0, c1, hit⟩ := node_facts2 (hb0.below hWe)
     by_cases hk3 : n <= ky
     ·clear hit
      go_wp2_with fail
      go_roundg l.list.length
      case measure => omega
      case rel => exact ⟨l, al, i, s, rfl, rfl, hn0l, Nat.le_refl _, i1, hs2, gl, hs, hBl, hns, by rw [<- HL.out hk3]; exact HF.out, hWe, hF1⟩
     ·have hsu : i + findL kk n (accF s l) (x :: r.list) + sz = R := by
       have h1 := HR.out (by omega)
       have h2 : i + findL kk n s (l.list ++ x :: r.list) = R := HF.out
       omega
      have hfu : findL kk n (accF s l) (x :: r.list) = if n <= keyF (addF (accF s l) x.sum) kk then 1 else findL kk n (addF (accF s l) x.sum) r.list + 1 := rfl
      rw [hfu] at hsu
      obtain ⟨s2, hs2'⟩ : ∃ s2, accF s l = s2 := ⟨_, rfl⟩
      rw [hs2'] at hF2 oka hBr hsu HG
      have HSU := Lib.hid hsu
      clear hsu hs2' HF HL HR hfu
      go_wp2_with fail
      refine (HC.out _ hWe).mono ?_
      rintro e w2 ⟨rfl, rfl⟩
      clear c0 c1 HC
      obtain ⟨i0, i1', i2', i3, i4, i5, i6⟩ := hit
      simp only [Nat.zero_add, Nat.reduceAdd] at i0 i1' i2' i3 i4 i5 i6
      have f1 := me_add s2
      have f2 := me_measure x.A x.n x.c x.tag x.sum
      simp only [Sums.cells] at f1
      simp only [partC] at f2
      obtain ⟨n0, n1, n2, n3, n4, m0, m1, m2, m3, m4⟩ := sums_facts hF2
      obtain ⟨v0, v1, v2, v3, v4, u0, u1, u2, u3, u4⟩ := sums_facts hF1
      go_upto_region 13 with fail
      go_cut [8, 9, 10] (fun q8 q9 q10 wx => q8 = .int .i64 (i + (sz + 1)) /\ q9 = .pointer (some ⟨b, 0, none⟩) /\ q10 = .pointer (some ⟨g, 0, none⟩) /\ Below w.heap.size w wx /\ Blk wx (w.heap.size + 1) 92 (addF s2 x.sum).cells)
      case first =>
       go_region_with (first | (go_at_call 178; refine (measure_any x.A x.n x.c x.tag x.sum _).mono ?_; rintro e w3 ⟨rfl, hb3⟩; obtain ⟨k0, k1, k2, k3, k4, k5, k6, k7, k8, k9⟩ := sums_facts (hF1.below (bdrew hb3)); obtain ⟨g0, g1, g2, g3, g4, _, _, _, _, _⟩ := sums_facts (hF2.below (bdrew hb3))) | (go_at_call 59; refine (add_any' s2 x.sum _ oka okx).mono ?_; rintro e w4 ⟨rfl, hb4⟩; obtain ⟨j0, j1, j2, j3, j4, j5, j6, j7, j8, j9⟩ := sums_facts (hF1.below (bseq (bdrew hb3) hb4))))
       all_goals
        go_wp2_with fail
        go_meet
        exact ⟨rfl, rfl, rfl, setS_below (s' := addF s2 x.sum) (bseq hWe (bseq (bdrew hb3) hb4)) (by omega), setS_own (hF1.below (bseq (bdrew hb3) hb4))⟩
      case rest =>
       obtain ⟨rfl, rfl, rfl, hWg, hG1⟩ := hcut
       clear i0 i1' i2' i3 i4 i5 i6 f1 f2 n0 n1 n2 n3 n4 m0 m1 m2 m3 m4 v0 v1 v2 v3 v4 u0 u1 u2 u3 u4 hF1 hF2 hWe
       obtain ⟨s3, hs3⟩ : ∃ s3, addF s2 x.sum = s3 := ⟨_, rfl⟩
       rw [hs3] at hG1 HSU hBr HG
       clear hs3
       obtain ⟨n0, n1, n2, n3, n4, m0, m1, m2, m3, m4⟩ := sums_facts hG1
       have f1 := me_key s3
       have hky := key_any s3 kk
       have HK := Lib.hid hky
       clear hky
       obtain ⟨ky2, hky⟩ : ∃ ky, keyF s3 kk = ky := ⟨_, rfl⟩
       have HKY := Lib.hid hky
       rw [hky] at HK HSU
       clear hky
       simp only [Sums.cells] at f1 HK
       go_wp2_with fail
       refine (HK.out _).mono ?_
       rintro e w1 ⟨rfl, hb1⟩
       have hWh := bseq hWg hb1
       have hH1 := hG1.below hb1
       clear n0 n1 n2 n3 n4 m0 m1 m2 m3 m4 f1 HK hG1 hWg
       obtain ⟨c0, c1, hit⟩ := node_facts2 (hb0.below hWh)
       clear hit
       by_cases hk4 : n <= ky2
       ·have he : i + (sz + 1) = R := by have := HSU.out; rw [if_pos hk4] at this; omega
        have HE := Lib.hid he
        clear he
        go_wp2_with fail
        go_ret
        exact ⟨ret_i HE.out, hWh⟩
       ·have he : i + (sz + 1) + findL kk n s3 r.list = R := by have := HSU.out; rw [if_neg hk4] at this; omega
        have HE := Lib.hid he
        clear he
        go_wp2_with fail
        go_roundg r.list.length
        case measure => omega
        case rel => exact ⟨r, ar, i + (sz + 1), s3, rfl, rfl, hn0r, Nat.le_refl _, by omega, by omega, gr, HG.out.1, hBr, by rw [HKY.out]; omega, HE.out, hWh, hH1⟩
structure LstOk (ls : List Pc) : Prop where
 good : AllGood ls
 tot : totB ls <= 2147483648
 len : ls.length <= 1073741824
theorem AllGood.left {a b : List Pc} (h : AllGood (a ++ b)) : AllGood a := fun p hp => h p (List.mem_append_left _ hp)
theorem AllGood.right {a b : List Pc} (h : AllGood (a ++ b)) : AllGood b := fun p hp => h p (List.mem_append_right _ hp)
theorem LstOk.left {a b : List Pc} (h : LstOk (a ++ b)) : LstOk a := by
 have h1 := totB_app a b
 have h2 := totB_nonneg h.good.right
 have h3 := h.tot
 have h4 := h.len
 rw [List.length_append] at h4
 exact ⟨h.good.left, by omega, by omega⟩
theorem LstOk.right {a b : List Pc} (h : LstOk (a ++ b)) : LstOk b := by
 have h1 := totB_app a b
 have h2 := totB_nonneg h.good.left
 have h3 := h.tot
 have h4 := h.len
 rw [List.length_append] at h4
 exact ⟨h.good.right, by omega, by omega⟩
theorem LstOk.tail {x : Pc} {b : List Pc} (h : LstOk (x :: b)) : LstOk b := LstOk.right (a := [x]) h
theorem LstOk.sum {t : Tr} (h : LstOk t.list) : t.sum.ok := by
 obtain ⟨h1, h2⟩ := Tr.sum_good t h.good
 exact h1.ok (by rw [h2]; exact h.tot)
def TrPost (ls : List Pc) (w : World) (e : Ending) (w' : World) : Prop := ∃ t a, e = .returned (.pointer a) /\ NodeAt w' t a /\ t.list = ls /\ Below w.heap.size w w'
theorem of_list (l r : Tr) (al ar : Option Addr) (x : Pc) (w : World) (hl : NodeAt w l al) (hr : NodeAt w r ar) (h : LstOk (l.list ++ x :: r.list)) :
  Calls Tryz.prog 85 #[.pointer al, .agg x.cells, .pointer ar] w fun e w' => TrPost (l.list ++ x :: r.list) w e w' := by
 have h1 := h.left
 have h2 := h.right
 have hx := h2.good x (by simp)
 have h3 := h2.tail
 have hxb : x.sum.bytes <= 2147483648 := by
  have := totB_cons x r.list
  have := totB_nonneg h3.good
  have := h2.tot
  omega
 obtain ⟨g1, g2⟩ := lsum_good l x h1.good hx
 have hlb : totB l.list + x.sum.bytes <= 2147483648 := by
  have e1 := totB_app l.list (x :: r.list)
  have e2 := totB_cons x r.list
  have e3 := totB_nonneg h3.good
  have e4 := h.tot
  omega
 refine (tof_any l r al ar x w hl hr (Tr.small_of h1.len) (Tr.small_of h3.len) (hx.ok hxb) h1.sum h3.sum (g1.ok (by rw [g2]; exact hlb))).mono ?_
 rintro e w' ⟨a, rfl, hn, hb⟩
 exact ⟨_, a, rfl, hn, rfl, hb⟩
end Go.Proofs.YtflhiohjikgedaaGreatDoor
