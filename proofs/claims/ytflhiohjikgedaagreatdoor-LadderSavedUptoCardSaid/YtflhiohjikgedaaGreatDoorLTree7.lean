/-
  The walks of package tree at the pieces, sixth part: Upto. The walks of package tree at the pieces, seventh part: Key, Find.
-/
import Derived.Test.YtflhiohjikgedaaGreatDoorLTree5
set_option linter.unusedSimpArgs false
set_option linter.unusedVariables false
set_option maxRecDepth 100000
set_option maxHeartbeats 32000000
namespace Go.Proofs.YtflhiohjikgedaaGreatDoor
open Go.RowKit
theorem sums_facts {w : World} {b : Nat} {s : Sums} (h : Blk w b 92 s.cells) :
  w.cell? ⟨b, 0, none⟩ = some (.int .i64 s.atoms) /\ w.cell? ⟨b, 1, none⟩ = some (.int .i64 s.bytes) /\ w.cell? ⟨b, 2, none⟩ = some (.int .i64 s.breaks) /\ w.cell? ⟨b, 3, none⟩ = some (.bool s.lf) /\ w.cell? ⟨b, 4, none⟩ = some (.bool s.cr) /\
  w.frozen? ⟨b, 0, none⟩ = false /\ w.frozen? ⟨b, 1, none⟩ = false /\ w.frozen? ⟨b, 2, none⟩ = false /\ w.frozen? ⟨b, 3, none⟩ = false /\ w.frozen? ⟨b, 4, none⟩ = false :=
 ⟨h.cell 0, h.cell 1, h.cell 2, h.cell 3, h.cell 4, h.frozen 0, h.frozen 1, h.frozen 2, h.frozen 3, h.frozen 4⟩
def setS (w : World) (b : Nat) (s : Sums) : World := ((((w.setCell ⟨b, 0, none⟩ (.int .i64 s.atoms)).setCell ⟨b, 1, none⟩ (.int .i64 s.bytes)).setCell ⟨b, 2, none⟩ (.int .i64 s.breaks)).setCell ⟨b, 3, none⟩ (.bool s.lf)).setCell ⟨b, 4, none⟩ (.bool s.cr)
theorem setS_own {w : World} {b : Nat} {s s' : Sums} (h : Blk w b 92 s.cells) : Blk (setS w b s') b 92 s'.cells :=
 ((((h.set_ 0 _).set_ 1 _).set_ 2 _).set_ 3 _).set_ 4 _
theorem setS_far {w : World} {b g : Nat} {T : TypeId} {cs : Array Value} {s' : Sums} (h : Blk w g T cs) (hne : g ≠ b) : Blk (setS w b s') g T cs :=
 ((((h.far (p := ⟨b, 0, none⟩) hne _).far (p := ⟨b, 1, none⟩) hne _).far (p := ⟨b, 2, none⟩) hne _).far (p := ⟨b, 3, none⟩) hne _).far (p := ⟨b, 4, none⟩) hne _
theorem setS_below {w w1 : World} {b : Nat} {s' : Sums} (h : Below w.heap.size w w1) (hb : w.heap.size <= b) : Below w.heap.size w (setS w1 b s') :=
 ((((h.setCell hb _).setCell hb _).setCell hb _).setCell hb _).setCell hb _
def UptoR (S : Sums) (t0 : Tr) (a0 : Option Addr) (W : World) (k : Nat) (q6 q1 : Value) (wr : World) : Prop :=
 ∃ (t : Tr) (a : Option Addr) (j : Int) (s : Sums), q6 = .pointer a /\ q1 = .int .i64 j /\ NodeAt W t a /\ t.list.length <= k /\ t.list.length <= 1073741824 /\ -1073741826 <= j /\ j <= 1073741826 /\
  AllGood t.list /\ s.good /\ s.bytes + totB t.list <= 2147483648 /\ addF s (sumL (t.list.take j.toNat)) = S /\ 
  Below W.heap.size W wr /\ Blk wr (W.heap.size + 1) 92 zeroS.cells /\ Blk wr (W.heap.size + 2) 92 s.cells
theorem upto_any (t : Tr) (a : Option Addr) (i : Int) (w : World) (h : NodeAt w t a) (ht : t.list.length <= 1073741824) (hi : -1073741826 <= i /\ i <= 1073741826) (hg : AllGood t.list) (hB : totB t.list <= 2147483648) :
  Calls Tryz.prog 86 #[.agg #[.pointer a], .int .i64 i] w fun e w' => e = .returned (.agg (sumL (t.list.take i.toNat)).cells) /\ Below w.heap.size w w' := by
 have hsz := Tr.size_list t
 obtain ⟨S, hS⟩ : ∃ S, sumL (t.list.take i.toNat) = S := ⟨_, rfl⟩
 have hmin : (min i t.size).toNat = min i.toNat t.list.length := by omega
 have hS2 : addF zeroS (sumL (t.list.take (min i t.size).toNat)) = S := by
  rw [addF_zero_left, <- hS, hmin, <- List.take_take, List.take_length]
 rw [hS]
 have HS := Lib.hid hS2
 have hm1 : -1073741826 <= min i t.size := by omega
 have hm2 : min i t.size <= 1073741826 := by omega
 clear hS hS2 hmin
 have hW : Below w.heap.size w (((w.alloc (.cells #[.pointer a] 86)).alloc (.cells zeroS.cells 92)).alloc (.cells zeroS.cells 92)) := balloc (balloc (balloc (Below.refl _ w)))
 have hB1 : Blk (((w.alloc (.cells #[.pointer a] 86)).alloc (.cells zeroS.cells 92)).alloc (.cells zeroS.cells 92)) (w.heap.size + 1) 92 zeroS.cells := by
  have := (Blk.new (w.alloc (.cells #[.pointer a] 86)) 92 zeroS.cells).alloc (.cells zeroS.cells 92)
  simpa only [World.size_alloc] using this
 have hB2 : Blk (((w.alloc (.cells #[.pointer a] 86)).alloc (.cells zeroS.cells 92)).alloc (.cells zeroS.cells 92)) (w.heap.size + 2) 92 zeroS.cells := by
  have := Blk.new ((w.alloc (.cells #[.pointer a] 86)).alloc (.cells zeroS.cells 92)) 92 zeroS.cells
  simpa only [World.size_alloc] using this
 have hB0 : Blk (((w.alloc (.cells #[.pointer a] 86)).alloc (.cells zeroS.cells 92)).alloc (.cells zeroS.cells 92)) w.heap.size 86 #[.pointer a] :=
  ((Blk.new w _ _).alloc _).alloc _
 have hc := tsize_any t a _ (NodeAt.below hW t a h)
 have HC := Lib.hid hc
 clear hc hsz
 simp only [zeroS, Sums.cells] at HC
 go_enter Tryz.func86, Tryz.ntmps86
 go_wp2_with fail
 refine (HC.out).mono ?_
 rintro e w1 ⟨rfl, hb1⟩
 have hB01 := hB0.below hb1
 have hB11 := hB1.below hb1
 have hB21 := hB2.below hb1
 have hW1 := bseq hW hb1
 have c0 := hB01.cell 0
 simp at c0
 clear hB0 hB1 hB2 hW
 obtain ⟨m, hm⟩ : ∃ m, min i t.size = m := ⟨_, rfl⟩
 rw [hm] at HS hm1 hm2
 have HM := Lib.hid hm
 clear hm
 go_upto_region 3 with fail
 go_cut [1, 6] (fun q1 q6 wx => q1 = .int .i64 m /\ q6 = .pointer a /\ wx = w1)
 case first =>
  go_wp2_with fail
  all_goals
   go_meet
   refine ⟨?_, rfl, rfl⟩
   have := HM.out
   first | rw [show i = m by omega] | rw [show t.size = m by omega]
 case rest =>
  obtain ⟨rfl, rfl, rfl⟩ := hcut
  go_wp2_with fail
  go_loopg [6, 1] t.list.length (fun k q6 q1 wr => UptoR S t a w k q6 q1 wr)
  case atStart => exact ⟨t, a, m, zeroS, rfl, rfl, h, Nat.le_refl _, ht, hm1, hm2, hg, zeroS_good, by simp only [zeroS]; omega, HS.out, hW1, hB11, hB21⟩
  case round =>
   obtain ⟨t1, a1, j, s, rfl, rfl, hn0, hk, hl1, j1, j2, hg1, hs, hB1, hF, hWr, hC1, hC2⟩ := hrel
   have hn1 := NodeAt.below hWr _ _ hn0
   have HF := Lib.hid hF
   clear hF HS HM HC c0 hB11 hB21 hB01 hb1
   cases t1 with
   | nil =>
    cases hn1
    have e : s = S := by have := HF.out; simp only [Tr.list, List.take_nil, sumL_nil] at this; rwa [addF_zero_right hs] at this
    subst e
    obtain ⟨n0, n1, n2, n3, n4, m0, m1, m2, m3, m4⟩ := sums_facts hC2
    obtain ⟨z0, z1, z2, z3, z4, y0, y1, y2, y3, y4⟩ := sums_facts hC1
    go_wp2_with fail
    refine bodyPost_ret (v := .agg s.cells) (by simp [results, Tryz.results86, go_sem, Sums.cells, z0, z1, z2, z3, z4]) rfl ⟨rfl, ?_⟩
    exact setS_below (s' := s) hWr (Nat.le_succ _)
   | node l x r =>
    by_cases hj : j <= 0
    ·have e : s = S := by have := HF.out; rw [show j.toNat = 0 by omega, List.take_zero, sumL_nil, addF_zero_right hs] at this; exact this
     subst e
     obtain ⟨b, al, ar, rfl, hb, hnl, hnr⟩ := hn1
     obtain ⟨n0, n1, n2, n3, n4, m0, m1, m2, m3, m4⟩ := sums_facts hC2
     obtain ⟨z0, z1, z2, z3, z4, y0, y1, y2, y3, y4⟩ := sums_facts hC1
     go_wp2_with fail
     refine bodyPost_ret (v := .agg s.cells) (by simp [results, Tryz.results86, go_sem, Sums.cells, z0, z1, z2, z3, z4]) rfl ⟨rfl, ?_⟩
     exact setS_below (s' := s) hWr (Nat.le_succ _)
    ·have hls := Tr.size_list l
     have hlist : (Tr.node l x r).list.length = l.list.length + r.list.length + 1 := by simp only [Tr.list, List.length_append, List.length_cons]; omega
     have htot : totB (Tr.node l x r).list = totB l.list + (x.sum.bytes + totB r.list) := by rw [Tr.list, totB_app, totB_cons]
     have gl := Tr.good_l hg1
     have gr := Tr.good_r hg1
     have gx := Tr.good_x hg1
     have tl := totB_nonneg gl
     have tr := totB_nonneg gr
     have tx : 0 <= x.sum.bytes := by obtain ⟨p1, p2, p3, _⟩ := gx; omega
     have ts : 0 <= s.bytes := by obtain ⟨p1, p2, p3, _⟩ := hs; omega
     clear hn1
     obtain ⟨b, al, ar, rfl, hb0, hn0l, hn0r⟩ := hn0
     have hb := hb0.below hWr
     have hnl := NodeAt.below hWr _ _ hn0l
     obtain ⟨c0, c1, hit⟩ := node_facts2 hb
     obtain ⟨sz, hsz⟩ : ∃ s, l.size = s := ⟨_, rfl⟩
     have hcnt := count_any l al _ hnl
     have hleft := upto_left l x r j
     have hright := upto_step hs (j := j) hg1
     rw [hsz] at hcnt hls
     rw [<- hls] at hleft hright
     have hs0 : 0 <= sz := by omega
     have hs1 : sz <= 1073741824 := by omega
     have hk1 := show l.list.length < _ from Nat.lt_of_lt_of_le (by omega) hk
     have hk2 := show r.list.length < _ from Nat.lt_of_lt_of_le (by omega) hk
     have hl2 : l.list.length <= 1073741824 := by omega
     have hr2 : r.list.length <= 1073741824 := by omega
     have hBl : s.bytes + totB l.list <= 2147483648 := by omega
     have gac : (accF s l).good /\ (accF s l).bytes = s.bytes + totB l.list := by
      rw [accF_eq hs l gl]
      have := addF_good hs (sumL_good gl).1
      exact ⟨this.1, by rw [this.2.2, (sumL_good gl).2]⟩
     have okx : x.sum.ok := gx.ok (by omega)
     have oks : s.ok := hs.ok (by omega)
     have okl : l.sum.ok := (Tr.sum_good l gl).1.ok (by rw [(Tr.sum_good l gl).2]; omega)
     have oka : (accF s l).ok := gac.1.ok (by omega)
     have gnx := addF_good gac.1 gx
     have hBr : (addF (accF s l) x.sum).bytes + totB r.list <= 2147483648 := by omega
     have HC := Lib.hid hcnt
     have HL := Lib.hid hleft
     have HR := Lib.hid hright
     have HG := Lib.hid gnx
     clear hcnt hsz hls hlist hk hl1 hleft hright htot gac gnx
     have hj' : 0 < j := by omega
     by_cases hjs : j <= sz
     ·go_wp2_with fail
      refine (HC.out).mono ?_
      rintro e w1 ⟨rfl, rfl⟩
      go_wp2_with fail
      go_roundg l.list.length
      case measure => omega
      case rel => exact ⟨l, al, j, s, rfl, rfl, hn0l, Nat.le_refl _, hl2, j1, j2, gl, hs, hBl, by rw [<- HL.out hjs]; exact HF.out, hWr, hC1, hC2⟩
     ·have hjs' : sz < j := by omega
      go_wp2_with fail
      refine (HC.out).mono ?_
      rintro e w1 ⟨rfl, rfl⟩
      go_upto_if 36 with fail
      go_cut [1, 6, 7] (fun q1 q6 q7 wx => q1 = .int .i64 j /\ q6 = .pointer (some ⟨b, 0, none⟩) /\ q7 = .int .i64 sz /\ Below w.heap.size w wx /\ Blk wx (w.heap.size + 1) 92 zeroS.cells /\ Blk wx (w.heap.size + 2) 92 (accF s l).cells)
      case first =>
       cases l with
       | nil =>
        cases hnl
        go_wp2_with fail
        go_meet
        exact ⟨rfl, rfl, rfl, hWr, hC1, hC2⟩
       | node la lx lr =>
        obtain ⟨bl, al', ar', rfl, hbl, _, _⟩ := hnl
        obtain ⟨p0, p1, p2, p3, p4, _, _, _, _, _⟩ := node_facts hbl
        obtain ⟨n0, n1, n2, n3, n4, m0, m1, m2, m3, m4⟩ := sums_facts hC2
        have hac : accF s (.node la lx lr) = addF s (Tr.node la lx lr).sum := rfl
        obtain ⟨sl, hsl⟩ : ∃ s, (Tr.node la lx lr).sum = s := ⟨_, rfl⟩
        rw [hsl] at p0 p1 p2 p3 p4 okl hac
        have HAC := Lib.hid hac
        have f1 := me_add s
        simp only [Sums.cells] at f1
        have hC22 := hC2
        clear hac hsl hC2
        go_wp2_with fail
        go_region_with (first | (go_at_call 59; refine (add_any' s sl _ oks okl).mono ?_; rintro e w4 ⟨rfl, hb4⟩; obtain ⟨j0, j1, j2, j3, j4, j5, j6, j7, j8, j9⟩ := sums_facts (hC22.below (bdrew hb4))))
        all_goals
         go_wp2_with fail
         go_meet
         refine ⟨rfl, rfl, rfl, setS_below (s' := addF s sl) (bseq hWr (bdrew hb4)) (by omega), setS_far (s' := addF s sl) (hC1.below (bdrew hb4)) (by omega), ?_⟩
         rw [HAC.out]
         exact setS_own (hC22.below (bdrew hb4))
      case rest =>
       obtain ⟨rfl, rfl, rfl, hWc, hD1, hD2⟩ := hcut
       have hbc := hb0.below hWc
       obtain ⟨c0, c1, hit⟩ := node_facts2 hbc
       obtain ⟨i0, i1, i2, i3, i4, i5, i6⟩ := hit
       have hright := HR.out hjs'
       obtain ⟨s2, hs2⟩ : ∃ s2, accF s l = s2 := ⟨_, rfl⟩
       rw [hs2] at hD2 oka hBr hright HG
       have HR2 := Lib.hid hright
       have f1 := me_add s2
       have f2 := me_measure x.A x.n x.c x.tag x.sum
       simp only [Sums.cells] at f1
       simp only [partC] at f2
       obtain ⟨n0, n1, n2, n3, n4, m0, m1, m2, m3, m4⟩ := sums_facts hD2
       clear hs2 hright hC1 hC2 hWr HC HL HR hnl hb
       simp only [Nat.zero_add, Nat.reduceAdd] at i0 i1 i2 i3 i4 i5 i6
       go_upto_region 10 with fail
       go_cut [1, 6, 7] (fun q1 q6 q7 wx => q1 = .int .i64 j /\ q6 = .pointer (some ⟨b, 0, none⟩) /\ q7 = .int .i64 sz /\ Below w.heap.size w wx /\ Blk wx (w.heap.size + 1) 92 zeroS.cells /\ Blk wx (w.heap.size + 2) 92 (addF s2 x.sum).cells)
       case first =>
        go_region_with (first | (go_at_call 178; refine (measure_any x.A x.n x.c x.tag x.sum _).mono ?_; rintro e w3 ⟨rfl, hb3⟩; obtain ⟨k0, k1, k2, k3, k4, k5, k6, k7, k8, k9⟩ := sums_facts (hD2.below (bdrew hb3))) | (go_at_call 59; refine (add_any' s2 x.sum _ oka okx).mono ?_; rintro e w4 ⟨rfl, hb4⟩; obtain ⟨j0, j1, j2, j3, j4, j5, j6, j7, j8, j9⟩ := sums_facts (hD2.below (bseq (bdrew hb3) hb4))))
        all_goals
         go_wp2_with fail
         go_meet
         exact ⟨rfl, rfl, rfl, setS_below (s' := addF s2 x.sum) (bseq hWc (bseq (bdrew hb3) hb4)) (by omega), setS_far (s' := addF s2 x.sum) (hD1.below (bseq (bdrew hb3) hb4)) (by omega), setS_own (hD2.below (bseq (bdrew hb3) hb4))⟩
       case rest =>
        obtain ⟨rfl, rfl, rfl, hWe, hE1, hE2⟩ := hcut
        clear i0 i1 i2 i3 i4 i5 i6 c0 c1 f1 f2 n0 n1 n2 n3 n4 m0 m1 m2 m3 m4 hD1 hD2 hWc hbc
        obtain ⟨c0, c1, _⟩ := node_facts2 (hb0.below hWe)
        go_wp2_with fail
        go_roundg r.list.length
        case measure => omega
        case rel => exact ⟨r, ar, j - sz - 1, addF s2 x.sum, rfl, rfl, hn0r, Nat.le_refl _, hr2, by omega, by omega, gr, HG.out.1, hBr, by rw [HR2.out]; exact HF.out, hWe, hE1, hE2⟩
def keyF (s : Sums) (k : Int) : Int := if k = 0 then s.atoms else if k = 1 then s.breaks else 0
theorem key_any (s : Sums) (k : Int) (w : World) :
  Calls Tryz.prog 177 #[.agg s.cells, .int .i64 k] w fun e w' => e = .returned (.int .i64 (keyF s k)) /\ Below w.heap.size w w' := by
 simp only [Sums.cells]
 have hW : Below w.heap.size w (w.alloc (.cells #[.int .i64 s.atoms, .int .i64 s.bytes, .int .i64 s.breaks, .bool s.lf, .bool s.cr] 92)) := balloc (Below.refl _ _)
 have hr : ∀ v, v = keyF s k -> Ending.returned (.int .i64 v) = .returned (.int .i64 (keyF s k)) := fun v h => by rw [h]
 by_cases h0 : k = 0
 ·have e : s.atoms = keyF s k := by unfold keyF; rw [if_pos h0]
  have HE := Lib.hid e
  have q : (k == 0) = true := by rw [beq_iff_eq]; exact h0
  clear e h0
  go_enter Tryz.func177, Tryz.ntmps177
  go_wp2_with fail
  go_ret
  exact ⟨hr _ HE.out, hW⟩
 ·have q0 : (k == 0) = false := by rw [beq_eq_false_iff_ne]; exact h0
  by_cases h1 : k = 1
  ·have e : s.breaks = keyF s k := by unfold keyF; rw [if_neg h0, if_pos h1]
   have HE := Lib.hid e
   have q : (k == 1) = true := by rw [beq_iff_eq]; exact h1
   clear e h0 h1
   go_enter Tryz.func177, Tryz.ntmps177
   go_wp2_with fail
   go_ret
   exact ⟨hr _ HE.out, hW⟩
  ·have e : 0 = keyF s k := by unfold keyF; rw [if_neg h0, if_neg h1]
   have HE := Lib.hid e
   have q : (k == 1) = false := by rw [beq_eq_false_iff_ne]; exact h1
   clear e h0 h1
   go_enter Tryz.func177, Tryz.ntmps177
   go_wp2_with fail
   go_ret
   exact ⟨hr _ HE.out, hW⟩
theorem me_key (s : Sums) (w : World) : (method 373 92 (.agg s.cells) "Key").run Tryz.prog w = .ok (177, .agg s.cells) w := by kernel_rfl
theorem keyF_mono {a b : Sums} (ha : a.good) (hb : b.good) (k : Int) : keyF a k <= keyF (addF a b) k := by
 obtain ⟨a1, a2, a3, a4, a5, a6⟩ := ha
 obtain ⟨b1, b2, b3, b4, b5, b6⟩ := hb
 by_cases h1 : a.atoms = 0
 ·have e := a4 h1
  rw [e, addF_zero_left]
  unfold keyF
  simp only [zeroS]
  split
  ·omega
  ·split <;> omega
 ·by_cases h2 : b.atoms = 0
  ·have e : addF a b = a := by unfold addF; rw [if_neg h1, if_pos h2]
   rw [e]
   exact Int.le_refl _
  ·rw [addF_nz h1 h2]
   unfold keyF
   dsimp only
   split
   ·omega
   ·split
    ·split
     ·rename_i hc
      simp only [Bool.and_eq_true] at hc
      have := b5 hc.2
      omega
     ·omega
    ·omega
def findL (k n : Int) : Sums -> List Pc -> Int
 | _, [] => 1
 | s, p :: ps => if n <= keyF (addF s p.sum) k then 1 else findL k n (addF s p.sum) ps + 1
theorem findL_left (k n : Int) (m : List Pc) : ∀ (l : List Pc) (s : Sums), s.good -> AllGood l -> ¬ n <= keyF s k -> n <= keyF (addF s (sumL l)) k -> findL k n s (l ++ m) = findL k n s l
 | [], s, hs, _, h1, h2 => by rw [sumL_nil, addF_zero_right hs] at h2; exact absurd h2 h1
 | p :: l, s, hs, hl, h1, h2 => by
  have hp := hl p List.mem_cons_self
  have hl' : AllGood l := fun q hq => hl q (List.mem_cons_of_mem _ hq)
  rw [List.cons_append]
  unfold findL
  split
  ·rfl
  ·rename_i h3
   rw [findL_left k n m l (addF s p.sum) (addF_good hs hp).1 hl' h3 (by rw [addF_assoc hs hp (sumL_good hl').1]; exact h2)]
theorem findL_right (k n : Int) (m : List Pc) : ∀ (l : List Pc) (s : Sums), s.good -> AllGood l -> ¬ n <= keyF (addF s (sumL l)) k -> findL k n s (l ++ m) = findL k n (addF s (sumL l)) m + l.length
 | [], s, hs, _, h2 => by rw [sumL_nil, addF_zero_right hs]; simp
 | p :: l, s, hs, hl, h2 => by
  have hp := hl p List.mem_cons_self
  have hl' : AllGood l := fun q hq => hl q (List.mem_cons_of_mem _ hq)
  have e : addF (addF s p.sum) (sumL l) = addF s (sumL (p :: l)) := by rw [sumL_cons, addF_assoc hs hp (sumL_good hl').1]
  have hm := keyF_mono (addF_good hs hp).1 (sumL_good hl').1 k
  rw [e] at hm
  rw [List.cons_append]
  rw [show findL k n s (p :: (l ++ m)) = if n <= keyF (addF s p.sum) k then 1 else findL k n (addF s p.sum) (l ++ m) + 1 from rfl]
  rw [if_neg (by omega), findL_right k n m l (addF s p.sum) (addF_good hs hp).1 hl' (by rw [e]; exact h2), e, List.length_cons]
  omega
end Go.Proofs.YtflhiohjikgedaaGreatDoor
