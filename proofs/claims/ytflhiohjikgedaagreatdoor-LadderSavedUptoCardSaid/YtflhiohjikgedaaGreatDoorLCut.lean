/-
  The walks of package piece: cut.
-/
import Derived.Test.YtflhiohjikgedaaGreatDoorLOpenLaw
import Derived.Test.YtflhiohjikgedaaGreatDoorLRound
set_option linter.unusedSimpArgs false
set_option linter.unusedVariables false
set_option maxRecDepth 100000
set_option maxHeartbeats 32000000
namespace Go.Proofs.YtflhiohjikgedaaGreatDoor
open Go.RowKit
def zeroC : Array Value := partC none 0 0 0 zeroS
def CutR (enc : Int) (B : List Int) (N : Nat) (cs : Array Value) (P : Int) (w : World) (k : Nat) (q2 q8 : Value) (wr : World) : Prop :=
 ∃ (m : Int) (p : Nat), q2 = .int .i64 m /\ q8 = .int .i64 (p : Int) /\ p + szs enc (B.drop p) m.toNat = P /\ p <= N /\ N - p <= k /\ -2147483648 <= m /\ m <= 2147483648 /\
  Below w.heap.size w wr /\ Blk wr w.heap.size 94 cs /\ Blk wr (w.heap.size + 1) 94 zeroC /\ Blk wr (w.heap.size + 2) 94 zeroC
theorem part_facts {w : World} {b : Nat} {A : Option Addr} {n c : Nat} {tag : Int} {s : Sums} (h : Blk w b 94 (partC A n c tag s)) :
  (w.cell? ⟨b, 0, none⟩ = some (.slice A n c) /\ w.cell? ⟨b, 1, none⟩ = some (.int .i64 tag) /\ w.cell? ⟨b, 2, none⟩ = some (.int .i64 s.atoms) /\ w.cell? ⟨b, 3, none⟩ = some (.int .i64 s.bytes) /\ w.cell? ⟨b, 4, none⟩ = some (.int .i64 s.breaks) /\ w.cell? ⟨b, 5, none⟩ = some (.bool s.lf) /\ w.cell? ⟨b, 6, none⟩ = some (.bool s.cr)) /\
  w.frozen? ⟨b, 0, none⟩ = false /\ w.frozen? ⟨b, 1, none⟩ = false /\ w.frozen? ⟨b, 2, none⟩ = false /\ w.frozen? ⟨b, 3, none⟩ = false /\ w.frozen? ⟨b, 4, none⟩ = false /\ w.frozen? ⟨b, 5, none⟩ = false /\ w.frozen? ⟨b, 6, none⟩ = false :=
 ⟨⟨h.cell 0, h.cell 1, h.cell 2, h.cell 3, h.cell 4, h.cell 5, h.cell 6⟩, h.frozen 0, h.frozen 1, h.frozen 2, h.frozen 3, h.frozen 4, h.frozen 5, h.frozen 6⟩
theorem keep2set {w : World} {p q r : Addr} {u v x : Value} (h1 : p.block ≠ r.block) (h2 : q.block ≠ r.block) (h : w.cell? p = some u /\ w.cell? q = some v) : (w.setCell r x).cell? p = some u /\ (w.setCell r x).cell? q = some v :=
 ⟨(World.cell?_of_block (w := w) (Below.heap_setCell w r x p.block h1)).trans h.1, (World.cell?_of_block (w := w) (Below.heap_setCell w r x q.block h2)).trans h.2⟩
def setP (w : World) (b : Nat) (A : Option Addr) (n c : Nat) (tag : Int) (s : Sums) : World :=
 ((((((w.setCell ⟨b, 0, none⟩ (.slice A n c)).setCell ⟨b, 1, none⟩ (.int .i64 tag)).setCell ⟨b, 2, none⟩ (.int .i64 s.atoms)).setCell ⟨b, 3, none⟩ (.int .i64 s.bytes)).setCell ⟨b, 4, none⟩ (.int .i64 s.breaks)).setCell ⟨b, 5, none⟩ (.bool s.lf)).setCell ⟨b, 6, none⟩ (.bool s.cr)
section
variable {w w1 : World} {b g : Nat} {A A' : Option Addr} {n c n' c' : Nat} {tag tag' : Int} {s s' : Sums} {T : TypeId} {cs : Array Value}
theorem setP_own (h : Blk w b 94 (partC A' n' c' tag' s')) : Blk (setP w b A n c tag s) b 94 (partC A n c tag s) :=
 (((((((h.set_ 0 (.slice A n c)).set_ 1 (.int .i64 tag)).set_ 2 (.int .i64 s.atoms)).set_ 3 (.int .i64 s.bytes)).set_ 4 (.int .i64 s.breaks)).set_ 5 (.bool s.lf)).set_ 6 (.bool s.cr)).eq_ (by simp [partC])
theorem setP_far (h : Blk w g T cs) (hne : g ≠ b) : Blk (setP w b A n c tag s) g T cs :=
 ((((((h.far (p := ⟨b, 0, none⟩) hne _).far (p := ⟨b, 1, none⟩) hne _).far (p := ⟨b, 2, none⟩) hne _).far (p := ⟨b, 3, none⟩) hne _).far (p := ⟨b, 4, none⟩) hne _).far (p := ⟨b, 5, none⟩) hne _).far (p := ⟨b, 6, none⟩) hne _
theorem setP_below (h : Below w.heap.size w w1) (hb : w.heap.size <= b) : Below w.heap.size w (setP w1 b A n c tag s) :=
 ((((((h.setCell hb _).setCell hb _).setCell hb _).setCell hb _).setCell hb _).setCell hb _).setCell hb _
end
def CutV (enc : Int) (x : Pc) (n : Int) : Value :=
 .tuple #[.agg (partC x.A (szs enc x.bytes n.toNat).toNat (szs enc x.bytes n.toNat).toNat x.tag (sumsOf ((dec enc x.bytes).take n.toNat))),
  .agg (partC (if x.c = (szs enc x.bytes n.toNat).toNat then x.A else x.A.map (·.add (szs enc x.bytes n.toNat).toNat)) (x.n - (szs enc x.bytes n.toNat).toNat) (x.c - (szs enc x.bytes n.toNat).toNat) (if 0 <= x.tag then x.tag + szs enc x.bytes n.toNat else x.tag) (sumsOf ((dec enc x.bytes).drop n.toNat)))]
theorem cut_any0 (V : Value) (enc : Int) (D : Nat -> Prop) (x : Pc) (n : Int) (w : World) (hV : CutV enc x n = V) (he : enc = 1 \/ enc = 2 \/ enc = 3 \/ enc = 4) (hx : PcOk enc x) (hl : Bts w D x.A x.n x.bytes) (n0 : -2147483648 <= n) (n1 : n <= 2147483648) :
  Calls Tryz.prog 66 #[.agg x.cells, .int .i64 enc, .int .i64 n] w fun e w' => e = .returned V /\ Below w.heap.size w w' := by
 obtain ⟨xA, xN, xC, xT, xS, xB⟩ := x
 obtain ⟨xb, xl, xp, xn, xc, xt0, xt1, xsum⟩ := hx
 clear xsum
 unfold CutV at hV
 dsimp only at hV hl xb xl xp xn xc xt0 xt1 ⊢
 have hbd := szs_bd enc n.toNat xB
 have hdt := dec_take enc n.toNat xB
 have hdd := dec_drop enc n.toNat xB
 rw [<- hdt, <- hdd] at hV
 clear hdt hdd
 obtain ⟨P, hP⟩ : ∃ P, szs enc xB n.toNat = P := ⟨_, rfl⟩
 rw [hP] at hbd hV
 obtain ⟨tg, htg⟩ : ∃ tg : Int, (if 0 <= xT then xT + P else xT) = tg := ⟨_, rfl⟩
 rw [htg] at hV
 have HV := Lib.hid hV
 have HTG := Lib.hid htg
 have HP := Lib.hid hP
 have HXL := Lib.hid xl
 clear hP xl htg hV
 simp only [Pc.cells, partC]
 go_enter Tryz.func66, Tryz.ntmps66
 go_wp2_with fail
 go_loopg [2, 8] xN (fun k q2 q8 wr => CutR enc xB xN (partC xA xN xC xT xS) P w k q2 q8 wr)
 case atStart =>
  refine ⟨n, 0, rfl, rfl, by rw [List.drop_zero, HP.out]; simp, Nat.zero_le _, Nat.le_refl _, n0, n1, ?_, ?_, ?_, ?_⟩
  ·repeat (first | exact Below.refl _ _ | apply balloc)
  ·exact ((Blk.new w _ _).alloc _).alloc _
  ·have := (Blk.new (w.alloc (.cells (partC xA xN xC xT xS) 94)) 94 zeroC).alloc (.cells zeroC 94)
   simp only [World.size_alloc] at this
   exact this
  ·have := Blk.new ((w.alloc (.cells (partC xA xN xC xT xS) 94)).alloc (.cells zeroC 94)) 94 zeroC
   simp only [World.size_alloc] at this
   exact this
 case round =>
  obtain ⟨m, p, rfl, rfl, hp1, hp2, hk, m0, m1, hW, b3, b6, b7⟩ := hrel
  have HP1 := Lib.hid hp1
  have hl1 := Reads.below hl hW
  have c0 := b3.cell 0
  have c1 := b3.cell 1
  simp [Pc.cells, partC] at c0 c1
  clear hp1
  by_cases hgo : 0 < m /\ p < xN
  ·obtain ⟨hm, hlt⟩ := hgo
   have hz := sizeAt_bd enc (xB.drop p) (by rw [List.length_drop]; have := HXL.out; omega)
   rw [List.length_drop, HXL.out] at hz
   obtain ⟨z, hzz⟩ : ∃ z : Nat, sizeAt enc (xB.drop p) = (z : Int) := ⟨(sizeAt enc (xB.drop p)).toNat, by omega⟩
   have hsz : szs enc (xB.drop p) m.toNat = z + szs enc (xB.drop (p + z)) (m - 1).toNat := by
    rw [show m.toNat = (m - 1).toNat + 1 by omega, szs_succ enc _ _ (by rw [List.length_drop]; have := HXL.out; omega), hzz, List.drop_drop, Int.toNat_natCast]
   have hcn := cnext_any enc D xA xN xC p xB wr he hl1 xb (by omega) xc hlt
   obtain ⟨at_, hat⟩ : ∃ a, atomAt enc (xB.drop p) = a := ⟨_, rfl⟩
   rw [hzz, hat] at hcn
   rw [hzz] at hz
   have HC := Lib.hid hcn
   have HS := Lib.hid hsz
   have hmt : decide (0 < m) = true := by simpa using hm
   clear hcn hsz hzz hat
   go_wp2_with fail
   refine (HC.out).mono ?_
   rintro e w1 ⟨rfl, hb1⟩
   go_wp2_with fail
   go_roundg (xN - (p + z))
   case measure => omega
   case rel => exact ⟨m - 1, p + z, rfl, by go_num, by rw [<- HP1.out, HS.out]; omega, by omega, by omega, by omega, by omega, bseq hW hb1, b3.below hb1, b6.below hb1, b7.below hb1⟩
  ·have hP : (p : Int) = P := by
    rw [<- HP1.out]
    by_cases hm : 0 < m
    ·rw [List.drop_eq_nil_of_le (by have := HXL.out; omega), szs_nil]; omega
    ·rw [show m.toNat = 0 by omega, szs_zero]; omega
   obtain rfl : P = (p : Int) := hP.symm
   have hl1' := hl1
   clear HP HP1 hbd hP
   clear hl
   go_upto_region 2 with fail
   go_cut [20] (fun q wx => q = .bool false /\ wx = wr)
   case first =>
    by_cases hm : 0 < m
    ·have hmt : decide (0 < m) = true := by simpa using hm
     have hpn : xN <= p := by omega
     go_wp2_with fail
     go_meet
     exact ⟨by rw [show decide (p < xN) = false from by simpa using hpn], rfl⟩
    ·have hmt : decide (0 < m) = false := by simpa using hm
     go_wp2_with fail
     go_meet
     exact ⟨rfl, rfl⟩
   case rest =>
    obtain ⟨rfl, rfl⟩ := hcut
    go_upto_if 37 with fail
    go_cut [11] (fun q wx => q = .int .i64 tg /\ wx = wc)
    case first =>
     by_cases ht : 0 <= xT
     ·have := HTG.out
      rw [if_pos ht] at this
      subst this
      clear HTG
      go_wp2_with fail
      go_meet
      exact ⟨rfl, rfl⟩
     ·have := HTG.out
      rw [if_neg ht] at this
      subst this
      clear HTG
      go_wp2_with fail
      go_meet
      exact ⟨rfl, rfl⟩
    case rest =>
     obtain ⟨rfl, rfl⟩ := hcut
     obtain ⟨b, off, hA, _, _⟩ := Reads.form hl1 xp (by decide)
     have hadd : (⟨b, off, none⟩ : Addr).add p = ⟨b, off + p, none⟩ := by
      unfold Addr.add
      split
      ·rename_i h; rw [h]; rfl
      ·rfl
     have hn1 := fun (wy : World) (hy : Below wc.heap.size wc wy) => newPart_any enc D (some ⟨b, off, none⟩) p p xT (xB.take p) wy he (by
      have := Reads.below (Reads.take hl1 hp2) hy
      rw [Nat.mul_one, <- List.map_take, hA] at this
      exact this) (xb.take p) (by omega) (Nat.le_refl _)
     have hn2 := fun (wy : World) (hy : Below wc.heap.size wc wy) => newPart_any enc D (if xC = p then some ⟨b, off, none⟩ else some ⟨b, off + p, none⟩) (xN - p) (xC - p) tg (xB.drop p) wy he (by
      have := Reads.below (Reads.cut hl1 hp2 xc) hy
      rw [Nat.mul_one, <- List.map_drop, hA, Option.map_some, hadd] at this
      exact this) (xb.drop p) (by omega) (by omega)
     have hA2 : (if xC = p then xA else xA.map (·.add p)) = if xC = p then some ⟨b, off, none⟩ else some ⟨b, off + p, none⟩ := by
      rw [hA, Option.map_some, hadd]
     rw [hA] at c0
     obtain ⟨S1, hS1⟩ : ∃ S, sumsOf (dec enc (xB.take p)) = S := ⟨_, rfl⟩
     obtain ⟨S2, hS2⟩ : ∃ S, sumsOf (dec enc (xB.drop p)) = S := ⟨_, rfl⟩
     rw [hS1] at hn1
     rw [hS2] at hn2
     simp only [partC] at hn1 hn2
     have HA := Lib.hid hA
     have HA2 := Lib.hid hA2
     have HS1 := Lib.hid hS1
     have HS2 := Lib.hid hS2
     have HN1 := Lib.hid hn1
     have q0 : (0 : Int) <= (p : Int) := by omega
     have q1 : (p : Int) <= (xN : Int) := by omega
     have q2 : (p : Int) <= (xC : Int) := by omega
     have q3 : (xN : Int) <= (xC : Int) := by omega
     clear hA hA2 hn1 hgo hp2 xc hadd hl1 hl1' hS1 hS2
     by_cases hcp : xC = p
     ·have hnp : xN = p := by omega
      subst hcp
      subst hnp
      rw [if_pos rfl, Nat.sub_self] at hn2
      have HN2 := Lib.hid hn2
      clear hn2
      go_upto_region 9 with fail
      have s0 : wc.drew.cell? ⟨w.heap.size, 0, none⟩ = some (.slice (some ⟨b, off, none⟩) xN xN) /\ wc.drew.cell? ⟨w.heap.size, 1, none⟩ = some (.int .i64 xT) := ⟨c0, c1⟩
      go_region_held3 (fun w' => w'.cell? ⟨w.heap.size, 0, none⟩ = some (.slice (some ⟨b, off, none⟩) xN xN) /\ w'.cell? ⟨w.heap.size, 1, none⟩ = some (.int .i64 xT)) (first | ((repeat (with_reducible refine keep2set (by dsimp only; omega) (by dsimp only; omega) ?_)); with_reducible assumption)) (first | (go_at_call_of 34 (Value.slice (some ⟨b, off, none⟩) xN xN); refine (HN1.out _ (Below.drew (Below.refl _ _))).mono ?_; rintro e w1 ⟨rfl, hb1⟩; have s1 := keep2 (bdrew hb1) ⟨c0, c1⟩) | (go_at_call 34; refine (HN2.out _ (bdrew hb1)).mono ?_; rintro e w2 ⟨rfl, hb2⟩; have s2 := keep2 (bseq (bdrew hb1) hb2) ⟨c0, c1⟩; obtain ⟨⟨g0, g1, g2, g3, g4, g5, g6⟩, v0, v1, v2, v3, v4, v5, v6⟩ := part_facts (b6.below (bseq (bdrew hb1) hb2)); obtain ⟨⟨j0, j1, j2, j3, j4, j5, j6⟩, u0, u1, u2, u3, u4, u5, u6⟩ := part_facts (b7.below (bseq (bdrew hb1) hb2))))
      all_goals
       change Exit.then _ _ Exit.normal _ (setP (setP w2 (w.heap.size + 1) (some ⟨b, off, none⟩) xN xN xT S1) (w.heap.size + 1 + 1) (some ⟨b, off, none⟩) 0 0 tg S2)
       have B6 := setP_far (A := (some ⟨b, off, none⟩)) (n := 0) (c := 0) (tag := tg) (s := S2) (b := w.heap.size + 1 + 1) (setP_own (A := some ⟨b, off, none⟩) (n := xN) (c := xN) (tag := xT) (s := S1) (b6.below (bseq (bdrew hb1) hb2))) (by omega)
       have B7 := setP_own (A := (some ⟨b, off, none⟩)) (n := 0) (c := 0) (tag := tg) (s := S2) (setP_far (A := some ⟨b, off, none⟩) (n := xN) (c := xN) (tag := xT) (s := S1) (b := w.heap.size + 1) (b7.below (bseq (bdrew hb1) hb2)) (by omega))
       have BW := setP_below (A := (some ⟨b, off, none⟩)) (n := 0) (c := 0) (tag := tg) (s := S2) (b := w.heap.size + 1 + 1) (setP_below (A := some ⟨b, off, none⟩) (n := xN) (c := xN) (tag := xT) (s := S1) (b := w.heap.size + 1) (bseq hW (bseq (bdrew hb1) hb2)) (by omega)) (by omega)
       generalize setP (setP w2 (w.heap.size + 1) (some ⟨b, off, none⟩) xN xN xT S1) (w.heap.size + 1 + 1) (some ⟨b, off, none⟩) 0 0 tg S2 = W' at B6 B7 BW ⊢
       clear g0 g1 g2 g3 g4 g5 g6 v0 v1 v2 v3 v4 v5 v6 j0 j1 j2 j3 j4 j5 j6 u0 u1 u2 u3 u4 u5 u6 s0 s1 s2 c0 c1 b3 b6 b7 hb1 hb2 HN1 HN2 hW q0 q1 q2 q3
       obtain ⟨⟨g0, g1, g2, g3, g4, g5, g6⟩, _⟩ := part_facts B6
       obtain ⟨⟨j0, j1, j2, j3, j4, j5, j6⟩, _⟩ := part_facts B7
       go_wp2_with fail
       refine bodyPost_ret (v := .tuple #[.agg #[.slice (some ⟨b, off, none⟩) xN xN, .int .i64 xT, .int .i64 S1.atoms, .int .i64 S1.bytes, .int .i64 S1.breaks, .bool S1.lf, .bool S1.cr], .agg #[.slice (some ⟨b, off, none⟩) 0 0, .int .i64 tg, .int .i64 S2.atoms, .int .i64 S2.bytes, .int .i64 S2.breaks, .bool S2.lf, .bool S2.cr]]) (by simp [results, Tryz.results66, go_sem, g0, g1, g2, g3, g4, g5, g6, j0, j1, j2, j3, j4, j5, j6]) rfl ⟨?_, BW⟩
       rw [<- HV.out, Int.toNat_natCast, if_pos rfl, HA.out, HS1.out, HS2.out, Nat.sub_self]
       rfl
     ·rw [if_neg hcp] at hn2
      have HN2 := Lib.hid hn2
      have HCP := Lib.hid hcp
      clear hn2 hcp
      go_upto_region 9 with fail
      have s0 : wc.drew.cell? ⟨w.heap.size, 0, none⟩ = some (.slice (some ⟨b, off, none⟩) xN xC) /\ wc.drew.cell? ⟨w.heap.size, 1, none⟩ = some (.int .i64 xT) := ⟨c0, c1⟩
      go_region_held3 (fun w' => w'.cell? ⟨w.heap.size, 0, none⟩ = some (.slice (some ⟨b, off, none⟩) xN xC) /\ w'.cell? ⟨w.heap.size, 1, none⟩ = some (.int .i64 xT)) (first | ((repeat (with_reducible refine keep2set (by dsimp only; omega) (by dsimp only; omega) ?_)); with_reducible assumption)) (first | (go_at_call_of 34 (Value.slice (some ⟨b, off, none⟩) p p); refine (HN1.out _ (Below.drew (Below.refl _ _))).mono ?_; rintro e w1 ⟨rfl, hb1⟩; have s1 := keep2 (bdrew hb1) ⟨c0, c1⟩) | (go_at_call 34; refine (HN2.out _ (bdrew hb1)).mono ?_; rintro e w2 ⟨rfl, hb2⟩; have s2 := keep2 (bseq (bdrew hb1) hb2) ⟨c0, c1⟩; obtain ⟨⟨g0, g1, g2, g3, g4, g5, g6⟩, v0, v1, v2, v3, v4, v5, v6⟩ := part_facts (b6.below (bseq (bdrew hb1) hb2)); obtain ⟨⟨j0, j1, j2, j3, j4, j5, j6⟩, u0, u1, u2, u3, u4, u5, u6⟩ := part_facts (b7.below (bseq (bdrew hb1) hb2))))
      all_goals
       change Exit.then _ _ Exit.normal _ (setP (setP w2 (w.heap.size + 1) (some ⟨b, off, none⟩) p p xT S1) (w.heap.size + 1 + 1) (some ⟨b, off + p, none⟩) (xN - p) (xC - p) tg S2)
       have B6 := setP_far (A := (some ⟨b, off + p, none⟩)) (n := xN - p) (c := xC - p) (tag := tg) (s := S2) (b := w.heap.size + 1 + 1) (setP_own (A := some ⟨b, off, none⟩) (n := p) (c := p) (tag := xT) (s := S1) (b6.below (bseq (bdrew hb1) hb2))) (by omega)
       have B7 := setP_own (A := (some ⟨b, off + p, none⟩)) (n := xN - p) (c := xC - p) (tag := tg) (s := S2) (setP_far (A := some ⟨b, off, none⟩) (n := p) (c := p) (tag := xT) (s := S1) (b := w.heap.size + 1) (b7.below (bseq (bdrew hb1) hb2)) (by omega))
       have BW := setP_below (A := (some ⟨b, off + p, none⟩)) (n := xN - p) (c := xC - p) (tag := tg) (s := S2) (b := w.heap.size + 1 + 1) (setP_below (A := some ⟨b, off, none⟩) (n := p) (c := p) (tag := xT) (s := S1) (b := w.heap.size + 1) (bseq hW (bseq (bdrew hb1) hb2)) (by omega)) (by omega)
       generalize setP (setP w2 (w.heap.size + 1) (some ⟨b, off, none⟩) p p xT S1) (w.heap.size + 1 + 1) (some ⟨b, off + p, none⟩) (xN - p) (xC - p) tg S2 = W' at B6 B7 BW ⊢
       clear g0 g1 g2 g3 g4 g5 g6 v0 v1 v2 v3 v4 v5 v6 j0 j1 j2 j3 j4 j5 j6 u0 u1 u2 u3 u4 u5 u6 s0 s1 s2 c0 c1 b3 b6 b7 hb1 hb2 HN1 HN2 hW q0 q1 q2 q3
       obtain ⟨⟨g0, g1, g2, g3, g4, g5, g6⟩, _⟩ := part_facts B6
       obtain ⟨⟨j0, j1, j2, j3, j4, j5, j6⟩, _⟩ := part_facts B7
       go_wp2_with fail
       refine bodyPost_ret (v := .tuple #[.agg #[.slice (some ⟨b, off, none⟩) p p, .int .i64 xT, .int .i64 S1.atoms, .int .i64 S1.bytes, .int .i64 S1.breaks, .bool S1.lf, .bool S1.cr], .agg #[.slice (some ⟨b, off + p, none⟩) (xN - p) (xC - p), .int .i64 tg, .int .i64 S2.atoms, .int .i64 S2.bytes, .int .i64 S2.breaks, .bool S2.lf, .bool S2.cr]]) (by simp [results, Tryz.results66, go_sem, g0, g1, g2, g3, g4, g5, g6, j0, j1, j2, j3, j4, j5, j6]) rfl ⟨?_, BW⟩
       rw [<- HV.out, Int.toNat_natCast, HA2.out, if_neg HCP.out, HA.out, HS1.out, HS2.out]
       rfl
theorem cut_any (enc : Int) (D : Nat -> Prop) (x : Pc) (n : Int) (w : World) (he : enc = 1 \/ enc = 2 \/ enc = 3 \/ enc = 4) (hx : PcOk enc x) (hl : Bts w D x.A x.n x.bytes) (n0 : -2147483648 <= n) (n1 : n <= 2147483648) :
  Calls Tryz.prog 66 #[.agg x.cells, .int .i64 enc, .int .i64 n] w fun e w' => e = .returned (CutV enc x n) /\ Below w.heap.size w w' := cut_any0 _ enc D x n w rfl he hx hl n0 n1
end Go.Proofs.YtflhiohjikgedaaGreatDoor
