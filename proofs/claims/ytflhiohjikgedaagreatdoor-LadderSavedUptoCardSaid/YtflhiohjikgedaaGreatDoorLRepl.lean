/-
  The walk of Text.replace.
-/
import Derived.Test.YtflhiohjikgedaaGreatDoorLSnip2
set_option linter.unusedSimpArgs false
set_option linter.unusedVariables false
set_option maxRecDepth 100000
set_option maxHeartbeats 32000000
namespace Go.Proofs.YtflhiohjikgedaaGreatDoor
open Go.RowKit
def Items (w : World) (B : Nat) (ps : List Pc) (v : Value) (wx : World) : Prop := wx.ownsRow B 94 7 v ps.length (ps.flatMap fun p => p.cells.toList)
def ReplR (g : Nat) (add add' : Value) (n n' B : Nat) (xs xs' : List Value) (enc lim : Int) (ds ats : List (Int × Int)) (w w' : World) : Prop :=
 ∃ t' a', TextM w' B g enc lim n' add' t' a' xs' /\ TStep g add add' n n' w w' /\ decL enc t'.list = ds /\ atsL enc t'.list = ats
theorem partV_form (op : Option Pc) : ∃ (x : Pc) (b : Bool), partV op = .tuple #[.agg #[.slice x.A x.n x.c, .int .i64 x.tag, .int .i64 x.sum.atoms, .int .i64 x.sum.bytes, .int .i64 x.sum.breaks, .bool x.sum.lf, .bool x.sum.cr], .bool b] /\ (b = true -> op = some x) /\ (b = false -> op = none) := by
 cases op with
 | none => exact ⟨⟨none, 0, 0, 0, zeroS, []⟩, false, rfl, fun h => (by cases h), fun _ => rfl⟩
 | some x => exact ⟨x, true, rfl, fun _ => rfl, fun h => (by cases h)⟩
structure ReplM (w : World) (B g : Nat) (enc lim : Int) (n n' : Nat) (add add' : Value) (a : Option Addr) (xs' : List Value) (its fr : List Pc) (v : Value) (wx : World) : Prop where
 blk : Blk wx g 88 #[.int .i64 enc, .int .i64 lim, .pointer a, add']
 row : wx.ownsRow B 5 1 add' n' xs'
 st : TStep g add add' n n' w wx
 its : wx.ownsRow w.heap.size 94 7 v its.length (its.flatMap fun p => p.cells.toList)
 pcs : PsIn wx add' n' enc fr
theorem ReplM.below {w wx wy : World} {B g : Nat} {enc lim : Int} {n n' : Nat} {add add' v : Value} {a : Option Addr} {xs xs' : List Value} {its fr : List Pc} (h : ReplM w B g enc lim n n' add add' a xs' its fr v wx) (hr : w.ownsRow B 5 1 add n xs) (hb : Below wx.heap.size wx wy) : ReplM w B g enc lim n n' add add' a xs' its fr v wy :=
 ⟨h.blk.below hb, own_bel h.row hb, h.st.loc (S := No) (Fr.of_below hb) (fun _ hs => hs.elim) hr, own_bel h.its hb, h.pcs.far (S := No) (Fr.of_below hb) (fun _ _ hs => hs.elim)⟩
theorem ReplM.more {w wx wy : World} {B g : Nat} {enc lim : Int} {n n' m : Nat} {add add' v v' : Value} {a : Option Addr} {xs xs' zs : List Value} {its its' fr : List Pc} (h : ReplM w B g enc lim n n' add add' a xs' its fr v wx) (hr : w.ownsRow B 5 1 add n xs)
  (hg : wx.grownBy wy v.ownBlock) (hown : wy.ownsRow w.heap.size 94 7 v' m zs) (hm : m = its'.length) (hz : zs = its'.flatMap fun p => p.cells.toList) : ReplM w B g enc lim n n' add add' a xs' its' fr v' wy := by
 have F : Fr (OwnB v) wx wy := (Fr.refl _ _).grown hg (fun k hk _ => hk)
 subst hm
 subst hz
 exact ⟨h.blk.fr F (own_blk_ne h.its h.blk (by decide)), own_fr h.row F (fun b hb => own_own_ne h.row h.its (by decide) b hb), h.st.loc F (fun b hb => (h.its.lt b hb).1) hr, hown, h.pcs.far F (fun k _ hk => Far.own h.its hk (by decide))⟩
theorem new_b1 {w w1 : World} (hb : Below (w.alloc (.cells #[.slice none 0 0, .int .i64 0, .int .i64 0, .int .i64 0, .int .i64 0, .bool false, .bool false] 94)).drew.heap.size (w.alloc (.cells #[.slice none 0 0, .int .i64 0, .int .i64 0, .int .i64 0, .int .i64 0, .bool false, .bool false] 94)).drew w1) : Blk w1 w.heap.size 94 (partC none 0 0 0 zeroS) := (Blk.new w _ _).drew.below hb
theorem new_b2 {w w1 : World} (hb : Below ((w.alloc (.cells #[.slice none 0 0, .int .i64 0, .int .i64 0, .int .i64 0, .int .i64 0, .bool false, .bool false] 94)).alloc (.cells #[.slice none 0 0, .int .i64 0, .int .i64 0, .int .i64 0, .int .i64 0, .bool false, .bool false] 94)).drew.heap.size ((w.alloc (.cells #[.slice none 0 0, .int .i64 0, .int .i64 0, .int .i64 0, .int .i64 0, .bool false, .bool false] 94)).alloc (.cells #[.slice none 0 0, .int .i64 0, .int .i64 0, .int .i64 0, .int .i64 0, .bool false, .bool false] 94)).drew w1) : Blk w1 w.heap.size 94 (partC none 0 0 0 zeroS) /\ Blk w1 (w.heap.size + 1) 94 (partC none 0 0 0 zeroS) :=
 ⟨((Blk.new w _ _).alloc _).drew.below hb, (Blk.newAt (by simp)).drew.below hb⟩
def TwoP (w : World) (cl cr : Pc) (s15 s16 : Value) (wx : World) : Prop := ∃ b1 b2, s15 = .pointer (some ⟨b1, 0, none⟩) /\ s16 = .pointer (some ⟨b2, 0, none⟩) /\ Blk wx b1 94 cl.cells /\ Blk wx b2 94 cr.cells /\ Below w.heap.size w wx
section
variable {w w5 : World} {cl cr : Pc} {b : Nat}
theorem two1 (hb : Below w.heap.size w w5) : TwoP w cl cr (.pointer (some ⟨w5.heap.size, 0, none⟩)) (.pointer (some ⟨w5.heap.size + 1, 0, none⟩)) ((w5.alloc (.cells cl.cells 94)).alloc (.cells cr.cells 94)) :=
 ⟨_, _, rfl, rfl, (Blk.new w5 _ _).alloc _, Blk.newAt (by simp), balloc (balloc hb)⟩
theorem two2 (hb : Below w.heap.size w w5) : TwoP w cl cr (.pointer (some ⟨w5.heap.size + 1, 0, none⟩)) (.pointer (some ⟨w5.heap.size, 0, none⟩)) ((w5.alloc (.cells cr.cells 94)).alloc (.cells cl.cells 94)) :=
 ⟨_, _, rfl, rfl, Blk.newAt (by simp), (Blk.new w5 _ _).alloc _, balloc (balloc hb)⟩
theorem setP_size (A : Option Addr) (n c : Nat) (tag : Int) (s : Sums) : (setP w5 b A n c tag s).heap.size = w5.heap.size := by simp [setP]
theorem two3 (hb : Below w.heap.size w w5) (hB : Blk w5 b 94 (partC none 0 0 0 zeroS)) (hge : w.heap.size <= b) : TwoP w cl cr (.pointer (some ⟨b, 0, none⟩)) (.pointer (some ⟨w5.heap.size, 0, none⟩)) ((setP w5 b cl.A cl.n cl.c cl.tag cl.sum).alloc (.cells cr.cells 94)) :=
 ⟨_, _, rfl, rfl, (setP_own hB).alloc _, Blk.newAt (setP_size _ _ _ _ _), balloc (setP_below hb hge)⟩
theorem two5 (hb : Below w.heap.size w w5) (hB : Blk w5 b 94 (partC none 0 0 0 zeroS)) (hge : w.heap.size <= b) : TwoP w cl cr (.pointer (some ⟨w5.heap.size, 0, none⟩)) (.pointer (some ⟨b, 0, none⟩)) ((setP w5 b cr.A cr.n cr.c cr.tag cr.sum).alloc (.cells cl.cells 94)) :=
 ⟨_, _, rfl, rfl, Blk.newAt (setP_size _ _ _ _ _), (setP_own hB).alloc _, balloc (setP_below hb hge)⟩
theorem two4 (hb : Below w.heap.size w w5) (hB : Blk w5 b 94 (partC none 0 0 0 zeroS) /\ Blk w5 (b + 1) 94 (partC none 0 0 0 zeroS)) (hge : w.heap.size <= b) : TwoP w cl cr (.pointer (some ⟨b, 0, none⟩)) (.pointer (some ⟨b + 1, 0, none⟩)) (setP (setP w5 b cl.A cl.n cl.c cl.tag cl.sum) (b + 1) cr.A cr.n cr.c cr.tag cr.sum) :=
 ⟨_, _, rfl, rfl, setP_far (setP_own hB.1) (by omega), setP_own (setP_far hB.2 (by omega)), setP_below (setP_below hb hge) (by omega)⟩
theorem two6 (hb : Below w.heap.size w w5) (hB : Blk w5 b 94 (partC none 0 0 0 zeroS) /\ Blk w5 (b + 1) 94 (partC none 0 0 0 zeroS)) (hge : w.heap.size <= b) : TwoP w cl cr (.pointer (some ⟨b + 1, 0, none⟩)) (.pointer (some ⟨b, 0, none⟩)) (setP (setP w5 (b + 1) cl.A cl.n cl.c cl.tag cl.sum) b cr.A cr.n cr.c cr.tag cr.sum) :=
 ⟨_, _, rfl, rfl, setP_far (setP_own hB.2) (by omega), setP_own (setP_far hB.1 (by omega)), setP_below (setP_below hb (by omega)) hge⟩
end
theorem repl_any (B g : Nat) (enc lim : Int) (n : Nat) (add : Value) (t : Tr) (a : Option Addr) (xs : List Value) (f tt : Int) (put : List Int) (D : Nat -> Prop) (A : Option Addr) (k c : Nat) (w : World)
    (h : TextM w B g enc lim n add t a xs) (f0 : 0 <= f) (ft : f <= tt) (t1 : tt <= ((decL enc t.list).length : Int)) (hl : Ints w D A k put) (hD : ∀ b, D b -> b ≠ g /\ add.ownBlock ≠ some b) (hf : Fit enc put)
    (hk : k <= 1048576) (hN : n + (putL enc put).length <= 1073741824) (hT : totB t.list + (putL enc put).length <= 16777216) :
    Calls Tryz.prog 38 #[.pointer (some ⟨g, 0, none⟩), .int .i64 f, .int .i64 tt, .slice A k c] w fun e w' => e = .returned (.tuple #[]) /\
      ∃ add', ReplR g add add' n (n + (putL enc put).length) B xs (xs ++ (putL enc put).map (Value.int .u8)) enc lim ((decL enc t.list).take f.toNat ++ withSz enc put ++ (decL enc t.list).drop tt.toNat) ((atsL enc t.list).take f.toNat ++ put.map (fun x => (x, -1)) ++ (atsL enc t.list).drop tt.toNat) w w' := by
  have hti := h.text
  have hdl := hti.decLen
  have hlen := hti.len
  have htot := hti.tot
  have hg0 := h.tree.pcs.ok
  have hK1 := tfind_any Any g enc lim t a add f w hti f0 (by omega)
  have hK2 := fun (w' : World) (hb : Below w.heap.size w w') => tfind_any Any g enc lim t a add tt w' (hti.below hb) (by omega) t1
  have HK1 := Lib.hid hK1
  have HK2 := Lib.hid hK2
  have HH := Lib.hid h
  have HTI := Lib.hid hti
  have HF := Lib.hid hf
  have HT := Lib.hid hT
  clear hK1 hK2 hti h hf hT
  go_enter Tryz.func38, Tryz.ntmps38
  go_wp2_with fail
  refine (HK1.out).mono ?_
  rintro e w1 ⟨i, nn, rfl, hfd, hb1⟩
  have HFD := Lib.hid hfd
  clear hfd
  go_wp2_with fail
  refine (HK2.out _ hb1).mono ?_
  rintro e w2 ⟨j, mm, rfl, hfd2, hb2⟩
  have HFD2 := Lib.hid hfd2
  have hW2 := bseq hb1 hb2
  have hij := found_le hg0 HFD.out hfd2 f0 ft
  have hjl := hfd2.1
  have hnn : nn <= 1073741824 := by have := HFD.out.2.1; omega
  have hmm : mm <= 1073741824 := by have := hfd2.2.1; omega
  have hat := fun (i : Nat) (hi : i <= 1073741824) (w' : World) (hb : Below w.heap.size w w') => tat_any t a (i : Int) w' (NodeAt.below hb t a HTI.out.node) hlen (by omega)
  have hget : ∀ i : Nat, t.get (i : Int) = t.list[i]? := fun i => by unfold Tr.get; rw [if_neg (by omega), Int.toNat_natCast]
  simp only [hget] at hat
  have HAT := Lib.hid hat
  clear hat hget hfd2 hb1 hb2
  obtain ⟨c0, c2⟩ := (HTI.out.below hW2).cells
  go_wp2_with fail
  refine (HAT.out i (by omega) _ hW2).mono ?_
  rintro e w3 ⟨rfl, hb3⟩
  have hW3 := bseq hW2 hb3
  obtain ⟨x, b, hpv, hb1, hb2⟩ := partV_form (t.list[i]?)
  rw [hpv]
  have HB1 := Lib.hid hb1
  have HB2 := Lib.hid hb2
  have hzx : w.heap.size <= w3.heap.size := hW3.size
  clear hpv hb1 hb2
  go_upto_region 4 with fail
  obtain ⟨w4, hw4⟩ : ∃ w4, w3.alloc (.cells #[.slice x.A x.n x.c, .int .i64 x.tag, .int .i64 x.sum.atoms, .int .i64 x.sum.bytes, .int .i64 x.sum.breaks, .bool x.sum.lf, .bool x.sum.cr] 94) = w4 := ⟨_, rfl⟩
  have hW4 : Below w.heap.size w w4 := by rw [<- hw4]; exact balloc hW3
  have b85 : Blk w4 w3.heap.size 94 x.cells := by rw [<- hw4]; exact Blk.new w3 _ _
  rw [hw4]
  clear hw4 hb3 c0 c2 hW2
  go_cut [46] (fun s wx => s = .bool (b && decide (0 < nn)) /\ wx = w4)
  case first =>
    cases b
    · go_wp2_with fail
      go_meet
      exact ⟨rfl, rfl⟩
    · by_cases h0 : 0 < nn
      · have q1 : ((0 : Int) < (nn : Int)) = True := by simp; omega
        have q2 : decide (0 < nn) = true := by simpa using h0
        go_wp2_with fail
        go_meet
        rw [q2]
        exact ⟨rfl, rfl⟩
      · have q1 : ((0 : Int) < (nn : Int)) = False := by simp; omega
        have q2 : decide (0 < nn) = false := by simpa using h0
        go_wp2_with fail
        go_meet
        rw [q2]
        exact ⟨rfl, rfl⟩
  case rest =>
  obtain ⟨rfl, rfl⟩ := hcut
  obtain ⟨w4, hw4⟩ : ∃ x, x = wc := ⟨_, rfl⟩
  subst hw4
  obtain ⟨q, hq⟩ : ∃ q, (b && decide (0 < nn)) = q := ⟨_, rfl⟩
  rw [hq]
  have HQ := Lib.hid hq
  clear hq
  go_upto_if 46 with fail
  go_cut [12] (fun s wx => Items w w.heap.size (headP enc t.list i nn) s wx /\ Below w.heap.size w wx)
  case first =>
    cases q
    · go_wp2_with fail
      go_meet
      have h1 := HQ.out
      have he : headP enc t.list i nn = [] := by
        unfold headP
        cases b
        · rw [HB2.out rfl]
        · rw [HB1.out rfl]
          simp only [Bool.true_and, decide_eq_false_iff_not] at h1
          dsimp only
          rw [if_neg h1]
      rw [he]
      exact ⟨World.ownsRow_nil _ _ _ _, hW4⟩
    · have h1 := HQ.out
      simp only [Bool.and_eq_true, decide_eq_true_eq] at h1
      obtain ⟨rfl, hn0⟩ := h1
      have hop := HB1.out rfl
      have hmem := List.mem_of_getElem? hop
      have hpo := HTI.out.ok x hmem
      have hpb := HTI.out.bts x hmem
      have he : headP enc t.list i nn = [cutL enc x nn] := by
        unfold headP
        rw [hop]
        dsimp only
        rw [if_pos hn0]
      have HEE := Lib.hid he
      have hcut := fun (w' : World) (hb : Below w.heap.size w w') => cut_any enc Any x (nn : Int) w' HTI.out.enc4 hpo (Reads.below hpb hb) (by omega) (by omega)
      rw [cutV_eq] at hcut
      obtain ⟨cl, hcl⟩ : ∃ cl, cutL enc x nn = cl := ⟨_, rfl⟩
      obtain ⟨cr, hcr⟩ : ∃ cr, cutR enc x nn = cr := ⟨_, rfl⟩
      rw [hcl, hcr] at hcut
      rw [hcl] at HEE
      simp only [Pc.cells, partC] at hcut
      have HCUT := Lib.hid hcut
      clear hcut he hmem hpo hpb hop hcl hcr
      have ct := (HTI.out.below hW4).cells.1
      go_upto_region 5 with fail
      have zg5 := (HTI.out.below hW4).blk.lt
      have z85 := b85.lt
      have s0 : (w4.cell? ⟨w3.heap.size, 0, none⟩ = some (.slice x.A x.n x.c) /\ w4.cell? ⟨w3.heap.size, 1, none⟩ = some (.int .i64 x.tag) /\ w4.cell? ⟨w3.heap.size, 2, none⟩ = some (.int .i64 x.sum.atoms) /\ w4.cell? ⟨w3.heap.size, 3, none⟩ = some (.int .i64 x.sum.bytes) /\ w4.cell? ⟨w3.heap.size, 4, none⟩ = some (.int .i64 x.sum.breaks) /\ w4.cell? ⟨w3.heap.size, 5, none⟩ = some (.bool x.sum.lf) /\ w4.cell? ⟨w3.heap.size, 6, none⟩ = some (.bool x.sum.cr) /\ w4.cell? ⟨g, 0, none⟩ = some (.int .i64 enc)) := ⟨(cells_at b85).1, (cells_at b85).2.1, (cells_at b85).2.2.1, (cells_at b85).2.2.2.1, (cells_at b85).2.2.2.2.1, (cells_at b85).2.2.2.2.2.1, (cells_at b85).2.2.2.2.2.2, ct⟩
      have s00 := hold8dr s0
      have zz : w4.drew.heap.size = w4.heap.size := rfl
      have ZZ := Lib.hid zz
      clear zz ct
      go_cut [15, 16] (fun s15 s16 wx => TwoP w cl cr s15 s16 wx)
      case first =>
        go_region_held3 (fun w' => (w'.cell? ⟨w3.heap.size, 0, none⟩ = some (.slice x.A x.n x.c) /\ w'.cell? ⟨w3.heap.size, 1, none⟩ = some (.int .i64 x.tag) /\ w'.cell? ⟨w3.heap.size, 2, none⟩ = some (.int .i64 x.sum.atoms) /\ w'.cell? ⟨w3.heap.size, 3, none⟩ = some (.int .i64 x.sum.bytes) /\ w'.cell? ⟨w3.heap.size, 4, none⟩ = some (.int .i64 x.sum.breaks) /\ w'.cell? ⟨w3.heap.size, 5, none⟩ = some (.bool x.sum.lf) /\ w'.cell? ⟨w3.heap.size, 6, none⟩ = some (.bool x.sum.cr) /\ w'.cell? ⟨g, 0, none⟩ = some (.int .i64 enc))) (first | (with_reducible assumption) | ((repeat (first | (with_reducible refine hold8set (by dsimp only; omega) (by dsimp only; omega) ?_) | (with_reducible refine hold8al ?_) | (with_reducible refine hold8dr ?_))); with_reducible assumption)) (first | (go_at_call 66; (with_reducible refine (HCUT.out w4.drew hW4.drew).mono ?_); rintro e w5 ⟨rfl, hb5⟩; have s1 := hold8 hb5 (hold8dr s0); have hzz := new_lt0 hb5; have hq5 := bseq (Below.refl _ w4).drew hb5) | (go_at_call 66; (with_reducible refine (HCUT.out (w4.alloc (.cells #[.slice none 0 0, .int .i64 0, .int .i64 0, .int .i64 0, .int .i64 0, .bool false, .bool false] 94)).drew (balloc hW4).drew).mono ?_); rintro e w5 ⟨rfl, hb5⟩; have s1 := hold8 hb5 (hold8dr (hold8al s0)); have hzz := new_lt1 hb5; have hnb := new_b1 hb5; obtain ⟨⟨g0, g1, g2, g3, g4, g5, g6⟩, v0, v1, v2, v3, v4, v5, v6⟩ := new_one hb5; have hq5 := bseq (balloc (Below.refl _ w4)).drew hb5) | (go_at_call 66; (with_reducible refine (HCUT.out ((w4.alloc (.cells #[.slice none 0 0, .int .i64 0, .int .i64 0, .int .i64 0, .int .i64 0, .bool false, .bool false] 94)).alloc (.cells #[.slice none 0 0, .int .i64 0, .int .i64 0, .int .i64 0, .int .i64 0, .bool false, .bool false] 94)).drew (balloc (balloc hW4)).drew).mono ?_); rintro e w5 ⟨rfl, hb5⟩; have s1 := hold8 hb5 (hold8dr (hold8al (hold8al s0))); have hzz := new_lt2 hb5; have hnb := new_b2 hb5; obtain ⟨⟨⟨g0, g1, g2, g3, g4, g5, g6⟩, v0, v1, v2, v3, v4, v5, v6⟩, ⟨j0, j1, j2, j3, j4, j5, j6⟩, u0, u1, u2, u3, u4, u5, u6⟩ := new_two hb5; have hq5 := bseq (balloc (balloc (Below.refl _ w4))).drew hb5))
        all_goals
          have hqq := bseq hW4 hq5
          have hge4 := hW4.size
          clear s0 s00 s1 HAT HK1 HK2 hg0 hD hl HH HTI HT HF HFD HFD2
          go_wp2_with fail
          go_meet
          skip
        · exact two1 hqq
        · exact two2 hqq
        · exact two3 (b := w4.heap.size) hqq hnb hge4
        · exact two4 (b := w4.heap.size) hqq hnb hge4
        · exact two5 (b := w4.heap.size) hqq hnb hge4
        · exact two6 (b := w4.heap.size) hqq hnb hge4
      case rest =>
        obtain ⟨e1, e2, rfl, rfl, hB1, hB2, hW5⟩ := hcut
        obtain ⟨⟨z0, z1, z2, z3, z4, z5, z6⟩, -⟩ := part_facts hB1
        obtain ⟨ip, zp, hip, hp0, hp1, hp2, hp3⟩ := part_row
        have h1 := hW5.size
        clear HAT HK1 HK2 hg0 hD hl HH HTI HT HF HFD HFD2 hB1 hB2
        go_wp2_with (at_builtin; refine wpList_append_own_at _ rfl (.tmp 57) (.tmp 59) 89 rfl w.heap.size 94 ip zp 7 64 Tryz.underlying89 hip hp0 hp1 hp2 hp3 (by decide) (.slice none 0 0) 0 [] rfl (World.ownsRow_nil _ _ _ _) ⟨wc.heap.size, 0, none⟩ 1 1 [.slice cl.A cl.n cl.c, .int .i64 cl.tag, .int .i64 cl.sum.atoms, .int .i64 cl.sum.bytes, .int .i64 cl.sum.breaks, .bool cl.sum.lf, .bool cl.sum.cr] rfl rfl (cells_new _ _ _) (part_one _ _ _ _ _ _ _ _ _) (by decide) (by decide) (by simp; omega) ?_)
        intro v6 w6 hown6 hgr6 _ hat6
        have hb6 : Below w.heap.size w w6 := below_grown2 (balloc hW5) hgr6 (fun k hk => by cases hk) (by simp)
        have HOW := Lib.hid hown6
        clear hown6 hgr6 hat6 hip hp0 hp1 hp2 hp3 z0 z1 z2 z3 z4 z5 z6
        go_wp2_with fail
        go_meet
        rw [HEE.out]
        refine ⟨?_, hb6⟩
        unfold Items
        simpa [Pc.cells, partC] using HOW.out
  case rest =>
    obtain ⟨hI, hW5⟩ := hcut
    obtain ⟨w5, hw5⟩ : ∃ x, x = wc := ⟨_, rfl⟩
    subst hw5
    have hH5 := HH.out.below hW5
    have hl5 := Reads.below hl hW5
    have hfr := fresh_any B g enc lim n add a xs put D A k c w5 hH5.enc4 hH5.blk hH5.row hl5 hD HF.out (by omega) hN hH5.base
    have HFR := Lib.hid hfr
    have HI := Lib.hid hI
    obtain ⟨ip, zp, hip, hp0, hp1, hp2, hp3⟩ := part_row
    have hhl := headP_one enc t.list i nn
    clear hfr hI hl5 hH5 b85 HQ HB1 HB2 hW4
    go_wp2_with fail
    refine (HFR.out).mono ?_
    rintro e w6 ⟨fr, v6, add6, rfl, hT6, hrow6, hst6, hfrow, hpcs6, hdec6, htag6⟩
    obtain ⟨A6, c6, rfl, hc6⟩ := own_slice hfrow
    have hH5 := HH.out.below hW5
    have hI6 : w6.ownsRow w.heap.size 94 7 u12 (headP enc t.list i nn).length ((headP enc t.list i nn).flatMap fun p => p.cells.toList) := own_fr HI.out hst6.fr (fun b hb => by
      rintro (h1 | h1)
      · exact own_blk_ne HI.out hH5.blk (by decide) (h1 ▸ hb)
      · exact own_own_ne HI.out hH5.row (by decide) b hb h1)
    have hst06 := (TStep.below (g := g) HH.out.row hW5).trans hst6 HH.out.row HH.out.ne
    have hM6 : ReplM w B g enc lim n (n + (putL enc put).length) add add6 a (xs ++ (putL enc put).map (Value.int .u8)) (headP enc t.list i nn) fr u12 w6 := ⟨hT6, hrow6, hst06, hI6, hpcs6⟩
    have hfl := len_decL hpcs6.ok
    rw [hdec6, show (withSz enc put).length = put.length from List.length_map _, hl.len] at hfl
    have hz6 := hst06.fr.size
    have HM6 := Lib.hid hM6
    have HFW := Lib.hid hfrow
    have HI6 := Lib.hid hI6
    have HDEC := Lib.hid hdec6
    have HTAG := Lib.hid htag6
    clear hM6 hfrow hI6 hdec6 htag6 hT6 hrow6 hst6 hpcs6 hst06 hH5 HI HFR HK1 HK2
    go_wp2_with (at_builtin; refine wpList_append_all _ rfl (.tmp 61) (.tmp 64) 89 rfl w.heap.size 94 ip zp 7 64 Tryz.underlying89 hip hp0 hp1 hp2 hp3 (by decide) u12 _ _ rfl HI6.out _ A6 fr.length c6 _ rfl (Reads.of_own HFW.out) (flat_one _) (by unfold maxLen; omega) (by omega) (by omega) ?_)
    intro v7 w7 hown7 hgr7 hat7
    have hM7 := HM6.out.more HH.out.row hgr7 hown7 (its' := headP enc t.list i nn ++ fr) (List.length_append ..).symm (flat_app _ _).symm
    clear HM6 HFW HI6 hown7 hgr7 hat7 hip hp0 hp1 hp2 hp3
    have HM7 := Lib.hid hM7
    have htr7 := HH.out.tree.step hM7.st HH.out.row HH.out.blk
    have hz7 := hM7.st.fr.size
    have c2 := hM7.blk.cell 2
    simp at c2
    have hat7 := tat_any t a (j : Int) w7 htr7.node hlen (by omega)
    have hget : t.get (j : Int) = t.list[j]? := by unfold Tr.get; rw [if_neg (by omega), Int.toNat_natCast]
    rw [hget] at hat7
    have HAT7 := Lib.hid hat7
    clear hat7 hget hM7 htr7 HAT
    go_wp2_with fail
    refine (HAT7.out).mono ?_
    rintro e w8 ⟨rfl, hb8⟩
    have hM8 := HM7.out.below HH.out.row hb8
    obtain ⟨x2, b2, hpv, hb1, hb2⟩ := partV_form (t.list[j]?)
    rw [hpv]
    have HB1 := Lib.hid hb1
    have HB2 := Lib.hid hb2
    clear hpv hb1 hb2 c2 HAT7 HM7
    go_upto_region 9 with fail
    have hM9 := hM8.below HH.out.row (balloc (Below.refl _ w8) (o := .cells #[.slice x2.A x2.n x2.c, .int .i64 x2.tag, .int .i64 x2.sum.atoms, .int .i64 x2.sum.bytes, .int .i64 x2.sum.breaks, .bool x2.sum.lf, .bool x2.sum.cr] 94))
    have b85 : Blk (w8.alloc (.cells #[.slice x2.A x2.n x2.c, .int .i64 x2.tag, .int .i64 x2.sum.atoms, .int .i64 x2.sum.bytes, .int .i64 x2.sum.breaks, .bool x2.sum.lf, .bool x2.sum.cr] 94)) w8.heap.size 94 x2.cells := Blk.new w8 _ _
    obtain ⟨w4, hw4⟩ : ∃ w4, w8.alloc (.cells #[.slice x2.A x2.n x2.c, .int .i64 x2.tag, .int .i64 x2.sum.atoms, .int .i64 x2.sum.bytes, .int .i64 x2.sum.breaks, .bool x2.sum.lf, .bool x2.sum.cr] 94) = w4 := ⟨_, rfl⟩
    rw [hw4] at hM9 b85 ⊢
    have HM9 := Lib.hid hM9
    clear hw4 hM8 hM9 hb8
    go_upto_if 75 with fail
    go_cut [12] (fun s wx => ReplM w B g enc lim n (n + (putL enc put).length) add add6 a (xs ++ (putL enc put).map (Value.int .u8)) (headP enc t.list i nn ++ fr ++ tailP enc t.list j mm) fr s wx)
    case first =>
      cases b2
      · go_wp2_with fail
        go_meet
        have he : tailP enc t.list j mm = [] := by
          unfold tailP
          rw [HB2.out (by first | rfl | trivial)]
        rw [he, List.append_nil]
        exact HM9.out
      · have hop := HB1.out (by first | rfl | trivial)
        have hmem := List.mem_of_getElem? hop
        have htr := HH.out.tree.step HM9.out.st HH.out.row HH.out.blk
        have hpo := HTI.out.ok x2 hmem
        have hpb := htr.pcs.bts x2 hmem
        have he : tailP enc t.list j mm = if 0 < (cutR enc x2 mm).sum.atoms then [cutR enc x2 mm] else [] := by
          unfold tailP
          rw [hop]
          rfl
        have HEE := Lib.hid he
        have hcut := fun (w' : World) (hb : Below w4.heap.size w4 w') => cut_any enc Any x2 (mm : Int) w' HTI.out.enc4 hpo (Reads.below hpb hb) (by omega) (by omega)
        rw [cutV_eq] at hcut
        obtain ⟨cl, hcl⟩ : ∃ cl, cutL enc x2 mm = cl := ⟨_, rfl⟩
        obtain ⟨cr, hcr⟩ : ∃ cr, cutR enc x2 mm = cr := ⟨_, rfl⟩
        rw [hcl, hcr] at hcut
        rw [hcr] at HEE
        simp only [Pc.cells, partC] at hcut
        have HCUT := Lib.hid hcut
        clear hcut he hmem hpo hpb hop hcl hcr htr
        have ct := HM9.out.blk.cell 0
        simp at ct
        go_upto_region 10 with fail
        have zg5 := HM9.out.blk.lt
        have z85 := b85.lt
        have s0 : (w4.cell? ⟨w8.heap.size, 0, none⟩ = some (.slice x2.A x2.n x2.c) /\ w4.cell? ⟨w8.heap.size, 1, none⟩ = some (.int .i64 x2.tag) /\ w4.cell? ⟨w8.heap.size, 2, none⟩ = some (.int .i64 x2.sum.atoms) /\ w4.cell? ⟨w8.heap.size, 3, none⟩ = some (.int .i64 x2.sum.bytes) /\ w4.cell? ⟨w8.heap.size, 4, none⟩ = some (.int .i64 x2.sum.breaks) /\ w4.cell? ⟨w8.heap.size, 5, none⟩ = some (.bool x2.sum.lf) /\ w4.cell? ⟨w8.heap.size, 6, none⟩ = some (.bool x2.sum.cr) /\ w4.cell? ⟨g, 0, none⟩ = some (.int .i64 enc)) := ⟨(cells_at b85).1, (cells_at b85).2.1, (cells_at b85).2.2.1, (cells_at b85).2.2.2.1, (cells_at b85).2.2.2.2.1, (cells_at b85).2.2.2.2.2.1, (cells_at b85).2.2.2.2.2.2, ct⟩
        have s00 := hold8dr s0
        have zz : w4.drew.heap.size = w4.heap.size := rfl
        have ZZ := Lib.hid zz
        clear zz ct
        go_cut [19, 20] (fun s15 s16 wx => TwoP w4 cl cr s15 s16 wx)
        case first =>
          go_region_held3 (fun w' => (w'.cell? ⟨w8.heap.size, 0, none⟩ = some (.slice x2.A x2.n x2.c) /\ w'.cell? ⟨w8.heap.size, 1, none⟩ = some (.int .i64 x2.tag) /\ w'.cell? ⟨w8.heap.size, 2, none⟩ = some (.int .i64 x2.sum.atoms) /\ w'.cell? ⟨w8.heap.size, 3, none⟩ = some (.int .i64 x2.sum.bytes) /\ w'.cell? ⟨w8.heap.size, 4, none⟩ = some (.int .i64 x2.sum.breaks) /\ w'.cell? ⟨w8.heap.size, 5, none⟩ = some (.bool x2.sum.lf) /\ w'.cell? ⟨w8.heap.size, 6, none⟩ = some (.bool x2.sum.cr) /\ w'.cell? ⟨g, 0, none⟩ = some (.int .i64 enc))) (first | (with_reducible assumption) | ((repeat (first | (with_reducible refine hold8set (by dsimp only; omega) (by dsimp only; omega) ?_) | (with_reducible refine hold8al ?_) | (with_reducible refine hold8dr ?_))); with_reducible assumption)) (first | (go_at_call 66; (with_reducible refine (HCUT.out w4.drew (Below.refl _ w4).drew).mono ?_); rintro e w5 ⟨rfl, hb5⟩; have s1 := hold8 hb5 (hold8dr s0); have hzz := new_lt0 hb5; have hq5 := bseq (Below.refl _ w4).drew hb5) | (go_at_call 66; (with_reducible refine (HCUT.out (w4.alloc (.cells #[.slice none 0 0, .int .i64 0, .int .i64 0, .int .i64 0, .int .i64 0, .bool false, .bool false] 94)).drew (balloc (Below.refl _ w4)).drew).mono ?_); rintro e w5 ⟨rfl, hb5⟩; have s1 := hold8 hb5 (hold8dr (hold8al s0)); have hzz := new_lt1 hb5; have hnb := new_b1 hb5; obtain ⟨⟨g0, g1, g2, g3, g4, g5, g6⟩, v0, v1, v2, v3, v4, v5, v6⟩ := new_one hb5; have hq5 := bseq (balloc (Below.refl _ w4)).drew hb5) | (go_at_call 66; (with_reducible refine (HCUT.out ((w4.alloc (.cells #[.slice none 0 0, .int .i64 0, .int .i64 0, .int .i64 0, .int .i64 0, .bool false, .bool false] 94)).alloc (.cells #[.slice none 0 0, .int .i64 0, .int .i64 0, .int .i64 0, .int .i64 0, .bool false, .bool false] 94)).drew (balloc (balloc (Below.refl _ w4))).drew).mono ?_); rintro e w5 ⟨rfl, hb5⟩; have s1 := hold8 hb5 (hold8dr (hold8al (hold8al s0))); have hzz := new_lt2 hb5; have hnb := new_b2 hb5; obtain ⟨⟨⟨g0, g1, g2, g3, g4, g5, g6⟩, v0, v1, v2, v3, v4, v5, v6⟩, ⟨j0, j1, j2, j3, j4, j5, j6⟩, u0, u1, u2, u3, u4, u5, u6⟩ := new_two hb5; have hq5 := bseq (balloc (balloc (Below.refl _ w4))).drew hb5))
          all_goals
            have hqq := hq5
            have hge4 := Nat.le_refl w4.heap.size
            clear s0 s00 s1 HH HTI HT HF HFD HFD2 HM9 hl hD hg0
            go_wp2_with fail
            go_meet
            skip
          · exact two1 hqq
          · exact two2 hqq
          · exact two3 (b := w4.heap.size) hqq hnb hge4
          · exact two4 (b := w4.heap.size) hqq hnb hge4
          · exact two5 (b := w4.heap.size) hqq hnb hge4
          · exact two6 (b := w4.heap.size) hqq hnb hge4
        case rest =>
          obtain ⟨e1, e2, rfl, rfl, hB1, hB2, hW5⟩ := hcut
          obtain ⟨⟨z0, z1, z2, z3, z4, z5, z6⟩, -⟩ := part_facts hB2
          have hM10 := HM9.out.below HH.out.row hW5
          have HM10 := Lib.hid hM10
          have h1 := hW5.size
          have hz10 := hM10.st.fr.size
          have hrow10 := hM10.its
          have hlh := headP_one enc t.list i nn
          rw [List.length_append] at hrow10
          clear hM10 HM9 hg0 hD hl hB1 hB2
          by_cases hat0 : 0 < cr.sum.atoms
          · have q1 : ((0 : Int) < cr.sum.atoms) = True := by simpa using hat0
            obtain ⟨ip, zp, hip, hp0, hp1, hp2, hp3⟩ := part_row
            have HAT0 := Lib.hid hat0
            clear hat0
            go_wp2_with (at_builtin; go_loud (refine wpList_append_own_at _ rfl (.tmp 90) (.tmp 92) 89 rfl w.heap.size 94 ip zp 7 64 Tryz.underlying89 hip hp0 hp1 hp2 hp3 (by decide) v7 ((headP enc t.list i nn).length + fr.length) _ rfl (hrow10.alloc _) ⟨wc.heap.size, 0, none⟩ 1 1 [.slice cr.A cr.n cr.c, .int .i64 cr.tag, .int .i64 cr.sum.atoms, .int .i64 cr.sum.bytes, .int .i64 cr.sum.breaks, .bool cr.sum.lf, .bool cr.sum.cr] rfl rfl (cells_new _ _ _) (part_one _ _ _ _ _ _ _ _ _) (by unfold maxLen; omega) (by omega) (by simp; omega) ?_))
            intro v11 w11 hown11 hgr11 _ hat11
            have hM11 := (HM10.out.below HH.out.row (balloc (Below.refl _ wc))).more HH.out.row hgr11 hown11 (its' := headP enc t.list i nn ++ fr ++ [cr]) (by simp only [List.length_append, List.length_singleton]) (by simp [List.flatMap_append, Pc.cells, partC])
            have HM11 := Lib.hid hM11
            clear hM11 hown11 hgr11 hat11 hip hp0 hp1 hp2 hp3 z0 z1 z2 z3 z4 z5 z6
            go_wp2_with fail
            go_meet
            rw [HEE.out, if_pos HAT0.out]
            exact HM11.out
          · have q1 : ((0 : Int) < cr.sum.atoms) = False := eq_false hat0
            have HAT0 := Lib.hid hat0
            clear hat0
            go_wp2_with fail
            go_meet
            rw [HEE.out, if_neg (fun h => absurd h (by have := HAT0.out; omega)), List.append_nil]
            exact HM10.out
    case rest =>
      have hM := hcut
      obtain ⟨w9, hw9⟩ : ∃ x, x = wc := ⟨_, rfl⟩
      subst hw9
      clear hcut hD hl HB1 HB2
      have htr := HH.out.tree.step hM.st HH.out.row HH.out.blk
      obtain ⟨A9, c9, rfl, hc9⟩ := own_slice hM.its
      have hln : (headP enc t.list i nn ++ fr ++ tailP enc t.list j mm).length <= 1048578 := by
        have h1 := headP_one enc t.list i nn
        have h2 := tailP_one enc t.list j mm
        rw [List.length_append, List.length_append]
        omega
      have hrp := rep_pcs (i := i) (n := nn) (j := j) (m := mm) htr.pcs hM.pcs
      obtain ⟨hrd, hra⟩ := rep_law (fr := fr) HFD.out HFD2.out f0 ft
      rw [HDEC.out] at hrd
      have hfa : atsL enc fr = put.map (fun x => (x, -1)) := by
        have h1 : ∀ l : List Pc, (∀ p ∈ l, p.tag = -1) -> atsL enc l = (decL enc l).map (fun d => (d.1, -1)) := by
          intro l
          induction l with
          | nil => intro _; rfl
          | cons p l ih =>
            intro h
            rw [decL_cons, List.map_append, <- ih (fun q hq => h q (List.mem_cons_of_mem _ hq))]
            show atsP enc p ++ _ = _
            unfold atsP
            rw [h p List.mem_cons_self]
            congr 1
            generalize dec enc p.bytes = ds
            clear h
            have : ∀ (ds : List (Int × Int)) (o : Int), tagF (-1) o ds = ds.map (fun d => (d.1, -1)) := by
              intro ds
              induction ds with
              | nil => intro _; rfl
              | cons d ds ih => intro o; simp only [tagF, List.map_cons, ih]; rfl
            exact this ds 0
        rw [h1 fr HTAG.out, HDEC.out]
        unfold withSz
        rw [List.map_map]
        rfl
      rw [hfa] at hra
      have htB : totB (repL enc t.list i nn j mm fr) <= 16777216 := by
        have e1 := totB_dec hrp.ok
        have e2 := totB_dec HTI.out.ok
        have e3 := putL_len enc put HF.out
        have e4 := HT.out
        rw [hrd, List.map_append, List.map_append, List.sum_append, List.sum_append] at e1
        have e5 : ((decL enc t.list).map Prod.snd).sum = (((decL enc t.list).take tt.toNat).map Prod.snd).sum + (((decL enc t.list).drop tt.toNat).map Prod.snd).sum := by
          rw [<- List.sum_append, <- List.map_append, List.take_append_drop]
        have e6 : (((decL enc t.list).take f.toNat).map Prod.snd).sum <= (((decL enc t.list).take tt.toNat).map Prod.snd).sum := by
          have h1 : (decL enc t.list).take tt.toNat = (decL enc t.list).take f.toNat ++ ((decL enc t.list).take tt.toNat).drop f.toNat := by
            conv => lhs; rw [<- List.take_append_drop f.toNat ((decL enc t.list).take tt.toNat), List.take_take, Nat.min_eq_left (by omega)]
          rw [h1, List.map_append, List.sum_append]
          have h2 := sumsOf_good' (((decL_pos enc t.list).take tt.toNat).drop f.toNat)
          obtain ⟨⟨_, _, h4, _⟩, _, h5⟩ := h2
          omega
        omega
      have hLk : LstOk (t.list.take i ++ (headP enc t.list i nn ++ fr ++ tailP enc t.list j mm) ++ t.list.drop (min (j + 1) t.list.length)) := ⟨allGood_of hrp.ok, by have : totB (repL enc t.list i nn j mm fr) <= 16777216 := htB; unfold repL at this; omega, by have := totB_len hrp.ok; have h2 : totB (repL enc t.list i nn j mm fr) <= 16777216 := htB; unfold repL at this h2; omega⟩
      have hLt : LstOk t.list := ⟨HTI.out.good, by omega, hlen⟩
      have hKR := fun (w' : World) (hb : Below w9.heap.size w9 w') => replace_tree t a i (min (j + 1) t.list.length) (fun b => w.heap.size <= b) A9 _ c9 _ w' (NodeAt.below hb _ _ htr.node) hLt (Reads.below (Reads.of_own hM.its) hb) (by omega) (Nat.min_le_right _ _) hc9 hLk
      have hKS := fun (w' : World) (hb : Below w9.heap.size w9 w') => tsize_any t a w' (NodeAt.below hb _ _ htr.node)
      simp only [Tr.size_list] at hKS
      have hrepl : t.list.take i ++ (headP enc t.list i nn ++ fr ++ tailP enc t.list j mm) ++ t.list.drop (min (j + 1) t.list.length) = repL enc t.list i nn j mm fr := rfl
      rw [hrepl] at hKR
      obtain ⟨RL, hRL⟩ : ∃ RL, repL enc t.list i nn j mm fr = RL := ⟨_, rfl⟩
      rw [hRL] at hrp hrd hra htB hKR
      have c2 := hM.blk.cell 2
      simp at c2
      have f2 : ∀ w', Below w9.heap.size w9 w' -> w'.cell? ⟨g, 2, none⟩ = some (.pointer a) /\ w'.frozen? ⟨g, 2, none⟩ = false := fun w' hb => ⟨(hM.blk.below hb).cell 2, (hM.blk.below hb).frozen 2⟩
      have hfin : ∀ wq t7 a7, NodeAt wq t7 a7 -> t7.list = RL -> Below w9.heap.size w9 wq ->
          ∃ add', ReplR g add add' n (n + (putL enc put).length) B xs (xs ++ (putL enc put).map (Value.int .u8)) enc lim ((decL enc t.list).take f.toNat ++ withSz enc put ++ (decL enc t.list).drop tt.toNat) ((atsL enc t.list).take f.toNat ++ put.map (fun x => (x, -1)) ++ (atsL enc t.list).drop tt.toNat) w (wq.setCell ⟨g, 2, none⟩ (.pointer a7)) := by
        intro wq t7 a7 hn hl hb
        have hMq := hM.below HH.out.row hb
        have hneq : add6.ownBlock ≠ some g := own_blk_ne hMq.row hMq.blk (by decide)
        have hset := TStep.set hMq.row hMq.blk hneq 2 (.pointer a7)
        have hpq : PsIn wq add6 (n + (putL enc put).length) enc RL := hrp.far (S := No) (Fr.of_below hb) (fun _ _ hs => hs.elim)
        refine ⟨add6, t7, a7, ⟨(hMq.blk.set_ 2 _).eq_ rfl, own_set_far hMq.row hMq.blk (by decide), HTI.out.enc4, by have := HH.out.base; have := hMq.st.fr.size; simp [World.setCell]; omega, NodeAt.keepS (fun b cs hb' => Below.heap_setCell wq _ _ b (fun e => Blk.ne_ hb' hMq.blk (by decide) e)) _ _ hn, by rw [hl]; exact htB, by rw [hl]; exact hpq.step hset hMq.blk⟩, hMq.st.trans hset HH.out.row HH.out.ne, by rw [hl]; exact hrd, by rw [hl]; exact hra⟩
      have HFIN := Lib.hid hfin
      have HKS := Lib.hid hKS
      have HF2 := Lib.hid f2
      obtain ⟨LEN, hLEN⟩ : ∃ LEN, t.list.length = LEN := ⟨_, rfl⟩
      rw [hLEN] at HKS hKR
      have hlen' : LEN <= 1073741824 := by omega
      have hjl' : j <= LEN := by omega
      obtain ⟨IL, hIL⟩ : ∃ IL, (headP enc t.list i nn ++ fr ++ tailP enc t.list j mm).length = IL := ⟨_, rfl⟩
      rw [hIL] at hKR ⊢
      clear hM htr hrp hrd hra hfa htB hLk hLt hfin hKS f2 hRL hrepl HH HTI HF HT HFD HFD2 HDEC HTAG HM9 b85 hLEN hIL hln hfl
      have e1 : IntKind.i64.wrap ((j : Int) + 1) = (j : Int) + 1 := IntWalk.i64_in _ (by omega)
      have hjm : ((LEN : Int) < (j : Int) + 1) = True /\ ((min (j + 1) LEN : Nat) : Int) = (LEN : Int) \/ ((LEN : Int) < (j : Int) + 1) = False /\ ((min (j + 1) LEN : Nat) : Int) = (j : Int) + 1 := by
        simp only [eq_iff_iff, iff_true, iff_false]
        omega
      rcases hjm with ⟨qm, em⟩ | ⟨qm, em⟩
      all_goals
        rw [em] at hKR
        have HKR := Lib.hid hKR
        clear hKR em
        go_wp2_with fail
        refine wp_region_lin (fun w' => w'.cell? ⟨g, 2, none⟩ = some (.pointer a)) (fun w' => Below w9.heap.size w9 w') (fun k => k == 12 || k == 15 || k == 21) (fun k => k == 21) (fun k => k == 18) (by kernel_rfl) (by kernel_rfl) ((Below.refl _ _).drew) (fun w' h => (HF2.out _ h).1) ?_
        repeat ((first
          | (refine wpL_read (v := ?_) (by rfl) (by rfl) (fun w6 hSw => ?_) ?_; rotate_left; (· (have y0 := hSw; go_simp; try with_reducible rfl)))
          | (refine wpL_free (v := ?_) (by rfl) (fun w6 => ?_) ?_; rotate_left; (· (go_simp; try with_reducible rfl)))
          | refine wpL_not (by rfl) ?_); (try simp only [Act.put, pA, pB, pC]))
        refine wpL_call (f := ?_) (args := ?_) (fun v w' => v = .int .i64 (LEN : Int) /\ Below w9.heap.size w9 w') (by rfl) (by rfl) (fun w6 hSw => ?_) (fun w6 hSw => ?_) (.inr (fun v6 w6 hT6 => ?_)) (fun v6 hv6 => ?_)
        rotate_left 2
        · (skip; go_simp; first | done | (constructor <;> with_reducible rfl) | with_reducible rfl)
        · (refine (HKS.out _ hSw).mono ?_; rintro e w' ⟨rfl, hb7⟩; exact ⟨_, rfl, rfl, bseq hSw hb7⟩)
        · (exact (HF2.out _ hT6.2).1)
        obtain ⟨wz, rfl, -⟩ := hv6
        (try simp only [Act.put, pA, pB, pC])
        repeat ((first
          | (refine wpL_read (v := ?_) (by rfl) (by rfl) (fun w6 hSw => ?_) ?_; rotate_left; (· (have y0 := hSw; go_simp; try with_reducible rfl)))
          | (refine wpL_free (v := ?_) (by rfl) (fun w6 => ?_) ?_; rotate_left; (· (go_simp; try with_reducible rfl)))
          | refine wpL_not (by rfl) ?_); (try simp only [Act.put, pA, pB, pC]))
        refine wpL_call (f := ?_) (args := ?_) (fun v w' => ∃ t7 a7, v = .tuple #[.agg #[.pointer a7], .int .i64 0] /\ NodeAt w' t7 a7 /\ t7.list = RL /\ Below w9.heap.size w9 w') (by rfl) (by rfl) (fun w6 hSw => ?_) (fun w6 hSw => ?_) (.inr (fun v6 w6 hT6 => ?_)) (fun v6 hv6 => ?_)
        rotate_left 2
        · (skip; go_simp; first | done | (constructor <;> with_reducible rfl) | with_reducible rfl)
        · (refine (HKR.out _ hSw.2).mono ?_; rintro e w' ⟨t7, a7, rfl, hn7, hl7, hb7⟩; exact ⟨_, rfl, t7, a7, rfl, hn7, hl7, bseq hSw.2 hb7⟩)
        · (obtain ⟨t7, a7, -, -, -, hb7⟩ := hT6; exact (HF2.out _ hb7).1)
        obtain ⟨wz, t7, a7, rfl, -, -, -⟩ := hv6
        (try simp only [Act.put, pA, pB, pC])
        repeat ((first
          | (refine wpL_read (v := ?_) (by rfl) (by rfl) (fun w6 hSw => ?_) ?_; rotate_left; (· (have y0 := hSw; go_simp; try with_reducible rfl)))
          | (refine wpL_free (v := ?_) (by rfl) (fun w6 => ?_) ?_; rotate_left; (· (go_simp; try with_reducible rfl)))
          | refine wpL_not (by rfl) ?_); (try simp only [Act.put, pA, pB, pC]))
        refine wpL_heavy (fun _ w' => ∃ wq t7, NodeAt wq t7 a7 /\ t7.list = RL /\ Below w9.heap.size w9 wq /\ w' = wq.setCell ⟨g, 2, none⟩ (.pointer a7)) (by rfl) (by rfl) (fun w6 hSw => ?_) (.inl (by rfl)) (fun v6 hv6 => ?_)
        · (obtain ⟨t8, a8, he8, hn8, hl8, hb8⟩ := hSw; simp at he8; subst he8; obtain ⟨y0, y1⟩ := HF2.out _ hb8; go_simp; exact ⟨w6, t8, hn8, hl8, hb8, rfl⟩)
        skip
        (try simp only [Act.put, pA, pB, pC])
        refine wpL_nil ?_
        rintro w10 ⟨wq, t8, hn8, hl8, hb8, rfl⟩
        have HP := Lib.hid (HFIN.out wq t8 a7 hn8 hl8 hb8)
        clear hn8 hl8 hb8
        show bodyPost _ _ _ _ _ _
        refine bodyPost_end (results_none rfl _ _ _) rfl ?_
        exact ⟨rfl, HP.out⟩
end Go.Proofs.YtflhiohjikgedaaGreatDoor
