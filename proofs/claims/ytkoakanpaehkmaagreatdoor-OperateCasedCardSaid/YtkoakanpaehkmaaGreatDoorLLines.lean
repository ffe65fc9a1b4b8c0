/-
  The walks of package piece: Seek. The walks of package lines.
-/
import Derived.Test.YtkoakanpaehkmaaGreatDoorLEnds
set_option linter.unusedSimpArgs false
set_option linter.unusedVariables false
set_option maxRecDepth 100000
set_option maxHeartbeats 32000000
namespace Go.Proofs.YtkoakanpaehkmaaGreatDoor
open Go.RowKit
def SkR (enc k : Int) (x : Pc) (Q : List (Int × Int)) (J : Nat) (w : World) (B6 B7 : Nat) (kk : Nat) (q : Value) (wr : World) : Prop :=
 ∃ (p : Nat) (pre : List (Int × Int)), q = .int .i64 (p : Int) /\ pre ++ dec enc (x.bytes.drop p) = Q /\ pre.length + fbF k (sumsOf pre) (dec enc (x.bytes.drop p)) = J /\ p <= x.n /\ x.n - p <= kk /\ Below w.heap.size w wr /\
  Blk wr B6 134 (sumsOf pre).cells /\ Blk wr B7 142 x.cells
theorem prefix_bytes {a b : List (Int × Int)} (h : PosD (a ++ b)) : (sumsOf a).bytes <= (sumsOf (a ++ b)).bytes := by
 have ha : PosD a := fun d hd => h d (List.mem_append_left _ hd)
 have hb : PosD b := fun d hd => h d (List.mem_append_right _ hd)
 have h1 := (addF_good (sumsOf_good' ha).1 (sumsOf_good' hb).1).2.2
 have h2 := (sumsOf_good' hb).1
 rw [sumsOf_app ha hb, h1]
 obtain ⟨x, y, z, _⟩ := h2
 omega
theorem seg_past (l : List Int) (k : Nat) (h : l.length <= k) : seg (k : Int) ((k : Int) + 1) l = [] := by
 unfold seg
 rw [Int.toNat_natCast, List.drop_eq_nil_of_le h, List.take_nil]
theorem seek_main (D : Nat -> Prop) (g : Nat) (enc lim : Int) (t : Tr) (a : Option Addr) (add : Value) (k : Int) (w : World) (h : TextIn w D g enc lim t a add) (k0 : 0 < k) (k1 : k <= (sumsOf (decL enc t.list)).breaks) :
  Calls Tryz.prog 127 #[.pointer (some ⟨g, 0, none⟩), .int .i64 k] w fun e w' => e = .returned (.int .i64 (sF (decL enc t.list) k)) /\ Below w.heap.size w w' := by
 have hdl := h.decLen
 have htot := h.tot
 have hgo := h.good
 obtain ⟨i, e1, e2, e3, e4⟩ := findL_key (kk := 1) t.list zeroS k hgo zeroS_good (by simp only [zeroS, keyF]; omega) (by rw [addF_zero_left, sumL_dec h.ok]; exact k1)
 rw [addF_zero_left] at e3 e4
 obtain ⟨x, hx⟩ : ∃ x, t.list[i]? = some x := ⟨_, List.getElem?_eq_getElem e2⟩
 have hxo := h.ok x (List.mem_of_getElem? hx)
 have hxb := h.bts x (List.mem_of_getElem? hx)
 have hti : t.list.take (i + 1) = t.list.take i ++ [x] := by rw [List.take_add_one, hx]; rfl
 have hds : decL enc t.list = decL enc (t.list.take i) ++ (dec enc x.bytes ++ decL enc (t.list.drop (i + 1))) := by
  conv => lhs; rw [<- List.take_append_drop (i + 1) t.list, hti]
  rw [decL_app, decL_app, List.append_assoc]
  congr 2
  simp [decL]
 have hs1 : sumL (t.list.take i) = sumsOf (decL enc (t.list.take i)) := sumL_dec (fun q hq => h.ok q (List.mem_of_mem_take hq))
 have hs2 : sumL (t.list.take (i + 1)) = sumsOf (decL enc (t.list.take i) ++ dec enc x.bytes) := by
  rw [sumL_dec (fun q hq => h.ok q (List.mem_of_mem_take hq)), hti, decL_app]
  congr 2
  simp [decL]
 rw [hs1] at e3
 rw [hs2] at e4
 obtain ⟨pre0, hpre⟩ : ∃ p, decL enc (t.list.take i) = p := ⟨_, rfl⟩
 have hpp : PosD pre0 := by rw [<- hpre]; exact decL_pos _ _
 rw [hpre] at e3 e4 hds hs1
 have e3' : (sumsOf pre0).breaks < k := e3
 have e4' : k <= (sumsOf (pre0 ++ dec enc x.bytes)).breaks := e4
 obtain ⟨ds, hdd⟩ : ∃ ds, decL enc t.list = ds := ⟨_, rfl⟩
 rw [hdd] at hds k1 hdl ⊢
 obtain ⟨J, hJ⟩ : ∃ J, fbF k zeroS ds = J := ⟨_, rfl⟩
 have hJ1 : pre0.length + fbF k (sumsOf pre0) (dec enc x.bytes) = J := by
  rw [<- hJ, hds, (fbF_app pre0 zeroS zeroS_good hpp).2 e3']
  show _ = pre0.length + fbF k (sumsOf pre0) (dec enc x.bytes ++ decL enc (t.list.drop (i + 1)))
  rw [(fbF_app (dec enc x.bytes) (sumsOf pre0) (sumsOf_good' hpp).1 (dec_pos _ _)).1 ?_]
  ·have : (dec enc x.bytes).foldl stepS (sumsOf pre0) = sumsOf (pre0 ++ dec enc x.bytes) := by unfold sumsOf; rw [List.foldl_append]
   rw [this]; exact e4'
 have hQ : ∃ rest, ds = (pre0 ++ dec enc x.bytes) ++ rest := ⟨_, by rw [hds, List.append_assoc]⟩
 have hdpos : PosD ds := by rw [<- hdd]; exact decL_pos _ _
 have hdby : (sumsOf ds).bytes <= 1073741824 := by rw [<- hdd, <- sumL_dec h.ok, (sumL_good hgo).2]; exact htot
 obtain ⟨V, hV⟩ : ∃ V, sF ds k = V := ⟨_, rfl⟩
 have hVJ : V = if (sumsOf (ds.take J)).cr = true /\ J < ds.length /\ (ds.map Prod.fst).getD J 0 = 10 then (J : Int) + 1 else J := by
  rw [<- hV]
  unfold sF
  rw [if_neg (by omega), if_neg (by omega), hJ]
 rw [hV]
 have hJle : J <= ds.length := by rw [<- hJ]; exact fbF_le _ _ _
 have hfi := fun (w' : World) (hb : Below w.heap.size w w') => find_any t a 1 k w' (NodeAt.below hb t a h.node) h.len hgo (by omega)
 rw [if_neg (by omega), e1] at hfi
 have hlen := h.len
 have hu := fun (w' : World) (hb : Below w.heap.size w w') => upto_any t a (i : Int) w' (NodeAt.below hb t a h.node) hlen (by omega) hgo (by omega)
 have hat := fun (w' : World) (hb : Below w.heap.size w w') => tat_any t a (i : Int) w' (NodeAt.below hb t a h.node) hlen (by omega)
 have hget : t.get (i : Int) = some x := by unfold Tr.get; rw [if_neg (by omega), Int.toNat_natCast]; exact hx
 rw [Int.toNat_natCast, hs1] at hu
 rw [hget] at hat
 have hsum := tsum_any t a w h.node
 rw [h.sum, hdd] at hsum
 have hsg := (sumsOf_good' hdpos).1
 have k2 : k <= 1073741824 := by
  obtain ⟨q1, q2, q3, _⟩ := hsg
  omega
 have htx : TextAt w D g enc ds := ⟨lim, t, a, add, h, hdd⟩
 have hta := fun (w' : World) (hb : Below w.heap.size w w') => tatoms_any D g enc ds (J : Int) ((J : Int) + 1) w' (htx.below hb) (by omega) (by omega)
 obtain ⟨S, hS⟩ : ∃ S, sumsOf ds = S := ⟨_, rfl⟩
 rw [hS] at hsum k1
 have HSUM := Lib.hid hsum
 have HFI := Lib.hid hfi
 have HU := Lib.hid hu
 have HAT := Lib.hid hat
 have HTA := Lib.hid hta
 have HVJ := Lib.hid hVJ
 have HJ1 := Lib.hid hJ1
 have HQ := Lib.hid hQ
 have HDP := Lib.hid hdpos
 have i1 : i <= 1073741824 := by omega
 have kf := field2 S.atoms S.bytes S.breaks S.lf S.cr
 obtain ⟨_, c2⟩ := h.cells
 have q0 : (k == 0) = false := by rw [beq_eq_false_iff_ne]; omega
 clear hsum hfi hu hat hta hVJ hJ1 hQ hdpos e1 e2 e3 e4 hti hs1 hs2 hV hS hget hx hdd hpre hds hJ hsg e4'
 go_enter Tryz.func127, Tryz.ntmps127
 go_wp2_with fail
 refine (HSUM.out).mono ?_
 rintro e w1 ⟨rfl, hb1⟩
 obtain ⟨_, c2⟩ := (h.below hb1).cells
 clear HSUM
 go_wp2_with fail
 refine (HFI.out _ hb1).mono ?_
 rintro e w2 ⟨rfl, hb2⟩
 have hW2 := bseq hb1 hb2
 obtain ⟨_, c2⟩ := (h.below hW2).cells
 clear HFI hb1 hb2
 simp only [Sums.cells] at HU
 go_wp2_with fail
 refine (HU.out _ hW2).mono ?_
 rintro e w3 ⟨rfl, hb3⟩
 have hW3 := bseq hW2 hb3
 obtain ⟨_, c2⟩ := (h.below hW3).cells
 have zg := (h.below hW3).blk.lt
 have hW4 := balloc (o := .cells (sumsOf pre0).cells 134) hW3
 have b6 : Blk (w3.alloc (.cells (sumsOf pre0).cells 134)) w3.heap.size 134 (sumsOf pre0).cells := Blk.new w3 _ _
 simp only [Sums.cells] at hW4 b6
 clear HU hb3 hW2
 go_wp2_with fail
 refine (HAT.out _ hW4).mono ?_
 rintro e w4 ⟨rfl, hb4⟩
 have hW5 := bseq hW4 hb4
 have b65 := b6.below hb4
 have hW6 := balloc (o := .cells x.cells 142) hW5
 have b66 := b65.alloc (.cells x.cells 142)
 have b76 : Blk (w4.alloc (.cells x.cells 142)) w4.heap.size 142 x.cells := Blk.new w4 _ _
 have n67 : w3.heap.size < w4.heap.size := b65.lt
 have n6 : w.heap.size <= w3.heap.size := hW3.size
 clear HAT hb4 hW4 hW5 b6 b65 c2 zg
 simp only [partV]
 simp only [Pc.cells, partC] at hW6 b66 b76
 go_wp2_with fail
 go_loopg [9] x.n (fun kk q wr => SkR enc k x (pre0 ++ dec enc x.bytes) J w w3.heap.size w4.heap.size kk q wr)
 case atStart =>
  exact ⟨0, pre0, rfl, by rw [List.drop_zero], by rw [List.drop_zero]; exact HJ1.out, Nat.zero_le _, Nat.le_refl _, hW6, b66, b76⟩
 case round =>
  obtain ⟨p, pre, rfl, hq, hjj, hp, hk, hW, b6, b7⟩ := hrel
  have hxl := hxo.len
  have HQQ := Lib.hid hq
  have HJJ := Lib.hid hjj
  have HXL := Lib.hid hxl
  obtain ⟨rest, hrest⟩ := HQ.out
  have hpos : PosD (pre ++ (dec enc (x.bytes.drop p) ++ rest)) := by rw [<- List.append_assoc, hq, <- hrest]; exact HDP.out
  have hppos : PosD pre := fun d hd => hpos d (List.mem_append_left _ hd)
  have hpb := prefix_bytes hpos
  rw [<- List.append_assoc, hq, <- hrest] at hpb
  have hsg := sumsOf_good' hppos
  have hsok : (sumsOf pre).ok := hsg.1.ok (by omega)
  have hplen : pre.length <= 1073741824 := by
   have := congrArg List.length hrest
   rw [<- hq] at this
   simp only [List.length_append] at this
   omega
  obtain ⟨⟨sa, sb, sk, sl, sc⟩, hs⟩ : ∃ s, sumsOf pre = s := ⟨_, rfl⟩
  have hsa : sa = (pre.length : Int) := by rw [<- hsg.2.1, hs]
  have hskb : 0 <= sk /\ sk <= 1073741824 := by
   rw [hs] at hsg
   obtain ⟨⟨y1, y2, _⟩, y4, _⟩ := hsg
   dsimp only at y1 y2 y4
   omega
  rw [hs] at b6 hsok
  have HS := Lib.hid hs
  have HSA := Lib.hid hsa
  obtain ⟨c0, c1, c2, c3, c4, f0, f1, f2, f3, f4⟩ := sums_facts b6
  obtain ⟨d0, d1, d2, d3, d4, d5, d6⟩ := cells_at b7
  dsimp only at c0 c1 c2 c3 c4
  obtain ⟨sk0, sk1⟩ := hskb
  clear hq hjj hxl hpos hpb hsg hs hsa hrest
  by_cases hgo2 : p < x.n /\ sk < k
  ·obtain ⟨hlt, hkk⟩ := hgo2
   have hz := sizeAt_bd enc (x.bytes.drop p) (by rw [List.length_drop]; have := HXL.out; omega)
   have hdc := dec_cons enc (x.bytes.drop p) (by rw [List.length_drop]; have := HXL.out; omega)
   rw [List.length_drop, HXL.out] at hz
   obtain ⟨z, hzz⟩ : ∃ z : Nat, sizeAt enc (x.bytes.drop p) = (z : Int) := ⟨(sizeAt enc (x.bytes.drop p)).toNat, by omega⟩
   obtain ⟨at_, hat⟩ : ∃ a, atomAt enc (x.bytes.drop p) = a := ⟨_, rfl⟩
   have hcn := fun (wy : World) (hy : Below wr.heap.size wr wy) => cnext_any enc D x.A x.n x.c p x.bytes wy h.enc4 (Reads.below (Reads.below hxb hW) hy) hxo.byt (by have := hxo.nle; omega) hxo.cap hlt
   rw [hzz, hat] at hcn hdc
   rw [hzz] at hz
   rw [List.drop_drop, Int.toNat_natCast] at hdc
   have hxn := hxo.nle
   have HCN := Lib.hid hcn
   have HDC := Lib.hid hdc
   have hz1 : 1 <= z := by omega
   have hz2 : z <= x.n - p := by omega
   have hkt : decide (sk < k) = true := by simpa using hkk
   have HXO := Lib.hid hxo
   have HXB := Lib.hid hxb
   have HH := Lib.hid h
   have ct := (h.below hW).cells.1
   clear hcn hdc hz hzz hat hxo hxb h htx
   go_upto_region 10 with fail
   go_cut [10, 11] (fun q10 q11 wx => q10 = .int .i64 at_ /\ q11 = .int .i64 (z : Int) /\ Below wr.heap.size wr wx)
   case first =>
    clear c0 c1 c2 c3 c4 f0 f1 f2 f3 f4 d1 d2 d3 d4 d5 d6
    refine (wpIn_wide (n := 3)).1 ?_
    refine wpIn_region_mid (fun _ => trivial) rfl (fun _ _ _ _ h => callsIn_wide.2 h) 7 _ (by kernel_rfl) (by kernel_rfl) rfl ?_
    simp only [List.take_succ_cons, List.take_zero]
    repeat still_step
    refine wpStill_nil ?_
    gi_wp2_with (first | (refine ⟨trivial, ?_⟩; gi_at_call 118; refine (callsIn_wide.2 (HCN.out _ (Below.drew (Below.refl _ _)))).mono ?_; rintro e w5 ⟨rfl, hb5⟩))
    all_goals
     refine MidQ.go ?_
     simp only [List.drop_succ_cons, List.drop_zero]
     repeat still_step
     refine wpStill_nil ?_
     gi_wp2
     gi_meet
     exact ⟨rfl, rfl, bdrew hb5⟩
   case rest =>
    obtain ⟨rfl, rfl, hb5⟩ := hcut
    have b65 := b6.below hb5
    have b75 := b7.below hb5
    have hW5 := bseq hW hb5
    have hzok : (singleF at_ z).ok := singleF_ok at_ z (by omega)
    clear c0 c1 c2 c3 c4 f0 f1 f2 f3 f4 d0 d1 d2 d3 d4 d5 d6 b6 b7 hW hb5 HCN ct
    obtain ⟨c0, c1, c2, c3, c4, f0, f1, f2, f3, f4⟩ := sums_facts b65
    dsimp only at c0 c1 c2 c3 c4
    go_upto_region 11 with fail
    go_cut [] (fun wx => Blk wx w3.heap.size 134 (addF ⟨sa, sb, sk, sl, sc⟩ (singleF at_ z)).cells /\ Blk wx w4.heap.size 142 x.cells /\ Below w.heap.size w wx)
    case first =>
     go_region_with (first | (go_at_call 157; refine (single_any _ _ _).mono ?_; rintro e w6 ⟨rfl, hb6⟩; obtain ⟨k0, k1, k2, k3, k4, k5, k6, k7, k8, k9⟩ := keep5f (bdrew hb6) ⟨c0, c1, c2, c3, c4, f0, f1, f2, f3, f4⟩) | (go_at_call 156; refine (add_any' ⟨sa, sb, sk, sl, sc⟩ (singleF at_ z) _ hsok hzok).mono ?_; rintro e w7 ⟨rfl, hb7⟩; obtain ⟨j0, j1, j2, j3, j4, j5, j6, j7, j8, j9⟩ := keep5f (bseq (bdrew hb6) hb7) ⟨c0, c1, c2, c3, c4, f0, f1, f2, f3, f4⟩))
     all_goals
      go_wp2_with fail
      go_meet
      have hb67 := bseq (bdrew hb6) hb7
      exact ⟨setS_own (b65.below hb67), setS_far (s' := addF ⟨sa, sb, sk, sl, sc⟩ (singleF at_ z)) (b75.below hb67) (by omega), setS_below (s' := addF ⟨sa, sb, sk, sl, sc⟩ (singleF at_ z)) (bseq hW5 hb67) n6⟩
    case rest =>
     obtain ⟨b66', b76', hW6'⟩ := hcut
     clear c0 c1 c2 c3 c4 f0 f1 f2 f3 f4
     have hstep : sumsOf (pre ++ [(at_, (z : Int))]) = addF ⟨sa, sb, sk, sl, sc⟩ (singleF at_ z) := by
      rw [<- HS.out]
      unfold sumsOf
      rw [List.foldl_append]
      rfl
     have HST := Lib.hid hstep
     clear hstep
     go_wp2_with fail
     go_roundg (x.n - (p + z))
     case measure => omega
     case rel =>
      refine ⟨p + z, pre ++ [(at_, (z : Int))], by go_num, ?_, ?_, by omega, by omega, hW6', ?_, b76'⟩
      ·rw [<- HQQ.out, HDC.out, List.append_assoc]; rfl
      ·rw [<- HJJ.out, HDC.out, HS.out, HST.out, List.length_append]
       show _ = pre.length + (if k <= sk then 0 else fbF k (addF ⟨sa, sb, sk, sl, sc⟩ (singleF at_ z)) (dec enc (x.bytes.drop (p + z))) + 1)
       rw [if_neg (by omega)]
       simp only [List.length_singleton]
       omega
      ·rw [HST.out]; exact b66'
  ·have hJe : J = pre.length := by
    rw [<- HJJ.out]
    by_cases hlt : p < x.n
    ·have hkk : k <= sk := by omega
     rw [HS.out, dec_cons enc _ (by rw [List.length_drop]; have := HXL.out; omega)]
     show pre.length + (if k <= sk then 0 else _) = pre.length
     rw [if_pos hkk]
     rfl
    ·rw [List.drop_eq_nil_of_le (by have := HXL.out; omega), dec_nil]
     rfl
   subst hJe
   obtain rfl := HSA.out
   have htake : ds.take pre.length = pre := by
    obtain ⟨rest, hrest⟩ := HQ.out
    rw [hrest, <- HQQ.out, List.append_assoc, List.take_append_of_le_length (Nat.le_refl _), List.take_length]
   have hV := HVJ.out
   rw [htake, HS.out] at hV
   dsimp only at hV
   have hta := HTA.out wr hW
   obtain ⟨c, hc⟩ : ∃ c, (ds.map Prod.fst).getD pre.length 0 = c := ⟨_, rfl⟩
   rw [hc] at hV
   have HV := Lib.hid hV
   have HCC := Lib.hid hc
   have HTA2 := Lib.hid hta
   clear hta hV hc htake HTA HVJ HQ HQQ HJJ HSA HDP HS d1 d2 d3 d4 d5 d6
   go_upto_region 13 with fail
   all_goals
    go_wp2_with fail
    refine (HTA2.out).mono ?_
    rintro e w5 ⟨v, rfl, hown, hb5⟩
    have hW7 := bseq hW hb5
    have b65 := b6.below hb5
    clear HTA2 c0 c1 c2 c3 c4 f0 f1 f2 f3 f4 d0 b6 b7 hW
    have c0 := b65.cell 0
    have c4 := b65.cell 4
    simp [Sums.cells] at c0 c4
    by_cases hlt : pre.length < ds.length
    ·rw [seg_one _ _ (by rw [List.length_map]; exact hlt), HCC.out] at hown
     obtain ⟨r, cap, rfl, hr1, hr2⟩ := hown.form (by simp)
     have y0 := hown.cells (g := r) rfl 0 (.int .i64 c) (by simp)
     simp [Addr.add] at y0
     have hv := HV.out
     clear hown
     cases sc
     ·rw [if_neg (by simp)] at hv
      have HV2 := Lib.hid hv
      clear hv
      go_wp2_with fail
      go_ret
      exact ⟨ret_i HV2.out.symm, hW7⟩
     ·by_cases hc : c = 10
      ·subst hc
       rw [if_pos ⟨rfl, hlt, rfl⟩] at hv
       have HV2 := Lib.hid hv
       clear hv
       go_wp2_with fail
       go_ret
       exact ⟨ret_i HV2.out.symm, hW7⟩
      ·have q : (c == 10) = false := by rw [beq_eq_false_iff_ne]; exact hc
       rw [if_neg (fun h => hc h.2.2)] at hv
       have HV2 := Lib.hid hv
       clear hv hc
       go_wp2_with fail
       go_ret
       exact ⟨ret_i HV2.out.symm, hW7⟩
    ·rw [seg_past _ _ (by rw [List.length_map]; omega)] at hown
     have hv := HV.out
     rw [if_neg (fun h => hlt h.2.1)] at hv
     have HV2 := Lib.hid hv
     have hvv : ∃ A cap, v = .slice A 0 cap := by
      rcases hown.2 with ⟨h1, _⟩ | ⟨r, cap, cur, h1, _⟩
      ·exact ⟨_, _, h1⟩
      ·exact ⟨_, _, h1⟩
     obtain ⟨A, cap, rfl⟩ := hvv
     clear hv hown
     cases sc
     all_goals
      go_wp2_with fail
      go_ret
      exact ⟨ret_i HV2.out.symm, hW7⟩
theorem seek_any (D : Nat -> Prop) (g : Nat) (enc : Int) (ds : List (Int × Int)) (k : Int) (w : World) (h : TextAt w D g enc ds) :
  Calls Tryz.prog 127 #[.pointer (some ⟨g, 0, none⟩), .int .i64 k] w fun e w' => e = .returned (.int .i64 (sF ds k)) /\ Below w.heap.size w w' := by
 by_cases k0 : k = 0
 ·subst k0
  have e : sF ds 0 = 0 := if_pos rfl
  rw [e]
  clear e
  go_enter Tryz.func127, Tryz.ntmps127
  go_wp2_with fail
  go_ret
  exact ⟨rfl, Below.refl _ _⟩
 ·have q0 : (k == 0) = false := by rw [beq_eq_false_iff_ne]; exact k0
  by_cases k1 : k < 0
  ·have e : sF ds k = -1 := by unfold sF; rw [if_neg k0, if_pos (.inl k1)]
   rw [e]
   have hkt : decide (k < 0) = true := by simpa using k1
   clear e k0
   go_enter Tryz.func127, Tryz.ntmps127
   go_wp2_with fail
   go_ret
   exact ⟨rfl, Below.refl _ _⟩
  ·obtain ⟨lim, t, a, add, hT, rfl⟩ := h
   by_cases k2 : k <= (sumsOf (decL enc t.list)).breaks
   ·exact seek_main D g enc lim t a add k w hT (by omega) k2
   ·have e : sF (decL enc t.list) k = -1 := by unfold sF; rw [if_neg k0, if_pos (.inr (by omega))]
    rw [e]
    have hsum := tsum_any t a w hT.node
    rw [hT.sum] at hsum
    obtain ⟨S, hS⟩ : ∃ S, sumsOf (decL enc t.list) = S := ⟨_, rfl⟩
    rw [hS] at hsum k2
    have HSUM := Lib.hid hsum
    have kf := field2 S.atoms S.bytes S.breaks S.lf S.cr
    obtain ⟨_, c2⟩ := hT.cells
    have hkf : decide (k < 0) = false := by simpa using k1
    have k3 : S.breaks < k := by omega
    have k4 : 0 <= k := by omega
    clear hsum hS e k0
    go_enter Tryz.func127, Tryz.ntmps127
    go_wp2_with fail
    refine (HSUM.out).mono ?_
    rintro e w1 ⟨rfl, hb1⟩
    go_wp2_with fail
    go_ret
    exact ⟨rfl, hb1⟩
structure Ln where
 from_ : Int
 to_ : Int
 next : Int
 brk : Int
def Ln.cells (l : Ln) : Array Value := #[.int .i64 l.from_, .int .i64 l.to_, .int .i64 l.next, .int .i64 l.brk]
def closedF (A : List Int) (from_ next : Nat) : Ln :=
 if A.getD (next - 1) 0 = 13 then ⟨from_, next - 1, next, 3⟩ else if from_ + 2 <= next /\ A.getD (next - 2) 0 = 13 then ⟨from_, next - 2, next, 2⟩ else ⟨from_, next - 1, next, 1⟩
theorem seg_two (l : List Int) (k : Nat) (h : k + 1 < l.length) : seg (k : Int) ((k : Int) + 2) l = [l.getD k 0, l.getD (k + 1) 0] := by
 unfold seg
 rw [show ((k : Int) + 2).toNat - (k : Int).toNat = 2 by omega, Int.toNat_natCast, List.drop_eq_getElem_cons (by omega), List.drop_eq_getElem_cons (by omega), List.getD_eq_getElem?_getD, List.getElem?_eq_getElem (by omega), List.getD_eq_getElem?_getD, List.getElem?_eq_getElem (by omega)]
 rfl
theorem line_facts {w : World} {b : Nat} {l : Ln} (h : Blk w b 75 l.cells) :
  (w.cell? ⟨b, 0, none⟩ = some (.int .i64 l.from_) /\ w.cell? ⟨b, 1, none⟩ = some (.int .i64 l.to_) /\ w.cell? ⟨b, 2, none⟩ = some (.int .i64 l.next) /\ w.cell? ⟨b, 3, none⟩ = some (.int .i64 l.brk)) /\
  w.frozen? ⟨b, 0, none⟩ = false /\ w.frozen? ⟨b, 1, none⟩ = false /\ w.frozen? ⟨b, 2, none⟩ = false /\ w.frozen? ⟨b, 3, none⟩ = false :=
 ⟨⟨h.cell 0, h.cell 1, h.cell 2, h.cell 3⟩, h.frozen 0, h.frozen 1, h.frozen 2, h.frozen 3⟩
theorem below_set4 {w w1 : World} {b : Nat} {u1 u2 u3 u4 : Value} (h : Below w.heap.size w w1) (hb : w.heap.size <= b) :
  Below w.heap.size w ((((w1.setCell ⟨b, 0, none⟩ u1).setCell ⟨b, 1, none⟩ u2).setCell ⟨b, 2, none⟩ u3).setCell ⟨b, 3, none⟩ u4) :=
 (((h.setCell hb _).setCell hb _).setCell hb _).setCell hb _
theorem closed_any (D : Nat -> Prop) (g : Nat) (enc : Int) (ds : List (Int × Int)) (from_ next : Nat) (w : World) (h : TextAt w D g enc ds) (h1 : from_ < next) (h2 : next <= ds.length) :
  Calls Tryz.prog 128 #[.pointer (some ⟨g, 0, none⟩), .int .i64 (from_ : Int), .int .i64 (next : Int)] w fun e w' => e = .returned (.agg (closedF (ds.map Prod.fst) from_ next).cells) /\ Below w.heap.size w w' := by
 have hlen := h.len
 obtain ⟨R, hR⟩ : ∃ R, closedF (ds.map Prod.fst) from_ next = R := ⟨_, rfl⟩
 rw [hR]
 obtain ⟨n, rfl⟩ : ∃ n, next = n + 1 := ⟨next - 1, by omega⟩
 obtain ⟨y, hy⟩ : ∃ y, (ds.map Prod.fst).getD n 0 = y := ⟨_, rfl⟩
 obtain ⟨x, hx⟩ : ∃ x, (ds.map Prod.fst).getD (n - 1) 0 = x := ⟨_, rfl⟩
 have hRR : R = if y = 13 then ⟨from_, n, n + 1, 3⟩ else if from_ + 1 <= n /\ x = 13 then ⟨from_, (n : Int) - 1, n + 1, 2⟩ else ⟨from_, n, n + 1, 1⟩ := by
  rw [<- hR]
  unfold closedF
  have e1 : (((n + 1 : Nat) : Int) - 1) = n := by omega
  have e2 : (((n + 1 : Nat) : Int) - 2) = (n : Int) - 1 := by omega
  have e3 : ((n + 1 : Nat) : Int) = (n : Int) + 1 := by omega
  have e4 : (from_ + 2 <= n + 1 /\ x = 13) ↔ (from_ + 1 <= n /\ x = 13) := by omega
  rw [show n + 1 - 1 = n by omega, show n + 1 - 2 = n - 1 by omega, hy, hx, e1, e2, e3]
  simp only [e4]
 have hW : Below w.heap.size w (w.alloc (.cells (Ln.mk 0 0 0 0).cells 75)) := balloc (Below.refl _ w)
 have b6 : Blk (w.alloc (.cells (Ln.mk 0 0 0 0).cells 75)) w.heap.size 75 (Ln.mk 0 0 0 0).cells := Blk.new w _ _
 have hcast : ((n + 1 : Nat) : Int) = (n : Int) + 1 := by omega
 rw [hcast]
 have HRR := Lib.hid hRR
 clear hR hRR hcast
 have hl : (ds.map Prod.fst).length = ds.length := List.length_map ..
 by_cases hc : from_ = n
 ·subst hc
  have hat := tatoms_any D g enc ds (from_ : Int) ((from_ : Int) + 1) _ (h.below hW) (by omega) (by omega)
  rw [seg_one _ _ (by omega), hy] at hat
  have HAT := Lib.hid hat
  clear hat hl hx hy
  go_enter Tryz.func128, Tryz.ntmps128
  go_wp2_with fail
  refine (HAT.out).mono ?_
  rintro e w1 ⟨v, rfl, hown, hb1⟩
  obtain ⟨⟨z0, z1, z2, z3⟩, u0, u1, u2, u3⟩ := line_facts (b6.below hb1)
  obtain ⟨r, cap, rfl, hr1, hr2⟩ := hown.form (by simp)
  have y0 := hown.cells (g := r) rfl 0 (.int .i64 y) (by simp)
  simp [Addr.add] at y0
  clear hown HAT b6
  by_cases hy13 : y = 13
  ·subst hy13
   have HE := Lib.hid (show R = ⟨from_, from_, (from_ : Int) + 1, 3⟩ from by rw [HRR.out, if_pos rfl])
   clear HRR
   go_wp2_with fail
   refine bodyPost_ret (v := .agg (Ln.mk from_ from_ ((from_ : Int) + 1) 3).cells) (by simp [results, Tryz.results128, go_sem, Ln.cells, z0, z1, z2, z3] <;> omega) rfl ⟨by rw [HE.out], ?_⟩
   exact below_set4 (bseq hW hb1) (Nat.le_refl _)
  ·have q : (y == 13) = false := by rw [beq_eq_false_iff_ne]; exact hy13
   have HE := Lib.hid (show R = ⟨from_, from_, (from_ : Int) + 1, 1⟩ from by rw [HRR.out, if_neg hy13, if_neg (by omega)])
   clear HRR hy13
   go_wp2_with fail
   refine bodyPost_ret (v := .agg (Ln.mk from_ from_ ((from_ : Int) + 1) 1).cells) (by simp [results, Tryz.results128, go_sem, Ln.cells, z0, z1, z2, z3] <;> omega) rfl ⟨by rw [HE.out], ?_⟩
   exact below_set4 (bseq hW hb1) (Nat.le_refl _)
 ·obtain ⟨m, rfl⟩ : ∃ m, n = m + 1 := ⟨n - 1, by omega⟩
  have hat := tatoms_any D g enc ds (m : Int) ((m : Int) + 2) _ (h.below hW) (by omega) (by omega)
  rw [Nat.add_sub_cancel] at hx
  rw [seg_two _ _ (by omega), hy, hx] at hat
  have HAT := Lib.hid hat
  have hcast : ((m + 1 : Nat) : Int) + 1 = (m : Int) + 2 := by omega
  rw [hcast]
  have hfm : from_ <= m := by omega
  clear hat hl hx hy hc hcast
  go_enter Tryz.func128, Tryz.ntmps128
  by_cases hlt : from_ < m
  ·go_wp2_with fail
   refine (HAT.out).mono ?_
   rintro e w1 ⟨v, rfl, hown, hb1⟩
   obtain ⟨⟨z0, z1, z2, z3⟩, u0, u1, u2, u3⟩ := line_facts (b6.below hb1)
   obtain ⟨r, cap, rfl, hr1, hr2⟩ := hown.form (by simp)
   have x0 := hown.cells (g := r) rfl 0 (.int .i64 x) (by simp)
   have y0 := hown.cells (g := r) rfl 1 (.int .i64 y) (by simp)
   simp [Addr.add] at x0 y0
   clear hown HAT b6
   by_cases hy13 : y = 13
   ·subst hy13
    have HE := Lib.hid (show R = ⟨from_, (m : Int) + 1, (m : Int) + 2, 3⟩ from by rw [HRR.out, if_pos rfl]; simp; omega)
    clear HRR
    go_wp2_with fail
    refine bodyPost_ret (v := .agg (Ln.mk from_ ((m : Int) + 1) ((m : Int) + 2) 3).cells) (by simp [results, Tryz.results128, go_sem, Ln.cells, z0, z1, z2, z3] <;> omega) rfl ⟨by rw [HE.out], ?_⟩
    exact below_set4 (bseq hW hb1) (Nat.le_refl _)
   ·have q : (y == 13) = false := by rw [beq_eq_false_iff_ne]; exact hy13
    by_cases hx13 : x = 13
    ·subst hx13
     have HNY := Lib.hid hy13
     clear hy13
     have HE := Lib.hid (show R = ⟨from_, (m : Int), (m : Int) + 2, 2⟩ from by rw [HRR.out, if_neg HNY.out, if_pos ⟨by omega, rfl⟩]; simp; omega)
     clear HRR
     go_wp2_with fail
     refine bodyPost_ret (v := .agg (Ln.mk from_ ((m : Int)) ((m : Int) + 2) 2).cells) (by simp [results, Tryz.results128, go_sem, Ln.cells, z0, z1, z2, z3] <;> omega) rfl ⟨by rw [HE.out], ?_⟩
     exact below_set4 (bseq hW hb1) (Nat.le_refl _)
    ·have q2 : (x == 13) = false := by rw [beq_eq_false_iff_ne]; exact hx13
     have HNY := Lib.hid hy13
     have HNX := Lib.hid hx13
     clear hy13 hx13
     have HE := Lib.hid (show R = ⟨from_, (m : Int) + 1, (m : Int) + 2, 1⟩ from by rw [HRR.out, if_neg HNY.out, if_neg (fun h => HNX.out h.2)]; simp; omega)
     clear HRR
     go_wp2_with fail
     refine bodyPost_ret (v := .agg (Ln.mk from_ ((m : Int) + 1) ((m : Int) + 2) 1).cells) (by simp [results, Tryz.results128, go_sem, Ln.cells, z0, z1, z2, z3] <;> omega) rfl ⟨by rw [HE.out], ?_⟩
     exact below_set4 (bseq hW hb1) (Nat.le_refl _)
  ·obtain rfl : from_ = m := by omega
   go_wp2_with fail
   refine (HAT.out).mono ?_
   rintro e w1 ⟨v, rfl, hown, hb1⟩
   obtain ⟨⟨z0, z1, z2, z3⟩, u0, u1, u2, u3⟩ := line_facts (b6.below hb1)
   obtain ⟨r, cap, rfl, hr1, hr2⟩ := hown.form (by simp)
   have x0 := hown.cells (g := r) rfl 0 (.int .i64 x) (by simp)
   have y0 := hown.cells (g := r) rfl 1 (.int .i64 y) (by simp)
   simp [Addr.add] at x0 y0
   clear hown HAT b6
   by_cases hy13 : y = 13
   ·subst hy13
    have HE := Lib.hid (show R = ⟨from_, (from_ : Int) + 1, (from_ : Int) + 2, 3⟩ from by rw [HRR.out, if_pos rfl]; simp; omega)
    clear HRR
    go_wp2_with fail
    refine bodyPost_ret (v := .agg (Ln.mk from_ ((from_ : Int) + 1) ((from_ : Int) + 2) 3).cells) (by simp [results, Tryz.results128, go_sem, Ln.cells, z0, z1, z2, z3] <;> omega) rfl ⟨by rw [HE.out], ?_⟩
    exact below_set4 (bseq hW hb1) (Nat.le_refl _)
   ·have q : (y == 13) = false := by rw [beq_eq_false_iff_ne]; exact hy13
    by_cases hx13 : x = 13
    ·subst hx13
     have HNY := Lib.hid hy13
     clear hy13
     have HE := Lib.hid (show R = ⟨from_, (from_ : Int), (from_ : Int) + 2, 2⟩ from by rw [HRR.out, if_neg HNY.out, if_pos ⟨by omega, rfl⟩]; simp; omega)
     clear HRR
     go_wp2_with fail
     refine bodyPost_ret (v := .agg (Ln.mk from_ ((from_ : Int)) ((from_ : Int) + 2) 2).cells) (by simp [results, Tryz.results128, go_sem, Ln.cells, z0, z1, z2, z3] <;> omega) rfl ⟨by rw [HE.out], ?_⟩
     exact below_set4 (bseq hW hb1) (Nat.le_refl _)
    ·have q2 : (x == 13) = false := by rw [beq_eq_false_iff_ne]; exact hx13
     have HNY := Lib.hid hy13
     have HNX := Lib.hid hx13
     clear hy13 hx13
     have HE := Lib.hid (show R = ⟨from_, (from_ : Int) + 1, (from_ : Int) + 2, 1⟩ from by rw [HRR.out, if_neg HNY.out, if_neg (fun h => HNX.out h.2)]; simp; omega)
     clear HRR
     go_wp2_with fail
     refine bodyPost_ret (v := .agg (Ln.mk from_ ((from_ : Int) + 1) ((from_ : Int) + 2) 1).cells) (by simp [results, Tryz.results128, go_sem, Ln.cells, z0, z1, z2, z3] <;> omega) rfl ⟨by rw [HE.out], ?_⟩
     exact below_set4 (bseq hW hb1) (Nat.le_refl _)
end Go.Proofs.YtkoakanpaehkmaaGreatDoor
