/-
  A stack of groups: its last one, and what is left without it (plain).
-/
import Derived.Test.YtgiihhikdoikgaaGreatLMapIs
import Derived.Test.YtgiihhikdoikgaaGreatLBegin
import Derived.Test.YtgiihhikdoikgaaGreatLSized
import Derived.Defers
import Derived.Test.YtgiihhikdoikgaaGreatLBoth
import Derived.Test.YtgiihhikdoikgaaGreatLSame
set_option linter.unusedSimpArgs false
set_option linter.unusedVariables false
set_option maxRecDepth 100000
set_option maxHeartbeats 32000000
namespace Go.Proofs.YtgiihhikdoikgaaGreat
open Go.RowKit
theorem desk_text (gd gb g : Nat) (ds cs : Array Value) (w : World) (hd : Blk w gd 42 ds) (h1 : ds[0]? = some (.pointer (some ⟨gb, 0, none⟩))) (hb : Blk w gb 97 cs) (h0 : cs[0]? = some (.pointer (some ⟨g, 0, none⟩))) :
  Calls Tryz.prog 34 #[.pointer (some ⟨gd, 0, none⟩)] w fun e w' => e = .returned (.pointer (some ⟨g, 0, none⟩)) /\ w = w' := by
 have HK := Lib.hid (btext_any w gb g cs hb h0)
 have c0 := hd.cell 0
 rw [h1] at c0
 clear hb h0 hd h1
 go_enter Tryz.func34, Tryz.ntmps34
 go_wp2_with fail
 refine (HK.out).mono ?_
 rintro e w1 ⟨rfl, rfl⟩
 go_wp2_with fail
 go_ret
 exact ⟨rfl, rfl⟩
theorem must_ok (w : World) : Calls Tryz.prog 28 #[.int .i64 0] w fun e w' => e = .returned (.tuple #[]) /\ w = w' := by
 go_enter Tryz.func28, Tryz.ntmps28
 go_wp2_with fail
 show bodyPost _ _ _ _ _ _
 refine bodyPost_end (results_none rfl _ _ _) rfl ?_
 exact ⟨rfl, rfl⟩
theorem own_fullN {w : World} {g n B size : Nat} {e : TypeId} {xs : List Value} (h : w.ownsRow B e size (.slice (some ⟨g, 0, none⟩) n n) n xs) : Blk w g e xs.toArray := by
 rcases h.2 with ⟨e0, _⟩ | ⟨g', cap, cur, e1, _, e3, _, _, e5, e6⟩
 ·cases e0
 ·injection e1 with e1 e1' e1''
  injection e1 with e1
  injection e1 with e1
  subst e1
  subst e1''
  have : cur = xs.toArray := by
   rw [<- e6, <- e5, <- Array.length_toList, List.take_length]
  rw [<- this]
  exact e3
theorem sized_of {enc : Int} (he : enc = 1 \/ enc = 2 \/ enc = 3 \/ enc = 4) : ∀ {ps : List Pc}, (∀ p ∈ ps, PcOk enc p) -> decL enc ps = withSz enc ((decL enc ps).map Prod.fst) := by
 intro ps
 induction ps with
 | nil => intro _; rfl
 | cons p ps ih =>
  intro h
  have h1 := ih (fun q hq => h q (List.mem_cons_of_mem _ hq))
  have h2 := dec_sized enc he p.bytes.length p.bytes (Nat.le_refl _) (h p List.mem_cons_self).byt
  rw [decL_cons, List.map_append]
  unfold withSz at h1 h2 ⊢
  rw [List.map_append, <- h1, <- h2]
def sizedA (enc : Int) (ats : List (Int × Int)) : List (Int × Int) := withSz enc (ats.map Prod.fst)
theorem sizedA_of {enc : Int} (he : enc = 1 \/ enc = 2 \/ enc = 3 \/ enc = 4) {ps : List Pc} (h : ∀ p ∈ ps, PcOk enc p) : decL enc ps = sizedA enc (atsL enc ps) := by
 unfold sizedA
 rw [atsL_fst]
 exact sized_of he h
def mvOf (e : Ed) : Mv := ⟨e.f, e.t, (e.n : Int)⟩
def chg (e : Ed) : Bool := decide (e.f < e.t) || decide (0 < e.n)
theorem mvFlat_len (l : List Mv) : (mvFlat l).length = l.length * 3 := by
 unfold mvFlat
 induction l with
 | nil => rfl
 | cons p ps ih => rw [List.flatMap_cons, List.length_append, ih]; simp [Mv.cells]; omega
theorem set3_take (cs : Array Value) (j : Nat) (x y z : Value) (h : j * 3 + 3 <= cs.size) : (((cs.setIfInBounds (j * 3) x).setIfInBounds (j * 3 + 1) y).setIfInBounds (j * 3 + 2) z).toList.take ((j + 1) * 3) = cs.toList.take (j * 3) ++ [x, y, z] := by
 apply List.ext_getElem?
 intro i
 rw [List.getElem?_take]
 by_cases h1 : i < j * 3
 ·rw [if_pos (by omega), List.getElem?_append_left (by simp; omega), List.getElem?_take, if_pos h1]
  simp only [Array.toList_setIfInBounds]
  rw [List.getElem?_set_ne (by omega), List.getElem?_set_ne (by omega), List.getElem?_set_ne (by omega)]
 ·have hl : (cs.toList.take (j * 3)).length = j * 3 := by simp; omega
  rw [List.getElem?_append_right (by omega), hl]
  by_cases h2 : i < (j + 1) * 3
  ·rw [if_pos h2]
   simp only [Array.toList_setIfInBounds]
   obtain h3 | h3 | h3 : i = j * 3 \/ i = j * 3 + 1 \/ i = j * 3 + 2 := by omega
   ·subst h3
    rw [List.getElem?_set_ne (by omega), List.getElem?_set_ne (by omega), List.getElem?_set_self (by simp; omega)]
    simp
   ·subst h3
    rw [List.getElem?_set_ne (by omega), List.getElem?_set_self (by simp; omega)]
    simp
   ·subst h3
    rw [List.getElem?_set_self (by simp; omega)]
    simp
  ·rw [if_neg h2]
   rw [List.getElem?_eq_none (by simp; omega)]
def opC (s m : Nat) (vm : Value) (o : OpS) (ch : Bool) : Array Value := #[.pointer (some ⟨s, 0, none⟩), .pointer none, .int .i64 o.bgn, .int .i64 0, vm, .int .i64 o.old, .int .i64 0, .map (some m), .slice none 0 0, .bool ch]
def BChgR (w2 : World) (b p s m : Nat) (vm : Value) (o : OpS) (es : List Ed) (k : Nat) (q28 : Value) (wr : World) : Prop :=
 ∃ (j : Nat) (cs : Array Value), q28 = .int .i64 (j : Int) /\ Blk wr b 207 cs /\ cs.size = es.length * 3 /\ Hid (cs.toList.take (j * 3) = mvFlat ((es.take j).map mvOf)) /\ Blk wr p 196 (opC s m vm o (o.changed || (es.take j).any chg)) /\ Fr (fun x => x = b \/ x = p) w2 wr /\ j <= es.length /\ es.length - j <= k
theorem move_info : (Tryz.prog.info? 207).map (fun i => (i.zero, i.size, i.bytes)) = some (some (.agg #[.int .i64 0, .int .i64 0, .int .i64 0]), 3, 24) := by kernel_rfl
theorem rows_info : (Tryz.prog.info? 184).map (fun i => (i.zero, i.size, i.bytes)) = some (some (.slice none 0 0), 1, 24) := by kernel_rfl
def BChgPost (N B gb g : Nat) (enc lim : Int) (n : Nat) (add : Value) (st : BkS) (o : OpS) (m : Nat) (vu vr : Value) (now : Option Addr) (es : List Ed) (w w' : World) : Prop :=
 ∃ n' add' t' a' xs', BkAt w' N B gb g enc lim n' add' { st with ats := edA es st.ats, now := some { o with moves := o.moves ++ [es.map mvOf], changed := o.changed || es.any chg } } t' a' xs' m vu vr now /\ n' <= n + 131072 /\ BkFr B w w'
theorem TStep.other {g n n' B : Nat} {add add' : Value} {xs : List Value} {w w' : World} {csT : Array Value} (hs : TStep g add add' n n' w w') (hr : w.ownsRow B 5 1 add n xs) (hg : Blk w g 104 csT) : ∀ {T : TypeId} {cs : Array Value} {b : Nat}, Blk w b T cs -> T ≠ 104 -> T ≠ 5 -> ¬ (b = g \/ add.ownBlock = some b) := fun hb h1 h2 hh => by
 rcases hh with rfl | hh
 ·exact Blk.ne_ hb hg h1 rfl
 ·exact own_blk_ne hr hb (Ne.symm h2) hh
theorem TStep.map {g n n' B mb m : Nat} {add add' : Value} {xs : List Value} {w w' : World} {csT : Array Value} (hs : TStep g add add' n n' w w') (hr : w.ownsRow B 5 1 add n xs) (hg : Blk w g 104 csT) (h : MapE w mb m) : MapE w' mb m :=
 h.fr hs.fr (fun hh => by
  rcases hh with rfl | hh
  ·exact h.ne_blk hg rfl
  ·rcases hr.2 with ⟨rfl, _⟩ | ⟨r, c, cur, rfl, _, h2, _⟩
   ·cases hh
   ·have : r = m := by simpa [Value.ownBlock] using hh
    subst this
    exact h.ne_blk h2 rfl)
theorem BkAt.changed {w w1 w7 : World} {N B gb g n n1 m p s m2 b k : Nat} {enc lim : Int} {add add1 vm u vu vr : Value} {st : BkS} {o : OpS} {t t1 : Tr} {a a1 : Option Addr} {xs xs1 vs : List Value} {es : List Ed} {cs : Array Value} {ch : Bool}
  (h : BkAt w N B gb g enc lim n add st t a xs m vu vr (some ⟨p, 0, none⟩)) (hp0 : Blk w p 196 (opC s m2 vm o o.changed)) (hm2 : MapE w st.mb m2) (hsn : SnapB w N g add n enc s o.before) (hvm : w.ownsRow N 184 1 vm vs.length vs) (hmv : MvRows w w.heap.size vs o.moves) (hml : o.moves.length < 1048576)
  (hT1 : TextM w1 B g enc lim n1 add1 t1 a1 xs1) (hS1 : TStep g add add1 n n1 w w1) (hd1 : szS (decL enc t1.list) <= 65536) (ha1 : atsL enc t1.list = edA es st.ats)
  (hF : Fr (fun x => x = p \/ OwnB vm x) w1 w7) (hP7 : Blk w7 p 196 (opC s m2 u o ch)) (hu : w7.ownsRow N 184 1 u (vs.length + 1) (vs ++ [.slice (some ⟨b, 0, none⟩) k k]))
  (hB7 : Blk w7 b 207 cs) (hcs : cs.toList = mvFlat (es.map mvOf)) (hk : es.length = k) :
  BkAt w7 N B gb g enc lim n1 add1 { st with ats := edA es st.ats, now := some { o with moves := o.moves ++ [es.map mvOf], changed := ch } } t1 a1 xs1 m vu vr (some ⟨p, 0, none⟩) := by
 have nown := @TStep.other g n n1 B add add1 xs w w1 _ hS1 h.text.row h.text.blk
 have hp1 := hp0.fr hS1.fr (nown hp0 (by decide) (by decide))
 have hvm1 : w1.ownsRow N 184 1 vm vs.length vs := own_fr' hvm hS1.fr (fun b cs' hs hc => nown hc (by decide) (by decide) hs)
 have hgb1 := h.blk.fr hS1.fr (nown h.blk (by decide) (by decide))
 have typed : ∀ x, (x = p \/ OwnB vm x) -> (∃ cs', Blk w1 x 196 cs') \/ (∃ cs', Blk w1 x 184 cs' /\ N <= x) := fun x hx => by
  rcases hx with rfl | hx
  ·exact .inl ⟨_, hp1⟩
  ·rcases hvm1.2 with ⟨e0, _⟩ | ⟨r, c, cur, e0, h1, h2, _⟩
   ·unfold OwnB at hx
    rw [e0] at hx
    cases hx
   ·unfold OwnB at hx
    rw [e0] at hx
    have : r = x := by simpa [Value.ownBlock] using hx
    subst this
    exact .inr ⟨cur, h2, h1⟩
 have notT : ∀ {T : TypeId} {cs' : Array Value} {x : Nat}, Blk w1 x T cs' -> T ≠ 196 -> T ≠ 184 -> ¬ (x = p \/ OwnB vm x) := fun hb h1 h2 hx => by
  rcases typed _ hx with ⟨c1, hc⟩ | ⟨c1, hc, _⟩
  ·exact Blk.ne_ hb hc h1 rfl
  ·exact Blk.ne_ hb hc h2 rfl
 have hFar : ∀ x, x < w1.heap.size -> (x = p \/ OwnB vm x) -> Far2 w1 N x := fun x _ hx => by
  rcases typed _ hx with ⟨c1, hc⟩ | ⟨c1, hc, hN⟩
  ·exact Far2.blk hc (by decide)
  ·exact Far2.new hc (by decide) hN
 have hmap : ∀ {r : Nat}, MapE w1 st.mb r -> MapE w7 st.mb r := fun {r} hr => hr.fr hF (fun hx => by
  rcases typed _ hx with ⟨c1, hc⟩ | ⟨c1, hc, _⟩
  ·exact hr.ne_blk hc rfl
  ·exact hr.ne_blk hc rfl)
 have hK : GKeep N add add1 n n1 enc w w7 := (GKeep.step hS1 h.text.row h.text.blk).trans (GKeep.far hF hFar)
 have hown : ∀ v' k' ys, w.ownsRow B 177 1 v' k' ys -> w7.ownsRow B 177 1 v' k' ys := fun v' k' ys ho =>
  own_fr' (own_fr' ho hS1.fr (fun b cs' hs hc => nown hc (by decide) (by decide) hs)) hF (fun b cs' hs hc => notT hc (by decide) (by decide) hs)
 have hkm : KeepTy w.heap.size 207 w w7 := (GKeep.step (N := w.heap.size) (enc := enc) hS1 h.text.row h.text.blk).mvs.trans (KeepTy.fr hF (fun b cs' _ hs hc => notT hc (by decide) (by decide) hs))
 have hsz : w.heap.size <= w7.heap.size := Nat.le_trans hS1.fr.size hF.size
 refine ⟨hgb1.fr hF (notT hgb1 (by decide) (by decide)), hT1.far hF (fun k hk hs => (hFar k hk hs).1), ha1, hd1, h.lim0, hmap (hS1.map h.text.row h.text.blk h.map), h.undo.keep hK (Nat.le_refl _) (hown _), h.redo.keep hK (Nat.le_refl _) (hown _), h.sep, ?_, Nat.le_trans h.nle hsz, h.nums, h.low⟩
 refine ⟨p, rfl, s, m2, u, vs ++ [.slice (some ⟨b, 0, none⟩) k k], hP7, hmap (hS1.map h.text.row h.text.blk hm2), hsn.keep hK, by rw [List.length_append]; exact hu, ?_, by simp only [List.length_append, List.length_singleton]; omega⟩
 have hold := (hmv.keep hkm).mono hsz
 refine ⟨by simp [hold.1], fun i v mv hv hm => ?_⟩
 rcases Nat.lt_or_ge i vs.length with hlt | hge
 ·rw [List.getElem?_append_left hlt] at hv
  rw [List.getElem?_append_left (by rw [<- hold.1]; exact hlt)] at hm
  exact hold.2 i v mv hv hm
 ·rw [List.getElem?_append_right hge] at hv
  rw [List.getElem?_append_right (by rw [<- hold.1]; exact hge), <- hold.1] at hm
  have hi0 : i - vs.length = 0 := by
   rcases Nat.eq_zero_or_pos (i - vs.length) with h0 | h0
   ·exact h0
   ·rw [List.getElem?_eq_none (by simp; omega)] at hv
    cases hv
  rw [hi0] at hv hm
  simp at hv hm
  subst hv
  subst hm
  refine ⟨_, k, k, rfl, Nat.le_refl _, ⟨by rw [mvFlat_len, List.length_map, hk], fun _ => ⟨b, 0, cs, rfl, hB7.lt, hB7, fun j' u' hu' => ?_⟩⟩, by rw [List.length_map, hk]⟩
  rw [Nat.zero_add, <- Array.getElem?_toList, hcs]
  exact hu'
theorem bchange_any (N B gb g : Nat) (enc lim : Int) (n : Nat) (add : Value) (st : BkS) (t : Tr) (a : Option Addr) (xs : List Value) (m : Nat) (vu vr : Value) (now : Option Addr) (o : OpS) (D : Nat -> Prop) (A : Option Addr) (k c : Nat) (es : List Ed) (w : World)
    (h : BkAt w N B gb g enc lim n add st t a xs m vu vr now) (hn : st.now = some o) (he : EdsAt w D A k es) (hD : ∀ b, D b -> b ≠ g /\ add.ownBlock ≠ some b /\ now ≠ some ⟨b, 0, none⟩) (hp : putN es <= 268435456) (hnn : n + 131072 <= 1073741824) (hom : o.moves.length < 1048576) :
    Calls Tryz.prog 99 #[.pointer (some ⟨gb, 0, none⟩), .slice A k c] w fun e w' => e = .returned (.int .i64 (refF enc lim (sizedA enc st.ats) es)) /\ (refF enc lim (sizedA enc st.ats) es ≠ 0 -> Below w.heap.size w w') /\
      (refF enc lim (sizedA enc st.ats) es = 0 -> BChgPost N B gb g enc lim n add st o m vu vr now es w w') := by
  have hop := h.open_
  rw [hn] at hop
  obtain ⟨p, rfl, hop⟩ := hop
  have hds : decL enc t.list = sizedA enc st.ats := by rw [sizedA_of h.text.enc4 h.text.tree.pcs.ok, h.ats]
  have hK := change_any B g enc lim n add t a xs D A k c es w h.text he (fun b hb => ⟨(hD b hb).1, (hD b hb).2.1⟩) hp h.lim0 h.sz hnn
  rw [hds, h.ats] at hK
  have c6 := h.blk.cell 6
  have c0 := h.blk.cell 0
  simp at c6 c0
  by_cases hz : refF enc lim (sizedA enc st.ats) es = 0
  · rw [hz] at hK ⊢
    obtain ⟨D', hDD⟩ : ∃ D' : Nat -> Prop, D' = fun b => D b /\ b < w.heap.size := ⟨_, rfl⟩
    have he' : EdsAt w D' A k es := he.more (fun b h1 h2 => by rw [hDD]; exact ⟨h1, h2⟩)
    have hD' : ∀ b, D' b -> b ≠ g /\ add.ownBlock ≠ some b /\ b ≠ p /\ b < w.heap.size := fun b hb => by
      rw [hDD] at hb
      exact ⟨(hD b hb.1).1, (hD b hb.1).2.1, fun e => (hD b hb.1).2.2 (by rw [e]), hb.2⟩
    clear hDD hD he
    have hml := he'.len
    have hes : es.length <= 70000 := (refF_ok (by rw [<- hds]; exact decL_pos enc _) hz h.lim0 (by rw [<- hds]; exact h.sz)).1
    have hsz' : szS (edD enc es (sizedA enc st.ats)) <= 65536 := by
      have := (refF_ok (by rw [<- hds]; exact decL_pos enc _) hz h.lim0 (by rw [<- hds]; exact h.sz)).2.2.2.2
      have := h.lim0
      omega
    have HK := Lib.hid hK
    have HH := Lib.hid h
    have HE := Lib.hid he'
    have HOP := Lib.hid hop
    have HSZ := Lib.hid hsz'
    clear hK h he' hop hz hds hsz'
    go_enter Tryz.func99, Tryz.ntmps99
    go_wp2_with fail
    refine (HK.out).mono ?_
    rintro e w1 ⟨rfl, -, hch⟩
    obtain ⟨add1, n1, xs1, ⟨t1, a1, hT1, hS1, hd1, ha1⟩, hn1⟩ := hch (by first | rfl | trivial)
    clear hch
    have hgk := fun M => GKeep.step (N := M) (enc := enc) hS1 HH.out.text.row HH.out.text.blk
    have nown : ∀ {T : TypeId} {cs : Array Value} {b : Nat}, Blk w b T cs -> T ≠ 104 -> T ≠ 5 -> ¬ (b = g \/ add.ownBlock = some b) := fun hb h1 h2 hs => by
      rcases hs with rfl | hs
      · exact Blk.ne_ hb HH.out.text.blk h1 rfl
      · exact own_blk_ne HH.out.text.row hb (Ne.symm h2) hs
    have hgb1 := HH.out.blk.fr hS1.fr (nown HH.out.blk (by decide) (by decide))
    obtain ⟨s, m2, vm, vs, hp0, hm2, hsn, hvm, hmv, hml2⟩ := HOP.out
    have hp1 := hp0.fr hS1.fr (nown hp0 (by decide) (by decide))
    have hE1 := HE.out.fr hS1.fr (fun b hb _ hs => hs.elim (fun e => (hD' b hb).1 e) (fun e => (hD' b hb).2.1 e))
    obtain ⟨im, him, hi0, hi1, hi2⟩ := info_parts move_info
    have HGK := Lib.hid hgk
    have HT1 := Lib.hid hT1
    have HS1 := Lib.hid hS1
    have HD1 := Lib.hid hd1
    have HA1 := Lib.hid ha1
    have HE1 := Lib.hid hE1
    have hz1 := hS1.fr.size
    clear hgk hT1 hS1 hd1 ha1 hE1 c6 c0
    go_wp2_with (at_make; refine wpList_make_full _ rfl _ _ 184 rfl w1.heap.size 207 im (.agg #[.int .i64 0, .int .i64 0, .int .i64 0]) 3 Tryz.underlying184 him hi0 hi1 _ _ _ _ k rfl rfl rfl rfl (by rw [hi2]; omega) (by unfold maxLen; omega) (Nat.le_refl _) ?_)
    intro w2 ho2 hg2
    obtain ⟨cs0, hcl, hB2⟩ : ∃ cs0 : Array Value, cs0.size = es.length * 3 /\ Blk w2 w1.heap.size 207 cs0 := ⟨_, by simp [size_madeCells]; omega, own_fullN ho2⟩
    have hb2 : Below w1.heap.size w1 w2 := below_grown hg2
    have hB2lt : w1.heap.size < w2.heap.size := hB2.lt
    clear ho2 hg2 him hi0 hi1 hi2
    go_wp2_with fail
    go_loopg [28] es.length (fun k q28 wr => BChgR w2 w1.heap.size p s m2 vm o es k q28 wr)
    case atStart => exact ⟨0, cs0, rfl, hB2, hcl, Lib.hid (by simp [mvFlat]), by
        have := hp1.below hb2
        simpa [opC] using this, Fr.refl _ _, by omega, by omega⟩
    case round =>
      obtain ⟨j, cs, rfl, hB, hcs, htk, hP, hF, hj, hgk⟩ := hrel
      obtain ⟨w3, hw3⟩ : ∃ x, x = wr := ⟨_, rfl⟩
      subst hw3
      by_cases hlt : j < k
      · have hE3 : EdsAt w3 D' A k es := (HE1.out.below hb2).fr hF (fun b hb _ hs => hs.elim (fun e => by have := (hD' b hb).2.2.2; omega) (fun e => (hD' b hb).2.2.1 e))
        obtain ⟨eb, eo, ed, rfl, hed, hD2, z0, z1, z2⟩ := hE3.at_ hlt
        have e3 := take_snoc es j ed hed
        have hput := (hE3.put ed (List.mem_of_getElem? hed)).len
        have hbx := Blk.new w3 89 #[.int .i64 ed.f, .int .i64 ed.t, .slice ed.A ed.n ed.c]
        have hB3 := hB.alloc (.cells #[.int .i64 ed.f, .int .i64 ed.t, .slice ed.A ed.n ed.c] 89)
        have hP3 := hP.alloc (.cells #[.int .i64 ed.f, .int .i64 ed.t, .slice ed.A ed.n ed.c] 89)
        have hlb := hB.lt
        have hlp := hP.lt
        have hbp : w1.heap.size ≠ p := Blk.ne_ hB hP (by decide)
        obtain ⟨ef, et, eA, en, ec, eput⟩ := ed
        dsimp only at z0 z1 z2 hput hbx hB3 hP3
        have HED := Lib.hid hed
        have HE3 := Lib.hid e3
        clear hed e3 hE3
        go_upto_region 10 with fail
        obtain ⟨w4, hw4⟩ : ∃ w4, w3.alloc (.cells #[.int .i64 ef, .int .i64 et, .slice eA en ec] 89) = w4 := ⟨_, rfl⟩
        rw [hw4] at hbx hB3 hP3 ⊢
        have hF4 : Fr (fun x => x = w1.heap.size \/ x = p) w2 w4 := by rw [<- hw4]; exact hF.alloc _
        have hw4s : w4.heap.size = w3.heap.size + 1 := by rw [<- hw4]; simp
        clear hw4
        obtain ⟨u0, hu0⟩ : ∃ u, cs[j * 3]? = some u := ⟨cs[j * 3]'(by omega), Array.getElem?_eq_getElem (by omega)⟩
        obtain ⟨u1, hu1⟩ : ∃ u, cs[j * 3 + 1]? = some u := ⟨cs[j * 3 + 1]'(by omega), Array.getElem?_eq_getElem (by omega)⟩
        obtain ⟨u2, hu2⟩ : ∃ u, cs[j * 3 + 2]? = some u := ⟨cs[j * 3 + 2]'(by omega), Array.getElem?_eq_getElem (by omega)⟩
        have r0 := hB3.cell (j * 3)
        have r1 := hB3.cell (j * 3 + 1)
        have r2 := hB3.cell (j * 3 + 2)
        rw [hu0] at r0
        rw [hu1] at r1
        rw [hu2] at r2
        have f0 := hB3.frozen (j * 3)
        have f1 := hB3.frozen (j * 3 + 1)
        have f2 := hB3.frozen (j * 3 + 2)
        have x0 := hbx.cell 0
        have x1 := hbx.cell 1
        have x2 := hbx.cell 2
        simp at x0 x1 x2
        clear hu0 hu1 hu2 z0 z1 z2
        go_upto_region 11 with fail
        have hB5 := ((hB3.set_ (j * 3) (.int .i64 ef)).set_ (j * 3 + 1) (.int .i64 et)).set_ (j * 3 + 2) (.int .i64 en)
        have hP5 := ((hP3.far (p := ⟨w1.heap.size, j * 3, none⟩) (Ne.symm hbp) (.int .i64 ef)).far (p := ⟨w1.heap.size, j * 3 + 1, none⟩) (Ne.symm hbp) (.int .i64 et)).far (p := ⟨w1.heap.size, j * 3 + 2, none⟩) (Ne.symm hbp) (.int .i64 en)
        have hX5 := ((hbx.far (p := ⟨w1.heap.size, j * 3, none⟩) (by dsimp only; omega) (.int .i64 ef)).far (p := ⟨w1.heap.size, j * 3 + 1, none⟩) (by dsimp only; omega) (.int .i64 et)).far (p := ⟨w1.heap.size, j * 3 + 2, none⟩) (by dsimp only; omega) (.int .i64 en)
        have hF5 := ((hF4.setCell (p := ⟨w1.heap.size, j * 3, none⟩) (.inl (.inl rfl)) (.int .i64 ef)).setCell (p := ⟨w1.heap.size, j * 3 + 1, none⟩) (.inl (.inl rfl)) (.int .i64 et)).setCell (p := ⟨w1.heap.size, j * 3 + 2, none⟩) (.inl (.inl rfl)) (.int .i64 en)
        have hcs5 : (((cs.setIfInBounds (j * 3) (.int .i64 ef)).setIfInBounds (j * 3 + 1) (.int .i64 et)).setIfInBounds (j * 3 + 2) (.int .i64 en)).toList.take ((j + 1) * 3) = mvFlat ((es.take (j + 1)).map mvOf) := by
          rw [set3_take cs j _ _ _ (by omega), htk.out, HE3.out, List.map_append]
          unfold mvFlat
          rw [List.flatMap_append]
          rfl
        have hcz : (((cs.setIfInBounds (j * 3) (.int .i64 ef)).setIfInBounds (j * 3 + 1) (.int .i64 et)).setIfInBounds (j * 3 + 2) (.int .i64 en)).size = es.length * 3 := by simp [hcs]
        have hany : (o.changed || (es.take (j + 1)).any chg) = ((o.changed || (es.take j).any chg) || chg ⟨ef, et, eA, en, ec, eput⟩) := by
          rw [HE3.out, List.any_append]
          simp [Bool.or_assoc]
        obtain ⟨w5, hw5⟩ : ∃ w5, ((w4.setCell ⟨w1.heap.size, j * 3, none⟩ (.int .i64 ef)).setCell ⟨w1.heap.size, j * 3 + 1, none⟩ (.int .i64 et)).setCell ⟨w1.heap.size, j * 3 + 2, none⟩ (.int .i64 en) = w5 := ⟨_, rfl⟩
        rw [hw5] at hB5 hP5 hX5 hF5 ⊢
        have hgb5 := (hgb1.below hb2).fr hF5 (fun hs => by
          rcases hs with h1 | h1
          · have := hgb1.lt; omega
          · exact Blk.ne_ (hgb1.below hb2) (hp1.below hb2) (by decide) h1)
        have x0' := hX5.cell 0
        have x1' := hX5.cell 1
        have x2' := hX5.cell 2
        have g6 := hgb5.cell 6
        have p9 := hP5.cell 9
        have pf9 := hP5.frozen 9
        simp [opC] at x0' x1' x2' g6 p9
        have HB5 := Lib.hid hB5
        have HP5 := Lib.hid hP5
        have HF5 := Lib.hid hF5
        have HCS5 := Lib.hid hcs5
        have HCZ := Lib.hid hcz
        have HANY := Lib.hid hany
        clear hB5 hP5 hX5 hF5 hcs5 hcz hany hw5 hB3 hP3 hbx r0 r1 r2 f0 f1 f2 x0 x1 x2 hB hP hF hF4 htk hcs
        have hfin1 : chg ⟨ef, et, eA, en, ec, eput⟩ = true -> BChgR w2 w1.heap.size p s m2 vm o es (es.length - (j + 1)) (.int .i64 ((j + 1 : Nat) : Int)) (w5.setCell ⟨p, 9, none⟩ (.bool true)) := by
          intro hc
          refine ⟨j + 1, _, rfl, HB5.out.far (p := ⟨p, 9, none⟩) hbp _, HCZ.out, Lib.hid HCS5.out, (HP5.out.set_ 9 _).eq_ ?_, HF5.out.setCell (p := ⟨p, 9, none⟩) (.inl (.inr rfl)) _, by omega, by omega⟩
          rw [HANY.out, hc]
          simp [opC]
        have hfin2 : chg ⟨ef, et, eA, en, ec, eput⟩ = false -> BChgR w2 w1.heap.size p s m2 vm o es (es.length - (j + 1)) (.int .i64 ((j + 1 : Nat) : Int)) w5 := by
          intro hc
          refine ⟨j + 1, _, rfl, HB5.out, HCZ.out, Lib.hid HCS5.out, HP5.out.eq_ ?_, HF5.out, by omega, by omega⟩
          rw [HANY.out, hc, Bool.or_false]
        have HFIN1 := Lib.hid hfin1
        have HFIN2 := Lib.hid hfin2
        clear hfin1 hfin2
        have ej : ((j + 1 : Nat) : Int) = (j : Int) + 1 := by omega
        rw [ej] at HFIN1 HFIN2
        by_cases hc1 : ef < et
        · have q1 : (ef < et) = True := eq_true hc1
          have HC := Lib.hid (HFIN1.out (by unfold chg; simp [hc1]))
          clear hc1
          go_wp2_with fail
          go_roundg (es.length - (j + 1))
          case measure => omega
          case rel => exact HC.out
        · have q1 : (ef < et) = False := eq_false hc1
          by_cases hc2 : 0 < en
          · have q2 : ((0 : Int) < (en : Int)) = True := by simp; omega
            have q3 : (0 < en) = True := by simp; omega
            have HC := Lib.hid (HFIN1.out (by unfold chg; simp [hc2]))
            clear hc1 hc2
            go_wp2_with fail
            go_roundg (es.length - (j + 1))
            case measure => omega
            case rel => exact HC.out
          · have q2 : ((0 : Int) < (en : Int)) = False := by simp; omega
            have q3 : (0 < en) = False := by simp; omega
            have HC := Lib.hid (HFIN2.out (by unfold chg; simp [hc1, hc2]))
            clear hc1 hc2
            go_wp2_with fail
            go_roundg (es.length - (j + 1))
            case measure => omega
            case rel => exact HC.out
      · have hjk : j = es.length := by omega
        subst hjk
        have htk' := htk.out
        rw [List.take_of_length_le (by rw [Array.length_toList]; omega), List.take_length] at htk'
        rw [List.take_length] at hP
        have hgb3 := (hgb1.below hb2).fr hF (fun hs => by
          rcases hs with h1 | h1
          · have := hgb1.lt; omega
          · exact Blk.ne_ (hgb1.below hb2) (hp1.below hb2) (by decide) h1)
        have hvm1 : w1.ownsRow N 184 1 vm vs.length vs := own_fr' hvm HS1.out.fr (fun b cs' hs hc => nown hc (by decide) (by decide) hs)
        have hvm3 : w3.ownsRow N 184 1 vm vs.length vs := own_fr' (own_bel hvm1 hb2) hF (fun b cs' hs hc => by
          rcases hs with h1 | h1
          · exact Blk.ne_ hc hB2 (by decide) h1
          · exact Blk.ne_ hc (hp1.below hb2) (by decide) h1)
        obtain ⟨Av, cv, rfl, hcv⟩ := own_slice hvm3
        have hz3 : N <= w3.heap.size := by have := HH.out.nle; have := hb2.size; have := hF.size; omega
        have S0f : ∀ w', Fr (OwnB (.slice Av vs.length cv)) w3 w' -> Blk w' gb 97 #[.pointer (some ⟨g, 0, none⟩), .int .i64 st.depth, vu, vr, .map (some m), .slice none 0 0, .pointer (some ⟨p, 0, none⟩), .int .i64 st.state, .int .i64 st.saved, .int .i64 st.last] /\ Blk w' p 196 (opC s m2 (.slice Av vs.length cv) o (o.changed || es.any chg)) /\ Blk w' w1.heap.size 207 cs := fun w' hf =>
          ⟨hgb3.fr hf (own_blk_ne hvm3 hgb3 (by decide)), hP.fr hf (own_blk_ne hvm3 hP (by decide)), hB.fr hf (own_blk_ne hvm3 hB (by decide))⟩
        have hvl : vs.length <= 1048576 := by have := hmv.1; omega
        have hS1f := HS1.out.fr
        have hfin : ∀ wq w7 u, Fr (OwnB (.slice Av vs.length cv)) w3 wq -> wq.ownsRow N 184 1 u (vs.length + 1) (vs ++ [.slice (some ⟨w1.heap.size, 0, none⟩) k k]) -> Below (wq.setCell ⟨p, 4, none⟩ u).heap.size (wq.setCell ⟨p, 4, none⟩ u) w7 ->
            BChgPost N B gb g enc lim n add st o m vu vr (some ⟨p, 0, none⟩) es w w7 := by
          intro wq w7 u hfq hu hb7
          obtain ⟨k1, k2, k3⟩ := S0f wq hfq
          have hF17 : Fr (fun x => x = p \/ OwnB (.slice Av vs.length cv) x) w1 w7 := by
            have a1 : Fr (fun x => x = p \/ OwnB (.slice Av vs.length cv) x) w1 w2 := Fr.of_below hb2
            have a2 := a1.call hF (fun i hi hs => by
              rcases hs with h1 | h1
              · omega
              · exact .inl h1)
            have a3 := a2.call hfq (fun i hi hs => .inr hs)
            exact (a3.setCell (p := ⟨p, 4, none⟩) (.inl (.inl rfl)) u).bel hb7
          have hPq := ((k2.set_ 4 u).below hb7).eq_ (show (opC s m2 (.slice Av vs.length cv) o (o.changed || es.any chg)).setIfInBounds 4 u = opC s m2 u o (o.changed || es.any chg) by simp [opC])
          have huq := own_bel (own_set_far (i := 4) (u := u) hu k2 (by decide)) hb7
          have hBq := (k3.far (p := ⟨p, 4, none⟩) (Blk.ne_ k3 k2 (by decide)) u).below hb7
          refine ⟨n1, add1, t1, a1, xs1, HH.out.changed (ch := o.changed || es.any chg) (by simpa [opC] using hp0) hm2 hsn hvm hmv hom HT1.out HS1.out (by rw [HD1.out]; exact HSZ.out) HA1.out hF17 hPq huq hBq htk' hml, hn1, ?_⟩
          refine (BkFr.of_fr hS1f (fun b hb hs => ?_)).trans (BkFr.of_fr hF17 (fun b hb hs => ?_))
          · rcases hs with rfl | hs
            · exact ⟨HH.out.low.2.1, _, _, HH.out.text.blk, .inl rfl⟩
            · rcases HH.out.text.row.2 with ⟨e0, _⟩ | ⟨r, c', cur, e0, hlo, h2, _⟩
              · rw [e0] at hs; cases hs
              · rw [e0] at hs
                have : r = b := by simpa [Value.ownBlock] using hs
                subst this
                exact ⟨hlo, _, _, h2, .inr (.inl rfl)⟩
          · rcases hs with rfl | hs
            · exact ⟨HH.out.low.2.2.2 _ rfl, _, _, hp1, .inr (.inr (.inr (.inl rfl)))⟩
            · rcases hvm1.2 with ⟨e0, _⟩ | ⟨r, c', cur, e0, hlo, h2, _⟩
              · unfold OwnB at hs; rw [e0] at hs; cases hs
              · unfold OwnB at hs
                rw [e0] at hs
                have : r = b := by simpa [Value.ownBlock] using hs
                subst this
                exact ⟨Nat.le_trans HH.out.low.2.2.1 hlo, _, _, h2, .inr (.inr (.inr (.inr (.inl rfl))))⟩
        have hfol : ∀ wq u, Fr (OwnB (.slice Av vs.length cv)) w3 wq -> Calls Tryz.prog 111 #[.pointer (some ⟨gb, 0, none⟩), .slice (some ⟨w1.heap.size, 0, none⟩) k k] (wq.setCell ⟨p, 4, none⟩ u) fun e w' => e = .returned (.tuple #[]) /\ Below (wq.setCell ⟨p, 4, none⟩ u).heap.size (wq.setCell ⟨p, 4, none⟩ u) w' := by
          intro wq u hfq
          obtain ⟨k1, k2, k3⟩ := S0f wq hfq
          have hm1 := HS1.out.map HH.out.text.row HH.out.text.blk HH.out.map
          have hm3 : MapE w3 st.mb m := (hm1.below hb2).fr hF (fun hs => by
            rcases hs with h1 | h1
            · exact (hm1.below hb2).ne_blk hB2 h1
            · exact (hm1.below hb2).ne_blk (hp1.below hb2) h1)
          have hmq : MapE wq st.mb m := hm3.fr hfq (fun hs => by
            rcases hvm3.2 with ⟨e0, _⟩ | ⟨r, c', cur, e0, _, h2, _⟩
            · unfold OwnB at hs; rw [e0] at hs; cases hs
            · unfold OwnB at hs
              rw [e0] at hs
              have : r = m := by simpa [Value.ownBlock] using hs
              subst this
              exact hm3.ne_blk h2 rfl)
          exact follow_none _ gb m _ _ (k1.far (p := ⟨p, 4, none⟩) (Blk.ne_ k1 k2 (by decide)) u) rfl rfl (hmq.far (fun e => hmq.ne_blk k2 e) u).1
        have HS0 := Lib.hid S0f
        have HFIN := Lib.hid hfin
        have HFOL := Lib.hid hfol
        have HVM := Lib.hid hvm3
        obtain ⟨ir, hir, hr0, hr1, hr2⟩ := info_parts rows_info
        clear S0f hfin hfol hS1f hvm3 hvm1 hvm hmv hsn hm2 hp0 hp1 hgb1 hgb3 hB hP hF htk hB2 hb2 htk' hcs nown
        go_wp2_with fail
        refine wp_region_lin (fun w' => w'.cell? ⟨gb, 6, none⟩ = some (.pointer (some ⟨p, 0, none⟩)) /\ w'.cell? ⟨p, 4, none⟩ = some (.slice Av vs.length cv)) (fun w' => w' = w3.drew) (fun k => k == 13 || k == 14 || k == 18) (fun k => k == 18) (fun _ => false) (by kernel_rfl) (by kernel_rfl) (rfl) (fun w' h => by subst h; exact ⟨(HS0.out _ (Fr.refl _ _).drew).1.cell 6, (HS0.out _ (Fr.refl _ _).drew).2.1.cell 4⟩) ?_
        repeat ((first
          | (refine wpL_read (v := ?_) (by rfl) (by rfl) (fun w6 hSw => ?_) ?_; rotate_left; (· (obtain ⟨y0, y1⟩ := hSw; go_simp; try with_reducible rfl)))
          | (refine wpL_free (v := ?_) (by rfl) (fun w6 => ?_) ?_; rotate_left; (· (go_simp; try with_reducible rfl)))
          | refine wpL_not (by rfl) ?_); (try simp only [Act.put, pA, pB, pC]))
        refine wpL_heavy (fun u w' => u = .slice (some ⟨w3.heap.size, 0, none⟩) 1 1 /\ w' = w3.drew.alloc (.cells #[.slice (some ⟨w1.heap.size, 0, none⟩) k k] 184)) (by rfl) (by rfl) (fun w6 hSw => ?_) (.inr (fun v6 w6 hT6 => ?_)) (fun v6 hv6 => ?_)
        · (subst hSw; go_simp; exact ⟨rfl, rfl⟩)
        · (obtain ⟨-, rfl⟩ := hT6; exact ⟨(HS0.out _ ((Fr.refl _ _).drew.alloc _)).1.cell 6, (HS0.out _ ((Fr.refl _ _).drew.alloc _)).2.1.cell 4⟩)
        obtain ⟨wz, rfl, -⟩ := hv6
        (try simp only [Act.put, pA, pB, pC])
        refine wpL_heavy (fun u w' => w'.ownsRow N 184 1 u (vs.length + 1) (vs ++ [.slice (some ⟨w1.heap.size, 0, none⟩) k k]) /\ Fr (OwnB (.slice Av vs.length cv)) w3 w') (by rfl) (by rfl) (fun w6 hSw => ?_) (.inr (fun v6 w6 hT6 => ?_)) (fun v6 hv6 => ?_)
        · (obtain ⟨-, rfl⟩ := hSw; exact hrun_append_own 180 rfl N 184 ir (.slice none 0 0) 1 24 Tryz.underlying180 hir hr0 hr1 hr2 rfl (by decide) (.slice Av vs.length cv) vs.length vs rfl ((own_bel HVM.out (Below.refl _ _).drew).alloc _) ⟨w3.heap.size, 0, none⟩ 1 1 [.slice (some ⟨w1.heap.size, 0, none⟩) k k] rfl rfl (cell_one_new w3.drew _ _) (by simp [Value.oneCell']) (by unfold maxLen; omega) (by omega) (by simp; omega) (fun v' w' ho' hg' _ _ => ⟨ho', ((Fr.refl _ _).drew.alloc _).grown hg' (fun k hk _ => hk)⟩))
        · (exact ⟨(HS0.out _ hT6.2).1.cell 6, (HS0.out _ hT6.2).2.1.cell 4⟩)
        obtain ⟨wz, hz7, -⟩ := hv6; obtain ⟨A7, c7, rfl, -⟩ := own_slice hz7
        (try simp only [Act.put, pA, pB, pC])
        repeat ((first
          | (refine wpL_read (v := ?_) (by rfl) (by rfl) (fun w6 hSw => ?_) ?_; rotate_left; (· (obtain ⟨y0, y1⟩ := hSw; go_simp; try with_reducible rfl)))
          | (refine wpL_free (v := ?_) (by rfl) (fun w6 => ?_) ?_; rotate_left; (· (go_simp; try with_reducible rfl)))
          | refine wpL_not (by rfl) ?_); (try simp only [Act.put, pA, pB, pC]))
        refine wpL_heavy (fun _ w' => ∃ wq, (wq.ownsRow N 184 1 (.slice A7 (vs.length + 1) c7) (vs.length + 1) (vs ++ [.slice (some ⟨w1.heap.size, 0, none⟩) k k]) /\ Fr (OwnB (.slice Av vs.length cv)) w3 wq) /\ w' = wq.setCell ⟨p, 4, none⟩ (.slice A7 (vs.length + 1) c7)) (by rfl) (by rfl) (fun w6 hSw => ?_) (.inl (by rfl)) (fun v6 hv6 => ?_)
        · (have y2 := (HS0.out _ hSw.2).2.1.cell 4; have y3 := (HS0.out _ hSw.2).2.1.frozen 4; simp [opC] at y2; go_simp; exact ⟨w6, hSw, rfl⟩)
        skip
        (try simp only [Act.put, pA, pB, pC])
        refine wpL_nil ?_
        rintro w4 ⟨wq, ⟨hu, hfq⟩, rfl⟩
        have HU := Lib.hid hu
        have HFQ := Lib.hid hfq
        clear hu hfq
        go_wp2_with fail
        refine (HFOL.out wq _ HFQ.out).mono ?_
        rintro e w7 ⟨rfl, hb7⟩
        have HP := Lib.hid (HFIN.out wq w7 _ HFQ.out HU.out hb7)
        clear hb7
        go_wp2_with fail
        go_ret
        exact ⟨rfl, fun h => absurd rfl h, fun _ => HP.out⟩
  · obtain ⟨E, hE⟩ : ∃ E, refF enc lim (sizedA enc st.ats) es = E := ⟨_, rfl⟩
    rw [hE] at hK hz ⊢
    have q2 : (E != 0) = true := by rw [bne_iff_ne]; exact hz
    have HK := Lib.hid hK
    have HZ := Lib.hid hz
    clear hK hE hz h he hds hop
    go_enter Tryz.func99, Tryz.ntmps99
    go_wp2_with fail
    refine (HK.out).mono ?_
    rintro e w1 ⟨rfl, hb1, -⟩
    have HB1 := Lib.hid hb1
    clear hb1
    go_wp2_with fail
    go_ret
    exact ⟨rfl, fun h => HB1.out HZ.out, fun h => absurd h HZ.out⟩
theorem shut_deferred (gb : Nat) (cs : Array Value) (p : Option Addr) (u : FrameMode) (w : World) (hb : Blk w gb 97 cs) (h6 : cs[6]? = some (.pointer p)) :
  CallsD Tryz.prog 126 #[.pointer (some ⟨gb, 0, none⟩)] u w fun e u' w' => u' = u /\ (e = .returned (.tuple #[]) /\ w' = w.setCell ⟨gb, 6, none⟩ (.pointer none)) := by
 have c6 := hb.cell 6
 have f6 := hb.frozen 6
 rw [h6] at c6
 go_enter_d Tryz.func126, Tryz.ntmps126
 go_wp2
 go_end0
 exact ⟨rfl, rfl⟩
theorem BkAt.book {w w' : World} {N B gb g n m : Nat} {enc lim : Int} {add vu vr : Value} {st : BkS} {t : Tr} {a : Option Addr} {xs : List Value} {now : Option Addr} (h : BkAt w N B gb g enc lim n add st t a xs m vu vr now) (hf : Fr (· = gb) w w') :
  TextM w' B g enc lim n add t a xs /\ MapE w' st.mb m /\ StackAt w' N B g add n enc vu st.undo /\ StackAt w' N B g add n enc vr st.redo /\ GKeep N add add n n enc w w' /\ N <= w'.heap.size := by
 have hK : GKeep N add add n n enc w w' := GKeep.far hf (fun k _ hk => hk ▸ Far2.blk h.blk (by decide))
 have hown : ∀ v' k' ys, w.ownsRow B 177 1 v' k' ys -> w'.ownsRow B 177 1 v' k' ys := fun v' k' ys ho => own_fr' ho hf (fun b cs' hs hc => Blk.ne_ hc h.blk (by decide) hs)
 exact ⟨h.text.far hf (fun k _ hk => hk ▸ Far.blk h.blk (by decide)), h.map.fr hf (fun e => h.map.ne_blk h.blk e), h.undo.keep hK (Nat.le_refl _) (hown _), h.redo.keep hK (Nat.le_refl _) (hown _), hK, Nat.le_trans h.nle hf.size⟩
theorem BkAt.below {w w' : World} {N B gb g n m : Nat} {enc lim : Int} {add vu vr : Value} {st : BkS} {t : Tr} {a : Option Addr} {xs : List Value} {now : Option Addr} (h : BkAt w N B gb g enc lim n add st t a xs m vu vr now) (hb : Below w.heap.size w w') : BkAt w' N B gb g enc lim n add st t a xs m vu vr now := by
 have hK : GKeep N add add n n enc w w' := GKeep.below h.text.row h.text.blk hb
 refine ⟨h.blk.below hb, h.text.below hb, h.ats, h.sz, h.lim0, h.map.below hb, h.undo.keep hK (Nat.le_refl _) (fun _ _ ho => own_bel ho hb), h.redo.keep hK (Nat.le_refl _) (fun _ _ ho => own_bel ho hb), h.sep, ?_, Nat.le_trans h.nle hb.size, h.nums, h.low⟩
 have ho := h.open_
 cases hn : st.now with
 | none => rw [hn] at ho; exact ho
 | some o =>
  rw [hn] at ho
  obtain ⟨p, e, s, m2, vm, vs, h1, h2, h3, h4, h5, h6⟩ := ho
  exact ⟨p, e, s, m2, vm, vs, h1.below hb, h2.below hb, h3.keep hK, own_bel h4 hb, (h5.keep (KeepTy.below hb)).mono hb.size, h6⟩
theorem BkAt.shut {w : World} {N B gb g n m : Nat} {enc lim : Int} {add vu vr : Value} {st : BkS} {t : Tr} {a : Option Addr} {xs : List Value} {now : Option Addr} (h : BkAt w N B gb g enc lim n add st t a xs m vu vr now) :
  BkAt (w.setCell ⟨gb, 6, none⟩ (.pointer none)) N B gb g enc lim n add { st with now := none } t a xs m vu vr none := by
 obtain ⟨h1, h2, h3, h4, _, h6⟩ := h.book ((Fr.refl _ _).set1 6 (.pointer none))
 exact ⟨(h.blk.set_ 6 _).eq_ rfl, h1, h.ats, h.sz, h.lim0, h2, h3, h4, h.sep, rfl, h6, h.nums, ⟨h.low.1, h.low.2.1, h.low.2.2.1, fun _ e => by cases e⟩⟩
theorem BkFr.book {B : Nat} {w w' : World} {gb : Nat} {cs : Array Value} (hb : Blk w gb 97 cs) (hB : B <= gb) (hf : Fr (· = gb) w w') : BkFr B w w' := BkFr.of_fr hf (fun b _ hs => ⟨hs ▸ hB, _, _, hs ▸ hb, .inr (.inr (.inl rfl))⟩)
theorem end_none (N B gb g : Nat) (enc lim : Int) (n : Nat) (add : Value) (st : BkS) (t : Tr) (a : Option Addr) (xs : List Value) (m : Nat) (vu vr : Value) (now : Option Addr) (o : OpS) (x : Int) (w : World) (h : BkAt w N B gb g enc lim n add st t a xs m vu vr now) (hn : st.now = some o) (hx : 0 <= x /\ x <= (st.ats.length : Int)) (hc : o.changed = false) :
  Calls Tryz.prog 91 #[.pointer (some ⟨gb, 0, none⟩), .int .i64 x] w fun e w' => e = .returned (.int .i64 0) /\ BkAt w' N B gb g enc lim n add { st with now := none } t a xs m vu vr none /\ BkFr B w w' := by
 have hop := h.open_
 rw [hn] at hop
 obtain ⟨p, rfl, s, m2, vm, vs, hp0, hm2, hsn, hvm, hmv, hml2⟩ := hop
 have hal : (atsL enc t.list).length = (decL enc t.list).length := atsL_len enc _
 have hki := inside_any gb g _ Any enc (decL enc t.list) x w h.blk rfl ⟨lim, t, a, add, h.text.text, rfl⟩
 have hq : decide (0 <= x /\ x <= ((decL enc t.list).length : Int)) = true := by
  rw [<- hal, h.ats]
  simpa using hx
 rw [hq] at hki
 have HKI := Lib.hid hki
 have HH := Lib.hid h
 have c6 := h.blk.cell 6
 simp at c6
 rw [hc] at hp0
 have HP0 := Lib.hid hp0
 clear h hki hq hal hm2 hsn hvm hmv hp0
 go_enter_defers Tryz.func91, Tryz.ntmps91
 go_wp2_with fail
 refine (HKI.out).mono ?_
 rintro e w1 ⟨rfl, hb1⟩
 have hgb1 := HH.out.blk.below hb1
 have c61 := hgb1.cell 6
 have c91 := (HP0.out.below hb1).cell 9
 simp at c61 c91
 go_wp2_with fail
 refine leaves_cons (f := 126) (args := #[.pointer (some ⟨gb, 0, none⟩)]) (by simp) (by simp [go_sem]) ?_
 refine (shut_deferred gb _ _ .returning _ hgb1 rfl).mono ?_
 rintro e u' w'' ⟨rfl, rfl, rfl⟩
 refine ⟨_, results_tmp rfl _ _ _, rfl, (HH.out.below hb1).shut, ?_⟩
 exact (BkFr.below hb1).trans (BkFr.book hgb1 HH.out.low.1 ((Fr.refl _ _).set1 6 _))
def withinF (x n : Int) : Int := (if x < 0 then -(x + 1) else x) % (n + 1)
theorem withinF_bd (x n : Int) (h : 0 <= n) : 0 <= withinF x n /\ withinF x n <= n := by
 unfold withinF
 generalize (if x < 0 then -(x + 1) else x) = y
 have h1 := Int.emod_nonneg y (show n + 1 ≠ 0 by omega)
 have h2 := Int.emod_lt_of_pos y (show 0 < n + 1 by omega)
 omega
theorem within_any (x n : Int) (w : World) (hx : -9223372036854775808 <= x /\ x <= 9223372036854775807) (h0 : 0 <= n) (h1 : n <= 1073741824) :
  Calls Tryz.prog 5 #[.int .i64 x, .int .i64 n] w fun e w' => e = .returned (.int .i64 (withinF x n)) /\ w = w' := by
 have key : ∀ y : Int, 0 <= y -> y.tmod (n + 1) = y % (n + 1) := fun y hy => Int.tmod_eq_emod_of_nonneg hy
 have hk : IntKind.i64.wrap (n + 1) = n + 1 := IntWalk.i64_in _ (by omega)
 have hn0 : (n + 1 = 0) = False := by simp; omega
 have hn1 : (n + 1 == 0) = false := by rw [beq_eq_false_iff_ne]; omega
 have hn2 : (n + 1 = -1) = False := by simp; omega
 have hn3 : (n + 1 == -1) = false := by rw [beq_eq_false_iff_ne]; omega
 have hb := withinF_bd x n h0
 by_cases h : x < 0
 ·have e1 : IntKind.i64.wrap (x + 1) = x + 1 := IntWalk.i64_in _ (by omega)
  have e2 : IntKind.i64.wrap (-(x + 1)) = -(x + 1) := IntWalk.i64_in _ (by omega)
  have e0 : withinF x n = (-(x + 1)).tmod (n + 1) := by rw [key _ (by omega)]; unfold withinF; rw [if_pos h]
  have e3 : IntKind.i64.wrap ((-(x + 1)).tmod (n + 1)) = withinF x n := by rw [<- e0]; exact IntWalk.i64_in _ (by omega)
  have E3 := Lib.hid e3
  clear e0 e3 hb
  go_enter Tryz.func5, Tryz.ntmps5
  go_wp2
  go_ret
  exact ⟨ret_i (by rw [<- Int.neg_tmod, key _ (by omega)]; unfold withinF; rw [if_pos h]), rfl⟩
 ·have e0 : withinF x n = x.tmod (n + 1) := by rw [key _ (by omega)]; unfold withinF; rw [if_neg h]
  have e3 : IntKind.i64.wrap (x.tmod (n + 1)) = withinF x n := by rw [<- e0]; exact IntWalk.i64_in _ (by omega)
  have E3 := Lib.hid e3
  clear e0 e3 hb
  go_enter Tryz.func5, Tryz.ntmps5
  go_wp2
  go_ret
  exact ⟨ret_i (by unfold withinF; rw [if_neg (by omega)]), rfl⟩
def FitsI (x : Int) : Prop := -9223372036854775808 <= x /\ x <= 9223372036854775807
instance (T : TypeId) : Decidable (BookTy T) := by unfold BookTy; exact inferInstance
def DFr (B : Nat) (X : Nat -> Prop) (w w' : World) : Prop := Fr (fun b => (B <= b /\ ∃ T cs, Blk w b T cs /\ BookTy T) \/ X b) w w'
theorem DFr.of_below {B : Nat} {X : Nat -> Prop} {w w' : World} (h : Below w.heap.size w w') : DFr B X w w' := Fr.of_below h
theorem DFr.of_bk {B : Nat} {X : Nat -> Prop} {w w' : World} (h : BkFr B w w') : DFr B X w w' := h.more (fun _ _ hs => .inl hs)
theorem DFr.of_x {B : Nat} {X : Nat -> Prop} {w w' : World} (h : Fr X w w') : DFr B X w w' := h.more (fun _ _ hs => .inr hs)
theorem DFr.wide {B B' : Nat} {X X' : Nat -> Prop} {w w' : World} (h : DFr B X w w') (hB : B' <= B) (hX : ∀ b, b < w.heap.size -> X b -> X' b) : DFr B' X' w w' := h.more (fun b hb hs => by
 rcases hs with ⟨h1, h2⟩ | h1
 ·exact .inl ⟨Nat.le_trans hB h1, h2⟩
 ·exact .inr (hX b hb h1))
theorem DFr.trans {B : Nat} {X : Nat -> Prop} {w w' w'' : World} (h : DFr B X w w') (k : DFr B X w' w'') : DFr B X w w'' := by
 refine ⟨k.os.trans h.os, k.tape.trans h.tape, k.output.trans h.output, Nat.le_trans h.size k.size, fun i hi hn => ?_⟩
 have h1 := h.block i hi hn
 refine (k.block i (Nat.lt_of_lt_of_le hi h.size) (fun hs => ?_)).trans h1
 rcases hs with ⟨hB, T, cs, hb, hT⟩ | hs
 ·exact hn (.inl ⟨hB, T, cs, h1.symm.trans hb, hT⟩)
 ·exact hn (.inr hs)
theorem DFr.call' {B : Nat} {X X' : Nat -> Prop} {w w' w'' : World} (h : Below w.heap.size w w') (k : DFr B X' w' w'') (hX : ∀ b, b < w.heap.size -> X' b -> X b) : DFr B X w w'' :=
 ⟨k.os.trans h.os, k.tape.trans h.tape, k.output.trans h.output, Nat.le_trans h.size k.size, fun i hi hn => by
  have h1 := h.block i hi
  refine (k.block i (Nat.lt_of_lt_of_le hi h.size) (fun hs => ?_)).trans h1
  rcases hs with ⟨hB, T, cs, hb, hT⟩ | hs
  ·exact hn (.inl ⟨hB, T, cs, h1.symm.trans hb, hT⟩)
  ·exact hn (.inr (hX i hi hs))⟩
theorem DFr.blk {B : Nat} {X : Nat -> Prop} {w w' : World} {b : Nat} {T : TypeId} {cs : Array Value} (h : DFr B X w w') (hb : Blk w b T cs) (hT : ¬ BookTy T) (hX : ¬ X b) : Blk w' b T cs := hb.fr h (fun hs => by
 rcases hs with ⟨-, T', cs', hb', hT'⟩ | hs
 ·have : T = T' := by
   unfold Blk at hb hb'
   rw [hb] at hb'
   injection hb' with hb'
   injection hb' with _ hb'
  exact hT (this ▸ hT')
 ·exact hX hs)
theorem setCell_id {w : World} {b o : Nat} {T : TypeId} {cs : Array Value} {v : Value} (h : Blk w b T cs) (hv : cs[o]? = some v) : w.setCell ⟨b, o, none⟩ v = w := by
 have h' : w.heap[b]? = some (.cells cs T (0, 0)) := h
 rw [setCell_eq_setRow w b o cs T (0, 0) v h']
 have e : cs.setIfInBounds o v = cs := by
  apply Array.ext
  ·simp
  ·intro i h1 h2
   rw [Array.getElem_setIfInBounds]
   split
   ·rename_i hio
    subst hio
    rw [Array.getElem?_eq_getElem h2] at hv
    exact (Option.some.inj hv).symm
   ·rfl
 rw [e]
 have hlt : b < w.heap.size := (Array.getElem?_eq_some_iff.1 h').1
 have hw : w.heap[b] = .cells cs T (0, 0) := (Array.getElem?_eq_some_iff.1 h').2
 unfold World.setRow
 cases w with
 | mk heap tape drawn os output =>
  simp only [World.mk.injEq, and_true]
  apply Array.ext
  ·simp
  ·intro k h1 h2
   simp only [Array.getElem_modify]
   split
   ·rename_i hk
    subst hk
    dsimp only at hw
    rw [hw]
   ·rfl
def Alien (T : TypeId) : Prop := (T ≠ 104 /\ T ≠ 147 /\ T ≠ 5) /\ (T ≠ 182 /\ T ≠ 226 /\ T ≠ 184 /\ T ≠ 207) /\ T ≠ 97 /\ T ≠ 196 /\ T ≠ 177
instance (T : TypeId) : Decidable (Alien T) := by unfold Alien; exact inferInstance
theorem BkAt.alien2 {w w' : World} {N B gb g n m : Nat} {enc lim : Int} {add vu vr : Value} {st : BkS} {t : Tr} {a : Option Addr} {xs : List Value} {now : Option Addr} {S : Nat -> Prop} (h : BkAt w N B gb g enc lim n add st t a xs m vu vr now) (hf : Fr S w w')
  (hS : ∀ k, k < w.heap.size -> S k -> (∃ T cs, Blk w k T cs /\ Alien T) \/ (k = st.mb /\ ∃ es y, w.heap[k]? = some (.map es y))) : BkAt w' N B gb g enc lim n add st t a xs m vu vr now := by
 have hne : ∀ {T : TypeId} {cs : Array Value} {b : Nat}, Blk w b T cs -> ¬ Alien T -> ¬ S b := fun hb hn hs => by
  rcases hS _ hb.lt hs with ⟨T', cs', hb', hA⟩ | ⟨_, es, y, hb'⟩
  ·unfold Blk at hb hb'
   rw [hb] at hb'
   injection hb' with hb'
   injection hb' with _ hb'
   exact hn (hb' ▸ hA)
  ·unfold Blk at hb
   rw [hb] at hb'
   injection hb' with hb'
   cases hb'
 have hfar : ∀ M k, k < w.heap.size -> S k -> Far2 w M k := fun M k hk hs => by
  rcases hS k hk hs with ⟨T, cs, hb, hA⟩ | ⟨_, es, y, hb'⟩
  ·exact Far2.blk hb ⟨hA.1, hA.2.1⟩
  ·refine ⟨.inr ⟨_, hb', fun cs T f e => by cases e⟩, fun T cs hb => ?_⟩
   unfold Blk at hb
   rw [hb] at hb'
   injection hb' with hb'
   cases hb'
 have hK : ∀ M, GKeep M add add n n enc w w' := fun M => GKeep.far hf (hfar M)
 have hmap : ∀ {r : Nat}, MapE w st.mb r -> MapE w' st.mb r := fun {r} hr => hr.fr hf (fun hs => by
  rcases hS r hr.lt hs with ⟨T, cs, hb, hA⟩ | ⟨e, _⟩
  ·exact hr.ne_blk hb rfl
  ·exact hr.2.1 e)
 have hown : ∀ v' k' ys, w.ownsRow B 177 1 v' k' ys -> w'.ownsRow B 177 1 v' k' ys := fun v' k' ys ho => own_fr' ho hf (fun b cs hs hb => hne hb (fun hA => hA.2.2.2.2 rfl) hs)
 refine ⟨h.blk.fr hf (hne h.blk (fun hA => hA.2.2.1 rfl)), h.text.far hf (fun k hk hs => (hfar N k hk hs).1), h.ats, h.sz, h.lim0, hmap h.map, h.undo.keep (hK N) (Nat.le_refl _) (hown _), h.redo.keep (hK N) (Nat.le_refl _) (hown _), h.sep, ?_, Nat.le_trans h.nle hf.size, h.nums, h.low⟩
 have ho := h.open_
 cases hn : st.now with
 | none => rw [hn] at ho; exact ho
 | some o =>
  rw [hn] at ho
  obtain ⟨p, e, s, m2, vm, vs, h1, h2, h3, h4, h5, h6⟩ := ho
  exact ⟨p, e, s, m2, vm, vs, h1.fr hf (hne h1 (fun hA => hA.2.2.2.1 rfl)), hmap h2, h3.keep (hK N), own_fr' h4 hf (fun b cs hs hb => hne hb (fun hA => hA.2.1.2.2.1 rfl) hs), (h5.keep (hK w.heap.size).mvs).mono hf.size, h6⟩
theorem BkAt.alien {w w' : World} {N B gb g n m : Nat} {enc lim : Int} {add vu vr : Value} {st : BkS} {t : Tr} {a : Option Addr} {xs : List Value} {now : Option Addr} {S : Nat -> Prop} (h : BkAt w N B gb g enc lim n add st t a xs m vu vr now) (hf : Fr S w w')
  (hS : ∀ k, k < w.heap.size -> S k -> ∃ T cs, Blk w k T cs /\ Alien T) : BkAt w' N B gb g enc lim n add st t a xs m vu vr now := h.alien2 hf (fun k h1 h2 => .inl (hS k h1 h2))
structure DeskIs (w : World) (B gd gb g : Nat) (enc lim : Int) (n : Nat) (st : BkS) (dc : Array Value) : Prop where
 desk : Blk w gd 42 dc
 c0 : dc[0]? = some (.pointer (some ⟨gb, 0, none⟩))
 low : B <= gd
 book : ∃ N add t a xs m vu vr now n', n' <= n /\ BkAt w N B gb g enc lim n' add st t a xs m vu vr now
section
variable {w w' : World} {B gd gb g n : Nat} {enc lim : Int} {st : BkS} {dc : Array Value}
theorem DeskIs.below (h : DeskIs w B gd gb g enc lim n st dc) (hb : Below w.heap.size w w') : DeskIs w' B gd gb g enc lim n st dc := by
 obtain ⟨N, add, t, a, xs, m, vu, vr, now, n', hn, hk⟩ := h.book
 exact ⟨h.desk.below hb, h.c0, h.low, N, add, t, a, xs, m, vu, vr, now, n', hn, hk.below hb⟩
theorem DeskIs.blkB (h : DeskIs w B gd gb g enc lim n st dc) : ∃ cs, Blk w gb 97 cs /\ cs[0]? = some (.pointer (some ⟨g, 0, none⟩)) := by
 obtain ⟨N, add, t, a, xs, m, vu, vr, now, n', hn, hk⟩ := h.book
 exact ⟨_, hk.blk, rfl⟩
theorem DeskIs.enc4 (h : DeskIs w B gd gb g enc lim n st dc) : enc = 1 \/ enc = 2 \/ enc = 3 \/ enc = 4 := by
 obtain ⟨N, add, t, a, xs, m, vu, vr, now, n', hn, hk⟩ := h.book
 exact hk.text.enc4
theorem DeskIs.at_ (h : DeskIs w B gd gb g enc lim n st dc) : TextAt w Any g enc (sizedA enc st.ats) := by
 obtain ⟨N, add, t, a, xs, m, vu, vr, now, n', hn, hk⟩ := h.book
 refine ⟨lim, t, a, add, hk.text.text, ?_⟩
 rw [sizedA_of hk.text.enc4 hk.text.tree.pcs.ok, hk.ats]
theorem DeskIs.sz (h : DeskIs w B gd gb g enc lim n st dc) : szS (sizedA enc st.ats) <= 65536 /\ lim <= 65536 /\ st.last <= 1073741824 := by
 obtain ⟨N, add, t, a, xs, m, vu, vr, now, n', hn, hk⟩ := h.book
 have := hk.sz
 rw [sizedA_of hk.text.enc4 hk.text.tree.pcs.ok, hk.ats] at this
 exact ⟨this, hk.lim0, hk.nums.2.1⟩
theorem sizedA_len (enc : Int) (ats : List (Int × Int)) : (sizedA enc ats).length = ats.length := by simp [sizedA, withSz]
theorem sizedA_fst (enc : Int) (ats : List (Int × Int)) : (sizedA enc ats).map Prod.fst = ats.map Prod.fst := by
 unfold sizedA withSz
 rw [List.map_map]
 exact List.map_id' _
theorem szS_len {ds : List (Int × Int)} (h : PosD ds) : (ds.length : Int) <= szS ds := by
 induction ds with
 | nil => exact Int.le_refl _
 | cons p ps ih =>
  have h1 := ih (h.drop 1)
  have h2 := szS_app [p] ps
  have h3 := szS_mono h 0 1 (by omega)
  have h4 : 0 < p.2 := h p List.mem_cons_self
  have h5 : szS [p] = p.2 := by simp [szS]
  rw [List.length_cons]
  have h6 : szS (p :: ps) = szS [p] + szS ps := h2
  omega
theorem DeskIs.pos (h : DeskIs w B gd gb g enc lim n st dc) : PosD (sizedA enc st.ats) := h.at_.pos
theorem DeskIs.len (h : DeskIs w B gd gb g enc lim n st dc) : st.ats.length <= 65536 := by
 have h1 := szS_len h.pos
 have h2 := h.sz.1
 rw [sizedA_len] at h1
 omega
theorem DeskIs.set (h : DeskIs w B gd gb g enc lim n st dc) {i : Nat} (hi : i ≠ 0) (u : Value) : DeskIs (w.setCell ⟨gd, i, none⟩ u) B gd gb g enc lim n st (dc.setIfInBounds i u) := by
 obtain ⟨N, add, t, a, xs, m, vu, vr, now, n', hn, hk⟩ := h.book
 refine ⟨h.desk.set_ i u, by rw [Array.getElem?_setIfInBounds_ne hi]; exact h.c0, h.low, N, add, t, a, xs, m, vu, vr, now, n', hn, ?_⟩
 exact hk.alien (show Fr (· = gd) w _ from (Fr.refl _ _).set1 i u) (fun k _ hk => ⟨_, _, hk ▸ h.desk, by decide⟩)
theorem DeskIs.alien {S : Nat -> Prop} (h : DeskIs w B gd gb g enc lim n st dc) (hf : Fr S w w') (hS : ∀ k, k < w.heap.size -> S k -> k ≠ gd /\ ∃ T cs, Blk w k T cs /\ Alien T) : DeskIs w' B gd gb g enc lim n st dc := by
 obtain ⟨N, add, t, a, xs, m, vu, vr, now, n', hn, hk⟩ := h.book
 exact ⟨h.desk.fr hf (fun hs => (hS _ h.desk.lt hs).1 rfl), h.c0, h.low, N, add, t, a, xs, m, vu, vr, now, n', hn, hk.alien hf (fun k h1 h2 => (hS k h1 h2).2)⟩
theorem DeskIs.alien2 {S : Nat -> Prop} (h : DeskIs w B gd gb g enc lim n st dc) (hf : Fr S w w') (hS : ∀ k, k < w.heap.size -> S k -> k ≠ gd /\ ((∃ T cs, Blk w k T cs /\ Alien T) \/ (k = st.mb /\ ∃ es y, w.heap[k]? = some (.map es y)))) : DeskIs w' B gd gb g enc lim n st dc := by
 obtain ⟨N, add, t, a, xs, m, vu, vr, now, n', hn, hk⟩ := h.book
 exact ⟨h.desk.fr hf (fun hs => (hS _ h.desk.lt hs).1 rfl), h.c0, h.low, N, add, t, a, xs, m, vu, vr, now, n', hn, hk.alien2 hf (fun k h1 h2 => (hS k h1 h2).2)⟩
theorem DeskIs.bk {st' : BkS} {n' : Nat} (h : DeskIs w B gd gb g enc lim n st dc) (hf : BkFr B w w') (hb : ∃ N add t a xs m vu vr now n1, n1 <= n' /\ BkAt w' N B gb g enc lim n1 add st' t a xs m vu vr now) : DeskIs w' B gd gb g enc lim n' st' dc :=
 ⟨hf.blk h.desk (by decide), h.c0, h.low, hb⟩
end
end Go.Proofs.YtgiihhikdoikgaaGreat
