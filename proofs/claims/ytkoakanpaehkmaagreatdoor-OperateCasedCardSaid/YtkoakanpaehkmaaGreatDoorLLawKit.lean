/-
  What the statements' own functions have in common.
-/
import Derived.Test.YtkoakanpaehkmaaGreatDoorLRfLines
import Derived.Test.YtkoakanpaehkmaaGreatDoorLType
import Derived.Test.YtkoakanpaehkmaaGreatDoorLJoinLaw2
import Derived.Test.YtkoakanpaehkmaaGreatDoorLUndoLaw
import Derived.Test.YtkoakanpaehkmaaGreatDoorLEnd2
import Derived.Lib.SlBytesConst
set_option linter.unusedSimpArgs false
set_option linter.unusedVariables false
set_option maxRecDepth 100000
set_option maxHeartbeats 32000000
namespace Go.Proofs.YtkoakanpaehkmaaGreatDoor
open Go.RowKit
def IntsI (w : World) (A : Option Addr) (n : Nat) (l : List Int) : Prop := Ints w (fun b => ∃ cs, Blk w b 3 cs) A n l
theorem IntsI.fr {w w' : World} {A : Option Addr} {n : Nat} {l : List Int} {S : Nat -> Prop} (h : IntsI w A n l) (hf : Fr S w w') (hS : ∀ b, b < w.heap.size -> S b -> ¬ ∃ cs, Blk w b 3 cs) : IntsI w' A n l := by
 have h0 : Ints w (fun b => ∃ cs, Blk w b 3 cs) A n l := h
 have h1 : Ints w' (fun b => b < w.heap.size /\ ∃ cs, Blk w b 3 cs) A n l := Reads.fr (Reads.more h0 (D' := fun b => b < w.heap.size /\ ∃ cs, Blk w b 3 cs) (fun b hb hlt => ⟨hlt, hb⟩) (by decide)) hf (fun b hb hlt hs => hS b hlt hs hb.2)
 exact Reads.more h1 (D' := fun b => ∃ cs, Blk w' b 3 cs) (fun b hb _ => by
  obtain ⟨hlt, cs, hb⟩ := hb
  exact ⟨cs, hb.fr hf (fun hs => hS b hlt hs ⟨cs, hb⟩)⟩) (by decide)
theorem IntsI.bel {w w' : World} {A : Option Addr} {n : Nat} {l : List Int} (h : IntsI w A n l) (hb : Below w.heap.size w w') : IntsI w' A n l := h.fr (S := fun _ => False) (Fr.of_below hb) (fun _ _ hs => hs.elim)
theorem IntsI.any {w : World} {A : Option Addr} {n : Nat} {l : List Int} (h : IntsI w A n l) : Ints w Any A n l := by
 have h0 : Ints w (fun b => ∃ cs, Blk w b 3 cs) A n l := h
 exact Reads.more h0 (fun _ _ _ => trivial) (by decide)
theorem IntsI.of_own {w : World} {base n c : Nat} {A : Option Addr} {xs : List Int} (h : w.ownsRow base 3 1 (.slice A n c) n (xs.map (Value.int .i64))) : IntsI w A n xs := by
 refine ⟨h.1, fun hk => ?_⟩
 rcases h.2 with ⟨e0, h0⟩ | ⟨r, c', cur, e1, hb, hr, h1, h2, h3, h4⟩
 ·omega
 ·have hA : A = some ⟨r, 0, none⟩ := by injection e1
  obtain ⟨ad, e2, _, hc⟩ := (Reads.of_own h).2 hk
  rw [hA] at e2
  injection e2 with e2
  refine ⟨ad, by rw [hA, e2], ⟨cur, ?_⟩, hc⟩
  rw [<- e2]
  exact hr
def TypeAct (st : BkS) (n : Nat) (at_ : Int) (xs : List Int) (c x : Int) (ats' : List (Int × Int)) (o' : OpS) (n' : Nat) : Prop :=
 ∃ (A : Option Addr) (k : Nat), x = at_ + xs.length /\ ats' = edA [typeE at_ xs A k] st.ats /\ o' = ⟨st.ats, c, [[mvOf (typeE at_ xs A k)]], st.state, true⟩ /\ n' = n + 131072
def typeS (st : BkS) (at_ : Int) (xs : List Int) (A : Option Addr) (k : Nat) : BkS :=
 { st with ats := edA [typeE at_ xs A k] st.ats, now := none, undo := st.undo ++ [⟨st.ats, edA [typeE at_ xs A k] st.ats, at_, at_ + xs.length, [[mvOf (typeE at_ xs A k)]], st.state, st.last + 1⟩], redo := [], state := st.last + 1, last := st.last + 1 }
def TypePost (B gd gb g : Nat) (enc lim : Int) (n : Nat) (st : BkS) (dc : Array Value) (at_ : Int) (xs : List Int) (w : World) (e : Ending) (w' : World) : Prop :=
 e = .returned (.int .i64 0) /\ ∃ (A : Option Addr) (k : Nat), DeskIs w' B gd gb g enc lim (n + 131072) (typeS st at_ xs A k) (dc.setIfInBounds 2 (.int .i64 (at_ + xs.length))) /\ DFr B (· = gd) w w'
theorem edA_type {at_ : Int} {xs : List Int} {A : Option Addr} {k : Nat} {ats : List (Int × Int)} : edA [typeE at_ xs A k] ats = ats.take at_.toNat ++ xs.map (fun x => (x, -1)) ++ ats.drop at_.toNat := rfl
theorem type_work (B gd gb g n b0 b1 b2 : Nat) (enc lim at_ b : Int) (st : BkS) (dc : Array Value) (A : Option Addr) (m c : Nat) (xs : List Int) (w : World) (h : DeskIs w B gd gb g enc lim n st dc) (hn : st.now = none) (hdz : dc.size = 10)
  (h9 : dc[9]? = some (.int .i64 b)) (hb : b = 1 \/ b = 2 \/ b = 3)
  (k0 : Blk w b0 27 #[.pointer (some ⟨gd, 0, none⟩)]) (k1 : Blk w b1 3 #[.int .i64 at_]) (k2 : Blk w b2 34 #[.slice A m c])
  (hx : Ints w (fun b => b < w.heap.size /\ ∃ cs, Blk w b 3 cs) A m xs) (hm : 0 < m /\ m <= 1048576) (hno : ∀ x ∈ xs, x ≠ 10) (hat : 0 <= at_ /\ at_ <= (st.ats.length : Int)) (hz : ∀ A' c', refF enc lim (sizedA enc st.ats) [typeE at_ xs A' c'] = 0) (hnn : n + 131072 <= 1073741824)
  (hud : (st.undo.length : Int) < st.depth) (hla : st.last < 1073741824) :
  Calls Tryz.prog 31 #[.pointer (some ⟨gd, 0, none⟩), .int .i64 at_, .func (.func 65) #[] #[.pointer (some ⟨b0, 0, none⟩), .pointer (some ⟨b1, 0, none⟩), .pointer (some ⟨b2, 0, none⟩)]] w (TypePost B gd gb g enc lim n st dc at_ xs w) := by
 have hxl := hx.len
 refine (work_ok B gd gb g n enc lim at_ st dc _ _ (fun _ => False) (TypeAct st n at_ xs at_) w h hn hat hdz Tryz.call65 (fun _ hx => hx.elim) (fun w1 hd1 hf1 => ?_) (fun at' ats' o' n' ha => ?_) (by omega)).mono ?_
 ·refine (type1_any B gd gb g n b0 b1 b2 enc lim at_ b { st with now := some ⟨st.ats, at_, [], st.state, false⟩ } ⟨st.ats, at_, [], st.state, false⟩ dc A m c xs w1 hd1 rfl (by simp) h9 hb (hf1.blk k0 (by decide) (fun hx => hx)) (hf1.blk k1 (by decide) (fun hx => hx)) (hf1.blk k2 (by decide) (fun hx => hx))
   (Reads.more (Reads.fr hx hf1 (fun b hb _ hs => ?_)) (fun _ _ _ => trivial) (by decide)) hm hno hat hz hnn).mono ?_
  ·rcases hs with ⟨_, T, cs, hT, hB⟩ | hs
   ·obtain ⟨_, cs', hc'⟩ := hb
    have : T = 3 := by
     unfold Blk at hT hc'
     rw [hT] at hc'
     injection hc' with hc'
     injection hc' with _ hc'
    subst this
    exact absurd hB (by decide)
   ·exact hs
  ·rintro e w2 ⟨A', c', rfl, hd2, hf2⟩
   exact ⟨_, _, _, _, ⟨A', c', rfl, rfl, rfl, rfl⟩, rfl, hd2, DFr.of_bk hf2⟩
 ·obtain ⟨A', k, rfl, rfl, rfl, rfl⟩ := ha
  refine ⟨⟨by omega, ?_⟩, fun _ => ⟨hud, hla⟩⟩
  rw [edA_type]
  simp
  omega
 ·rintro e w2 ⟨rfl, at', ats', o', n', ⟨A', k, rfl, rfl, rfl, rfl⟩, hd, hf⟩
  exact ⟨rfl, A', k, hd, hf.wide (Nat.le_refl _) (fun b _ hb => hb.resolve_left (fun h => h))⟩
theorem keep2_set {w : World} {p q a : Addr} {u v : Value} (x : Value) (hp : p.block ≠ a.block) (hq : q.block ≠ a.block) (h : w.cell? p = some u /\ w.cell? q = some v) : (w.setCell a x).cell? p = some u /\ (w.setCell a x).cell? q = some v :=
 ⟨(World.cell?_of_block (w := w) (Below.heap_setCell w a x p.block hp)).trans h.1, (World.cell?_of_block (w := w) (Below.heap_setCell w a x q.block hq)).trans h.2⟩
theorem type_any (B gd gb g n : Nat) (enc lim at_ b : Int) (st : BkS) (dc : Array Value) (A : Option Addr) (m c : Nat) (xs : List Int) (w : World) (h : DeskIs w B gd gb g enc lim n st dc) (hn : st.now = none) (hdz : dc.size = 10)
  (h2 : dc[2]? = some (.int .i64 at_)) (h9 : dc[9]? = some (.int .i64 b)) (hb : b = 1 \/ b = 2 \/ b = 3)
  (hx : Ints w (fun b => b < w.heap.size /\ ∃ cs, Blk w b 3 cs) A m xs) (hm : 0 < m /\ m <= 1048576) (hno : ∀ x ∈ xs, x ≠ 10) (hat : 0 <= at_ /\ at_ <= (st.ats.length : Int)) (hz : ∀ A' c', refF enc lim (sizedA enc st.ats) [typeE at_ xs A' c'] = 0) (hnn : n + 131072 <= 1073741824)
  (hud : (st.undo.length : Int) < st.depth) (hla : st.last < 1073741824) :
  Calls Tryz.prog 26 #[.pointer (some ⟨gd, 0, none⟩), .slice A m c] w (TypePost B gd gb g enc lim n st dc at_ xs w) := by
 have hmf : ∀ (fn : Fn) (first cap : Array Value) (w : World), (Instr.makeFunc fn first cap).run Tryz.prog w = .ok (.func fn first cap) w := fun _ _ _ _ => rfl
 have hlen := h.len
 have hw2 : Below w.heap.size w ((w.alloc (.cells #[.pointer (some ⟨gd, 0, none⟩)] 27)).alloc (.cells #[.slice A m c] 34)) := balloc (balloc (Below.refl _ _))
 have b0 : Blk ((w.alloc (.cells #[.pointer (some ⟨gd, 0, none⟩)] 27)).alloc (.cells #[.slice A m c] 34)) w.heap.size 27 #[.pointer (some ⟨gd, 0, none⟩)] := (Blk.new w _ _).alloc _
 have b2 : Blk ((w.alloc (.cells #[.pointer (some ⟨gd, 0, none⟩)] 27)).alloc (.cells #[.slice A m c] 34)) (w.heap.size + 1) 34 #[.slice A m c] := Blk.new' (by simp)
 have HH := Lib.hid h
 have HT := Lib.hid (fun (w' : World) (hb : Below w.heap.size w w') => text_desk (h.below hb))
 have hle := fun (w' : World) (hb : Below w.heap.size w w') => len_any Any g enc (sizedA enc st.ats) w' (h.below hb).at_
 rw [sizedA_len] at hle
 have HLE := Lib.hid hle
 obtain ⟨N, hN⟩ : ∃ N, st.ats.length = N := ⟨_, rfl⟩
 rw [hN] at HLE hat hlen
 have HNN := Lib.hid hN
 have HX := Lib.hid hx
 clear h hle hN hx
 go_enter Tryz.func26, Tryz.ntmps26
 go_upto_region 1 with fail
 obtain ⟨w2, hw20⟩ : ∃ x', ((w.alloc (.cells #[.pointer (some ⟨gd, 0, none⟩)] 27)).alloc (.cells #[.slice A m c] 34)) = x' := ⟨_, rfl⟩
 rw [hw20] at hw2 b0 b2 ⊢
 clear hw20
 have s0 : w2.cell? ⟨w.heap.size, 0, none⟩ = some (.pointer (some ⟨gd, 0, none⟩)) /\ w2.cell? ⟨gd, 2, none⟩ = some (.int .i64 at_) := ⟨b0.cell 0, ((HH.out.below hw2).desk.cell 2).trans h2⟩
 go_cut [5] (fun s wx => ∃ b5, s = .pointer (some ⟨b5, 0, none⟩) /\ Hid (Blk wx b5 3 #[.int .i64 at_]) /\ Below w2.heap.size w2 wx)
 case first =>
  have p1 : (at_ < 0) = False := by simp; omega
  have p2 : ((N : Int) < at_) = False := by simp; omega
  have p3 : max at_ 0 = at_ := by omega
  have p4 : min at_ (N : Int) = at_ := by omega
  have s1 := keep2 (Below.drew (Below.refl _ _)) s0
  have n1 : w.heap.size ≠ w2.heap.size := by have := b0.lt; omega
  have n2 : gd ≠ w2.heap.size := by have := HH.out.desk.lt; have := hw2.size; omega
  have n3 : ∀ w5 : World, w2.heap.size <= w5.heap.size -> w.heap.size ≠ w5.heap.size /\ gd ≠ w5.heap.size := fun w5 h5 => by have := b0.lt; have := HH.out.desk.lt; have := hw2.size; omega
  go_region_held3 (fun w' => w'.cell? ⟨w.heap.size, 0, none⟩ = some (.pointer (some ⟨gd, 0, none⟩)) /\ w'.cell? ⟨gd, 2, none⟩ = some (.int .i64 at_)) (first | (with_reducible assumption) | (with_reducible exact keep2 (Below.drew (balloc (Below.refl _ _))) s0) | (with_reducible exact keep2 (balloc (Below.refl _ _)) s1) | (with_reducible exact keep2 (balloc (Below.refl _ _)) s3) | (with_reducible exact keep2_set _ n1 n2 s3) | (with_reducible exact keep2_set _ (n3 _ z5).1 (n3 _ z5).2 (keep2 (balloc (Below.refl _ _)) s3))) (first | (go_at_call 37; (with_reducible refine (HT.out _ (bseq hw2 (Below.drew (Below.refl _ _)))).mono ?_); rintro e w5 ⟨rfl, rfl⟩) | (go_at_call 37; (with_reducible refine (HT.out _ (bseq hw2 (Below.drew (balloc (Below.refl _ _))))).mono ?_); rintro e w5 ⟨rfl, rfl⟩) | (go_at_call 28; (with_reducible refine (HLE.out _ (bseq hw2 (Below.drew (Below.refl _ _)))).mono ?_); rintro e w5 ⟨rfl, hb5⟩; have s3 := keep2 hb5 s1; have z5 : w2.heap.size <= w5.heap.size := hb5.size) | (go_at_call 28; (with_reducible refine (HLE.out _ (bseq hw2 (Below.drew (balloc (Below.refl _ _))))).mono ?_); rintro e w5 ⟨rfl, hb5⟩; have s3 := keep2 (bseq (Below.drew (balloc (Below.refl _ _))) hb5) s0; have hbz := ((Blk.new w2 3 #[.int .i64 0]).drew).below hb5; have z0 : w5.cell? ⟨w2.heap.size, 0, none⟩ = some (.int .i64 0) := hbz.cell 0; have zf := hbz.frozen 0))
  all_goals
   go_wp2_with fail
   go_meet
   first
    | exact ⟨_, rfl, Lib.hid (Blk.new _ _ _), balloc (bdrew hb5)⟩
    | exact ⟨_, rfl, Lib.hid ((hbz.set_ 0 _).eq_ (by simp)), (bseq (Below.drew (balloc (Below.refl _ _))) hb5).setCell (Nat.le_refl _) _⟩
 case rest =>
  obtain ⟨b5, rfl, hB5, hbc⟩ := hcut
  have hwc := bseq hw2 hbc
  have k0 := b0.below hbc
  have k2 := b2.below hbc
  have y0 := k0.cell 0
  have y5 := hB5.out.cell 0
  simp at y0 y5
  have hxc : Ints wc (fun b => b < wc.heap.size /\ ∃ cs, Blk wc b 3 cs) A m xs := Reads.more (Reads.below HX.out hwc) (fun b hb hlt => by
   obtain ⟨_, cs, hb⟩ := hb
   exact ⟨hlt, cs, hb.below hwc⟩) (by decide)
  rw [<- HNN.out] at hat
  have HWK := Lib.hid (type_work B gd gb g n w.heap.size b5 (w.heap.size + 1) enc lim at_ b st dc A m c xs wc (HH.out.below hwc) hn hdz h9 hb k0 hB5.out k2 hxc hm hno hat hz hnn hud hla)
  clear hxc k0 k2 HX hz h2 h9 hdz hn s0 b0 b2
  go_wp2_with fail
  refine (HWK.out).mono ?_
  rintro e w9 ⟨rfl, A', k, hd, hf⟩
  have HD := Lib.hid hd
  clear hd
  go_wp2_with fail
  go_ret
  exact ⟨rfl, A', k, HD.out, (DFr.of_below hwc).trans hf⟩
theorem mvFlat_at (es : List Mv) (k : Nat) (hk : k < es.length) (j : Nat) (hj : j < 3) : (mvFlat es)[k * 3 + j]? = es[k].cells[j]? := by
 unfold mvFlat
 induction es generalizing k with
 | nil => simp at hk
 | cons p ps ih =>
  rw [List.flatMap_cons]
  cases k with
  | zero =>
   rw [List.getElem?_append_left (by simp [Mv.cells]; omega)]
   simp
  | succ k =>
   rw [List.getElem?_append_right (by simp [Mv.cells]; omega)]
   have := ih k (by simpa using hk)
   simp only [List.getElem_cons_succ]
   rw [<- this]
   congr 1
   simp [Mv.cells]
   omega
theorem RowT.mv {w : World} {N m : Nat} {A : Option Addr} {mv : List Mv} (h : RowT w N 174 3 A m (mvFlat mv)) (hl : mv.length = m) {j : Nat} (hj : j < m) :
  ∃ b o f t n, A = some ⟨b, o, none⟩ /\ w.cell? ⟨b, o + j * 3, none⟩ = some (.int .i64 f) /\ w.cell? ⟨b, o + j * 3 + 1, none⟩ = some (.int .i64 t) /\ w.cell? ⟨b, o + j * 3 + 2, none⟩ = some (.int .i64 n) := by
 obtain ⟨b, o, cs, e, _, hk, hc⟩ := h.2 (by omega)
 refine ⟨b, o, mv[j].f, mv[j].t, mv[j].n, e, ?_, ?_, ?_⟩
 ·rw [hk.cell]
  exact hc _ _ (by have := mvFlat_at mv j (by omega) 0 (by omega); rw [Nat.add_zero] at this; rw [this]; rfl)
 ·rw [hk.cell, Nat.add_assoc]
  exact hc _ _ (by rw [mvFlat_at mv j (by omega) 1 (by omega)]; rfl)
 ·rw [hk.cell, Nat.add_assoc]
  exact hc _ _ (by rw [mvFlat_at mv j (by omega) 2 (by omega)]; rfl)
def InvR (w2 : World) (b m : Nat) (k : Nat) (q4 q12 : Value) (wr : World) : Prop :=
 ∃ (s : Int) (j : Nat) (cs : Array Value), q4 = .int .i64 s /\ q12 = .int .i64 (j : Int) /\ Blk wr b 174 cs /\ cs.size = m * 3 /\ Fr (fun x => x = b) w2 wr /\ j <= m /\ m - j <= k
theorem inverse_any (N : Nat) (A : Option Addr) (m c : Nat) (mv : List Mv) (w : World) (hr : RowT w N 174 3 A m (mvFlat mv)) (hN : N <= w.heap.size) (hl : mv.length = m) (hm : m <= 1073741824) :
  Calls Tryz.prog 58 #[.slice A m c] w fun e w' => (∃ v, e = .returned v) /\ Below w.heap.size w w' := by
 obtain ⟨im, him, hi0, hi1, hi2⟩ := info_parts move_info
 have HR := Lib.hid hr
 have HL := Lib.hid hl
 clear hr hl
 go_enter Tryz.func58, Tryz.ntmps58
 go_wp2_with (at_make; refine wpList_make_full _ rfl _ _ 103 rfl w.heap.size 174 im (.agg #[.int .i64 0, .int .i64 0, .int .i64 0]) 3 Tryz.underlying103 him hi0 hi1 _ _ _ _ m rfl rfl rfl rfl (by rw [hi2]; omega) (by unfold maxLen; omega) (Nat.le_refl _) ?_)
 intro w2 ho2 hg2
 obtain ⟨cs0, hcl, hB2⟩ : ∃ cs0 : Array Value, cs0.size = m * 3 /\ Blk w2 w.heap.size 174 cs0 := ⟨_, by simp [size_madeCells], own_fullN ho2⟩
 have hb2 : Below w.heap.size w w2 := below_grown hg2
 have hB2lt : w.heap.size < w2.heap.size := hB2.lt
 clear ho2 hg2 him hi0 hi1 hi2
 go_wp2_with fail
 go_loopg [4, 12] m (fun k q4 q12 wr => InvR w2 w.heap.size m k q4 q12 wr)
 case atStart => exact ⟨0, 0, cs0, rfl, rfl, hB2, hcl, Fr.refl _ _, by omega, by omega⟩
 case round =>
  obtain ⟨s, j, cs, rfl, rfl, hB, hcs, hF, hj, hgk⟩ := hrel
  obtain ⟨w3, hw3⟩ : ∃ x, x = wr := ⟨_, rfl⟩
  subst hw3
  by_cases hlt : j < m
  ·have hR3 : RowT w3 N 174 3 A m (mvFlat mv) := (HR.out.keep (KeepTy.below hb2)).keep (KeepTy.fr hF (fun b cs hb hs _ => by omega))
   obtain ⟨eb, eo, ef, et, en, rfl, z0, z1, z2⟩ := hR3.mv HL.out hlt
   have hlb := hB.lt
   clear hR3
   go_upto_region 6 with fail
   obtain ⟨w4, hw4⟩ : ∃ w4, w3.alloc (.cells #[.int .i64 ef, .int .i64 et, .int .i64 en] 174) = w4 := ⟨_, rfl⟩
   have hbx := Blk.new w3 174 #[.int .i64 ef, .int .i64 et, .int .i64 en]
   have hB3 := hB.alloc (.cells #[.int .i64 ef, .int .i64 et, .int .i64 en] 174)
   have hF4 := hF.alloc (.cells #[.int .i64 ef, .int .i64 et, .int .i64 en] 174)
   rw [hw4] at hbx hB3 hF4 ⊢
   clear hw4
   obtain ⟨u0, hu0⟩ : ∃ u, cs[j * 3]? = some u := ⟨cs[j * 3]'(by omega), Array.getElem?_eq_getElem (by omega)⟩
   obtain ⟨u1, hu1⟩ : ∃ u, cs[j * 3 + 1]? = some u := ⟨cs[j * 3 + 1]'(by omega), Array.getElem?_eq_getElem (by omega)⟩
   obtain ⟨u2, hu2⟩ : ∃ u, cs[j * 3 + 2]? = some u := ⟨cs[j * 3 + 2]'(by omega), Array.getElem?_eq_getElem (by omega)⟩
   have r0 := hB3.cell (j * 3)
   have r1 := hB3.cell (j * 3 + 1)
   have r2 := hB3.cell (j * 3 + 2)
   rw [hu0] at r0
   rw [hu1] at r1
   rw [hu2] at r2
   have f0 := hB3.frozen (j * 3)
   have f1 := hB3.frozen (j * 3 + 1)
   have f2 := hB3.frozen (j * 3 + 2)
   have x0 := hbx.cell 0
   have x1 := hbx.cell 1
   have x2 := hbx.cell 2
   simp at x0 x1 x2
   clear hu0 hu1 hu2 z0 z1 z2
   have ej : ((j : Int) + 1) = ((j + 1 : Nat) : Int) := by omega
   have hne : w3.heap.size ≠ w.heap.size := by omega
   have hfin : ∀ (q : Int) v0 v1 v2, InvR w2 w.heap.size m (m - (j + 1)) (.int .i64 q) (.int .i64 ((j + 1 : Nat) : Int)) (((w4.setCell ⟨w.heap.size, j * 3, none⟩ v0).setCell ⟨w.heap.size, j * 3 + 1, none⟩ v1).setCell ⟨w.heap.size, j * 3 + 2, none⟩ v2) := fun q v0 v1 v2 =>
    ⟨q, j + 1, _, rfl, rfl, ((hB3.set_ (j * 3) v0).set_ (j * 3 + 1) v1).set_ (j * 3 + 2) v2, by simp [hcs], ((hF4.setCell (p := ⟨w.heap.size, j * 3, none⟩) (.inl rfl) v0).setCell (p := ⟨w.heap.size, j * 3 + 1, none⟩) (.inl rfl) v1).setCell (p := ⟨w.heap.size, j * 3 + 2, none⟩) (.inl rfl) v2, by omega, by omega⟩
   have hX5 := fun v0 v1 v2 => ((hbx.far (p := ⟨w.heap.size, j * 3, none⟩) hne v0).far (p := ⟨w.heap.size, j * 3 + 1, none⟩) hne v1).far (p := ⟨w.heap.size, j * 3 + 2, none⟩) hne v2
   have HFIN := Lib.hid hfin
   have HX5 := Lib.hid hX5
   clear hfin hX5 hB3 hF4 hB hF hbx
   go_upto_region 7 with fail
   obtain ⟨v0, hv0⟩ : ∃ v, Value.int .i64 (wrap64 (ef + s)) = v := ⟨_, rfl⟩
   obtain ⟨v1, hv1⟩ : ∃ v, Value.int .i64 (wrap64 (wrap64 (ef + s) + en)) = v := ⟨_, rfl⟩
   obtain ⟨v2, hv2⟩ : ∃ v, Value.int .i64 (wrap64 (et - ef)) = v := ⟨_, rfl⟩
   rw [hv1, hv2, hv0]
   clear hv0 hv1 hv2
   have hX := HX5.out v0 v1 v2
   have hfin := fun q => HFIN.out q v0 v1 v2
   obtain ⟨w5, hw5⟩ : ∃ w5, ((w4.setCell ⟨w.heap.size, j * 3, none⟩ v0).setCell ⟨w.heap.size, j * 3 + 1, none⟩ v1).setCell ⟨w.heap.size, j * 3 + 2, none⟩ v2 = w5 := ⟨_, rfl⟩
   rw [hw5] at hX hfin ⊢
   rw [<- ej] at hfin
   have y0 := hX.cell 0
   have y1 := hX.cell 1
   have y2 := hX.cell 2
   simp at y0 y1 y2
   have HFI := Lib.hid hfin
   clear hfin hX HX5 HFIN hw5 ej x0 x1 x2 r0 r1 r2 f0 f1 f2
   go_wp2_with fail
   go_roundg (m - (j + 1))
   case measure => omega
   case rel => exact HFI.out _
  ·have hjm : j = m := by omega
   subst hjm
   have hfin : Below w.heap.size w w3 := (Fr.call (S := fun x => x = w.heap.size) (Fr.of_below hb2) hF (fun i hi hs => hs)).below (fun k hk h => by omega)
   clear hB hF
   go_wp2_with fail
   go_ret
   exact ⟨⟨_, rfl⟩, hfin⟩
def UndoQ (N B gb g : Nat) (enc lim : Int) (n : Nat) (add : Value) (st : BkS) (xs : List Value) (m : Nat) (us : List Gr) (G : Gr) (w : World) (e : Ending) (w' : World) : Prop :=
 e = .returned (.tuple #[.int .i64 G.bgn, .int .i64 0]) /\ (∃ t' a' vu' vr', BkAt w' N B gb g enc lim n add { st with ats := G.before, undo := us, redo := st.redo ++ [G], state := G.old } t' a' xs m vu' vr' none) /\ BkFr B w w'
def UndoR (w5 : World) (mm : Nat) (j : Nat) (q6 : Value) (wr : World) : Prop :=
 ∃ i : Int, q6 = .int .i64 i /\ Below w5.heap.size w5 wr /\ -1 <= i /\ i < (mm : Int) /\ i + 1 <= (j : Int)
theorem undo_none (N B gb g : Nat) (enc lim : Int) (n : Nat) (add : Value) (st : BkS) (t : Tr) (a : Option Addr) (xs : List Value) (m : Nat) (vu vr : Value) (now : Option Addr) (us : List Gr) (G : Gr) (w : World)
  (h : BkAt w N B gb g enc lim n add st t a xs m vu vr now) (hn : st.now = none) (hu : st.undo = us ++ [G]) (hr : st.redo.length < 1048576) (hmb : ∀ mv, mv ∈ G.moves -> mv.length <= 1048576) :
  Calls Tryz.prog 21 #[.pointer (some ⟨gb, 0, none⟩)] w (UndoQ N B gb g enc lim n add st xs m us G w) := by
 have hop := h.open_
 rw [hn] at hop
 subst hop
 have hun := h.undo
 rw [hu] at hun
 obtain ⟨bu, cu, q, rfl, hc1, hc2, hul, ⟨csu, hbu⟩, hcell, hG, hun⟩ := hun.last
 obtain ⟨pr, hvr, hpr, hprg, -⟩ := h.redo
 obtain ⟨k, hk⟩ : ∃ k, us.length = k := ⟨_, rfl⟩
 rw [hk] at hc1 hul hcell hun h
 obtain ⟨s1, s2, Am, mm, cm, vs, hqN, hq, hs1, hs2, hmv0, hmc, hmv, hmm⟩ := hG
 have HG := Lib.hid (show GrAt w N g add n enc q G from ⟨s1, s2, Am, mm, cm, vs, hqN, hq, hs1, hs2, hmv0, hmc, hmv, hmm⟩)
 obtain ⟨hs1N, t2, a2, hs1b, ht2, ha2, hz2⟩ := hs1
 have e1 : IntKind.i64.wrap (((k + 1 : Nat) : Int) - 1) = (k : Int) := by rw [IntWalk.i64_in _ (by omega)]; omega
 have e2 : (((k + 1 : Nat) : Int) == 0) = false := by simp; omega
 have c6 := h.blk.cell 6
 have c2 := h.blk.cell 2
 have c3 := h.blk.cell 3
 simp at c6 c2 c3
 have hne : gb ≠ g := fun e => Blk.ne_ h.blk h.text.blk (by decide) e
 have HH := Lib.hid h
 have HK := Lib.hid hk
 have HU := Lib.hid hu
 have HN := Lib.hid hn
 have HUN := Lib.hid hun
 have HQ := Lib.hid hq
 obtain ⟨Ar, cr, rfl, hcr⟩ := own_slice hvr
 have hS0 : ∀ w', Fr (OwnB (.slice Ar pr.length cr)) w w' -> Blk w' gb 87 #[.pointer (some ⟨g, 0, none⟩), .int .i64 st.depth, .slice (some ⟨bu, 0, none⟩) (k + 1) cu, .slice Ar pr.length cr, .map (some m), .slice none 0 0, .pointer none, .int .i64 st.state, .int .i64 st.saved, .int .i64 st.last] := fun w' hf => HH.out.blk.fr hf (own_blk_ne hvr HH.out.blk (by decide))
 have HS0 := Lib.hid hS0
 have HVR := Lib.hid hvr
 have hprl : pr.length <= 1048576 := by omega
 have k1 : ((k : Int) <= (cu : Int)) = True := by simp; omega
 have k2 : (k <= cu) = True := by simp; omega
 have e3 : IntKind.i64.wrap (k : Int) = (k : Int) := IntWalk.i64_in _ (by omega)
 have k0 : ((0 : Int) <= (k : Int)) = True := by simp
 have k3 : ((cu : Int) < (k : Int)) = False := by simp; omega
 have HPR := Lib.hid hpr
 have HA2 := Lib.hid ha2
 have hbase := HH.out.text.base
 obtain ⟨ig, hig, hg0, hg1, hg2⟩ := info_parts groups_info
 clear h hk hu hun hpr hq hvr ha2 hn hS0
 go_enter Tryz.func21, Tryz.ntmps21
 go_upto_region 7 with fail
 refine wp_region_lin (fun w' => w'.cell? ⟨gb, 2, none⟩ = some (.slice (some ⟨bu, 0, none⟩) (k + 1) cu) /\ w'.cell? ⟨gb, 3, none⟩ = some (.slice Ar pr.length cr)) (fun w' => w' = w.drew) (fun k => k == 14 || k == 15 || k == 18 || k == 21) (fun k => k == 18 || k == 21) (fun k => k == 1 || k == 19 || k == 20 || k == 21) (by kernel_rfl) (by kernel_rfl) (rfl) (fun w' h => by subst h; exact ⟨(HS0.out _ (Fr.refl _ _).drew).cell 2, (HS0.out _ (Fr.refl _ _).drew).cell 3⟩) ?_
 repeat ((first
  | (refine wpL_read (v := ?_) (by rfl) (by rfl) (fun w6 hSw => ?_) ?_; rotate_left; (· (obtain ⟨y0, y1⟩ := hSw; go_simp; try with_reducible rfl)))
  | (refine wpL_free (v := ?_) (by rfl) (fun w6 => ?_) ?_; rotate_left; (· (go_simp; try with_reducible rfl)))
  | refine wpL_not (by rfl) ?_); (try simp only [Act.put, pA, pB, pC]))
 refine wpL_heavy (fun u w' => u = .slice (some ⟨w.heap.size, 0, none⟩) 1 1 /\ w' = w.drew.alloc (.cells #[.pointer (some ⟨q, 0, none⟩)] 96)) (by rfl) (by rfl) (fun w6 hSw => ?_) (.inr (fun v6 w6 hT6 => ?_)) (fun v6 hv6 => ?_)
 ·(subst hSw; go_simp; exact ⟨rfl, rfl⟩)
 ·(obtain ⟨-, rfl⟩ := hT6; exact ⟨(HS0.out _ ((Fr.refl _ _).drew.alloc _)).cell 2, (HS0.out _ ((Fr.refl _ _).drew.alloc _)).cell 3⟩)
 obtain ⟨wz, rfl, -⟩ := hv6
 (try simp only [Act.put, pA, pB, pC])
 refine wpL_heavy (fun u w' => (w'.ownsRow B 96 1 u (pr.length + 1) ((pr.map fun p => Value.pointer (some ⟨p, 0, none⟩)) ++ [.pointer (some ⟨q, 0, none⟩)]) /\ ∀ b, u.ownBlock = some b -> (Value.slice Ar pr.length cr).ownBlock = some b \/ w.heap.size <= b) /\ Fr (OwnB (.slice Ar pr.length cr)) w w') (by rfl) (by rfl) (fun w6 hSw => ?_) (.inr (fun v6 w6 hT6 => ?_)) (fun v6 hv6 => ?_)
 ·(obtain ⟨-, rfl⟩ := hSw; exact hrun_append_own 83 rfl B 96 ig (.pointer none) 1 8 Tryz.underlying83 hig hg0 hg1 hg2 rfl (by decide) (.slice Ar pr.length cr) pr.length _ rfl ((own_bel HVR.out (Below.refl _ _).drew).alloc _) ⟨w.heap.size, 0, none⟩ 1 1 [.pointer (some ⟨q, 0, none⟩)] rfl rfl (cell_one_new w.drew _ _) (by simp [Value.oneCell']) (by unfold maxLen; omega) (by omega) (by simp; omega) (fun v' w' ho' hg' _ hat' => ⟨⟨ho', fun b hb => (by rcases hat' with e | e; exact .inl (e ▸ hb); rw [e] at hb; injection hb with hb; right; rw [<- hb]; simp)⟩, ((Fr.refl _ _).drew.alloc _).grown hg' (fun k hk _ => hk)⟩))
 ·(exact ⟨(HS0.out _ hT6.2).cell 2, (HS0.out _ hT6.2).cell 3⟩)
 obtain ⟨wz, hz7, -⟩ := hv6; obtain ⟨A7, c7, rfl, -⟩ := own_slice hz7.1; have HSEP := Lib.hid hz7.2
 (try simp only [Act.put, pA, pB, pC])
 iterate 2 ((first
  | (refine wpL_read (v := ?_) (by rfl) (by rfl) (fun w6 hSw => ?_) ?_; rotate_left; (· (obtain ⟨y0, y1⟩ := hSw; go_simp; try with_reducible rfl)))
  | (refine wpL_free (v := ?_) (by rfl) (fun w6 => ?_) ?_; rotate_left; (· (go_simp; try with_reducible rfl)))
  | refine wpL_not (by rfl) ?_); (try simp only [Act.put, pA, pB, pC]))
 refine wpL_heavy (fun _ w' => ∃ wq, (wq.ownsRow B 96 1 (.slice A7 (pr.length + 1) c7) (pr.length + 1) ((pr.map fun p => Value.pointer (some ⟨p, 0, none⟩)) ++ [.pointer (some ⟨q, 0, none⟩)]) /\ Fr (OwnB (.slice Ar pr.length cr)) w wq) /\ w' = wq.setCell ⟨gb, 2, none⟩ (.slice (some ⟨bu, 0, none⟩) k cu)) (by rfl) (by rfl) (fun w6 hSw => ?_) (.inl (by rfl)) (fun v6 hv6 => ?_)
 ·(have y2 := (HS0.out _ hSw.2).cell 2; have y3 := (HS0.out _ hSw.2).frozen 2; simp at y2; go_simp; exact ⟨w6, ⟨hSw.1.1, hSw.2⟩, rfl⟩)
 skip
 (try simp only [Act.put, pA, pB, pC])
 iterate 2 ((first
  | (refine wpL_read (v := ?_) (by rfl) (by rfl) (fun w6 hSw => ?_) ?_; rotate_left; (· (obtain ⟨y0, y1⟩ := hSw; go_simp; try with_reducible rfl)))
  | (refine wpL_free (v := ?_) (by rfl) (fun w6 => ?_) ?_; rotate_left; (· (go_simp; try with_reducible rfl)))
  | refine wpL_not (by rfl) ?_); (try simp only [Act.put, pA, pB, pC]))
 refine wpL_heavy (fun _ w' => ∃ wq, (wq.ownsRow B 96 1 (.slice A7 (pr.length + 1) c7) (pr.length + 1) ((pr.map fun p => Value.pointer (some ⟨p, 0, none⟩)) ++ [.pointer (some ⟨q, 0, none⟩)]) /\ Fr (OwnB (.slice Ar pr.length cr)) w wq) /\ w' = (wq.setCell ⟨gb, 2, none⟩ (.slice (some ⟨bu, 0, none⟩) k cu)).setCell ⟨gb, 3, none⟩ (.slice A7 (pr.length + 1) c7)) (by rfl) (by rfl) (fun w6 hSw => ?_) (.inl (by rfl)) (fun v6 hv6 => ?_)
 ·(obtain ⟨wq, hwq, rfl⟩ := hSw; have y4 := (HS0.out _ hwq.2).set_ 2 (.slice (some ⟨bu, 0, none⟩) k cu); have y2 := y4.cell 3; have y3 := y4.frozen 3; simp at y2; go_simp; exact ⟨wq, hwq, rfl⟩)
 skip
 (try simp only [Act.put, pA, pB, pC])
 refine wpL_nil ?_
 rintro w4 ⟨wq, ⟨hu, hfq⟩, rfl⟩
 have hgbq := HS0.out _ hfq
 have typed : ∀ y, (y = gb \/ OwnB (.slice Ar pr.length cr) y) -> (∃ cs', Blk w y 87 cs') \/ (∃ cs', Blk w y 96 cs') := fun y hy => by
  rcases hy with rfl | hy
  ·exact .inl ⟨_, HH.out.blk⟩
  ·rcases HVR.out.2 with ⟨e0, _⟩ | ⟨r, c, cur, e0, h1, h2, _⟩
   ·unfold OwnB at hy; rw [e0] at hy; cases hy
   ·unfold OwnB at hy
    rw [e0] at hy
    have : r = y := by simpa [Value.ownBlock] using hy
    subst this
    exact .inr ⟨cur, h2⟩
 have hFar : ∀ M y, y < w.heap.size -> (y = gb \/ OwnB (.slice Ar pr.length cr) y) -> Far2 w M y := fun M y _ hy => by
  rcases typed _ hy with ⟨c1, hc⟩ | ⟨c1, hc⟩
  ·exact Far2.blk hc (by decide)
  ·exact Far2.blk hc (by decide)
 have notT : ∀ {T : TypeId} {cs' : Array Value} {y : Nat}, Blk w y T cs' -> T ≠ 87 -> T ≠ 96 -> ¬ (y = gb \/ OwnB (.slice Ar pr.length cr) y) := fun hb h1 h2 hy => by
  rcases typed _ hy with ⟨c1, hc⟩ | ⟨c1, hc⟩
  ·exact Blk.ne_ hb hc h1 rfl
  ·exact Blk.ne_ hb hc h2 rfl
 have hgb4 := ((hgbq.set_ 2 (.slice (some ⟨bu, 0, none⟩) k cu)).set_ 3 (.slice A7 (pr.length + 1) c7)).eq_ (show _ = #[.pointer (some ⟨g, 0, none⟩), .int .i64 st.depth, .slice (some ⟨bu, 0, none⟩) k cu, .slice A7 (pr.length + 1) c7, .map (some m), .slice none 0 0, .pointer none, .int .i64 st.state, .int .i64 st.saved, .int .i64 st.last] by simp)
 have hown4 := own_set_far (i := 3) (u := .slice A7 (pr.length + 1) c7) (own_set_far (i := 2) (u := .slice (some ⟨bu, 0, none⟩) k cu) hu hgbq (by decide)) (hgbq.set_ 2 (.slice (some ⟨bu, 0, none⟩) k cu)) (by decide)
 have hF4 := ((hfq.more (S' := fun y => y = gb \/ OwnB (.slice Ar pr.length cr) y) (fun _ _ h => .inr h)).setCell (p := ⟨gb, 2, none⟩) (.inl (.inl rfl)) (.slice (some ⟨bu, 0, none⟩) k cu)).setCell (p := ⟨gb, 3, none⟩) (.inl (.inl rfl)) (.slice A7 (pr.length + 1) c7)
 obtain ⟨w4, hw4⟩ : ∃ w4, (wq.setCell ⟨gb, 2, none⟩ (.slice (some ⟨bu, 0, none⟩) k cu)).setCell ⟨gb, 3, none⟩ (.slice A7 (pr.length + 1) c7) = w4 := ⟨_, rfl⟩
 rw [hw4] at hgb4 hown4 hF4 ⊢
 have hg4 := HH.out.text.blk.fr hF4 (notT HH.out.text.blk (by decide) (by decide))
 have hs14 := hs1b.fr hF4 (notT hs1b (by decide) (by decide))
 have hq4 := HQ.out.fr hF4 (notT HQ.out (by decide) (by decide))
 have HX := Lib.hid (show w4.drew.cell? ⟨gb, 0, none⟩ = some (.pointer (some ⟨g, 0, none⟩)) /\ w4.drew.cell? ⟨q, 0, none⟩ = some (.pointer (some ⟨s1, 0, none⟩)) from ⟨hgb4.drew.cell 0, hq4.drew.cell 0⟩)
 clear hw4 hgbq hu hfq hz7 hig hg0 hg1 hg2
 go_wp2_with fail
 refine wp_region_lin (fun w' => w'.cell? ⟨gb, 0, none⟩ = some (.pointer (some ⟨g, 0, none⟩)) /\ w'.cell? ⟨q, 0, none⟩ = some (.pointer (some ⟨s1, 0, none⟩))) (fun w' => w' = w4.drew) (fun k => k == 8) (fun k => k == 8) (fun _ => false) (by kernel_rfl) (by kernel_rfl) (rfl) (fun w' h => by subst h; exact HX.out) ?_
 repeat ((first
  | (refine wpL_read (v := ?_) (by rfl) (by rfl) (fun w6 hSw => ?_) ?_; rotate_left; (· (obtain ⟨y0, y1⟩ := hSw; go_simp; try with_reducible rfl)))
  | (refine wpL_free (v := ?_) (by rfl) (fun w6 => ?_) ?_; rotate_left; (· (go_simp; try with_reducible rfl)))
  | refine wpL_not (by rfl) ?_); (try simp only [Act.put, pA, pB, pC]))
 refine wpL_call (f := ?_) (args := ?_) (fun v w' => v = .int .i64 0 /\ w' = w4.drew.setCell ⟨g, 2, none⟩ (.pointer a2)) (by rfl) (by rfl) (fun w6 hSw => ?_) (fun w6 hSw => ?_) (.inl (by rfl)) (fun v6 hv6 => ?_)
 rotate_left 2
 ·(skip; go_simp; first | done | (constructor <;> with_reducible rfl) | with_reducible rfl)
 ·(subst hSw; refine (tback_any g s1 _ a2 _ hg4.drew ⟨_, rfl⟩ hs14.drew).mono ?_; rintro e w' ⟨rfl, rfl⟩; exact ⟨_, rfl, rfl, rfl⟩)
 obtain ⟨wz, rfl, -⟩ := hv6
 (try simp only [Act.put, pA, pB, pC])
 refine wpL_nil ?_
 rintro w5 ⟨-, rfl⟩
 have hrow4 : w4.drew.ownsRow B 5 1 add n xs := own_fr' HH.out.text.row hF4.drew (fun b cs' hs hc => notT hc (by decide) (by decide) hs)
 have hm4 : MapE w4.drew st.mb m := HH.out.map.fr hF4.drew (fun hy => by
  rcases typed _ hy with ⟨c1, hc⟩ | ⟨c1, hc⟩
  ·exact HH.out.map.ne_blk hc rfl
  ·exact HH.out.map.ne_blk hc rfl)
 have hK5 : ∀ M, GKeep M add add n n enc w (w4.drew.setCell ⟨g, 2, none⟩ (.pointer a2)) := fun M => (GKeep.far hF4.drew (hFar M)).trans (GKeep.step (TStep.set hrow4 hg4.drew HH.out.text.ne 2 _) hrow4 hg4.drew)
 have hg5 := (hg4.drew.set_ 2 (.pointer a2)).eq_ (show _ = #[.int .i64 enc, .int .i64 lim, .pointer a2, add] by simp)
 have hgb5 := hgb4.drew.far (p := ⟨g, 2, none⟩) hne (.pointer a2)
 have hq5 := hq4.drew.far (p := ⟨g, 2, none⟩) (Blk.ne_ hq4 hg4 (by decide)) (.pointer a2)
 have hrow5 := own_set_far (i := 2) (u := .pointer a2) hrow4 hg4.drew (by decide)
 have hown5 := own_set_far (i := 2) (u := .pointer a2) (show w4.drew.ownsRow B 96 1 (.slice A7 (pr.length + 1) c7) (pr.length + 1) ((pr.map fun p => Value.pointer (some ⟨p, 0, none⟩)) ++ [.pointer (some ⟨q, 0, none⟩)]) from ⟨hown4.1, hown4.2⟩) hg4.drew (by decide)
 have hmap5 := hm4.far (p := ⟨g, 2, none⟩) (fun e => hm4.ne_blk hg4.drew e) (.pointer a2)
 have hF5 := (hF4.drew.more (S' := fun y => y = g \/ y = gb \/ OwnB (.slice Ar pr.length cr) y) (fun _ _ h => .inr h)).setCell (p := ⟨g, 2, none⟩) (.inl (.inl rfl)) (.pointer a2)
 obtain ⟨w5, hw5⟩ : ∃ w5, w4.drew.setCell ⟨g, 2, none⟩ (.pointer a2) = w5 := ⟨_, rfl⟩
 rw [hw5] at hK5 hg5 hgb5 hq5 hrow5 hown5 hmap5 hF5 ⊢
 have hfin : ∀ w6, Below w5.heap.size w5 w6 -> UndoQ N B gb g enc lim n add st xs m us G w (.returned (.tuple #[.int .i64 G.bgn, .int .i64 0])) (w6.setCell ⟨gb, 7, none⟩ (.int .i64 G.old)) := by
  intro w6 hb6
  have hgb6 := hgb5.below hb6
  have hF7 : Fr (fun y => y = g \/ y = gb \/ OwnB (.slice Ar pr.length cr) y) w (w6.setCell ⟨gb, 7, none⟩ (.int .i64 G.old)) := (hF5.bel hb6).setCell (p := ⟨gb, 7, none⟩) (.inl (.inr (.inl rfl))) _
  have hK7 : ∀ M, GKeep M add add n n enc w (w6.setCell ⟨gb, 7, none⟩ (.int .i64 G.old)) := fun M => ((hK5 M).trans (GKeep.below hrow5 hg5 hb6)).trans (GKeep.far (show Fr (· = gb) w6 _ from (Fr.refl _ _).set1 7 _) (fun k _ hk => hk ▸ Far2.blk hgb6 (by decide)))
  have hsz7 := hF7.size
  have hT7 : TextM (w6.setCell ⟨gb, 7, none⟩ (.int .i64 G.old)) B g enc lim n add t2 a2 xs := ⟨(hg5.below hb6).far (p := ⟨gb, 7, none⟩) (Ne.symm hne) _, own_set_far (own_bel hrow5 hb6) hgb6 (by decide), HH.out.text.enc4, Nat.le_trans HH.out.text.base hsz7, (hK7 N).tree t2 a2 ht2⟩
  have hgb7 := (hgb6.set_ 7 (.int .i64 G.old)).eq_ (show _ = #[.pointer (some ⟨g, 0, none⟩), .int .i64 st.depth, .slice (some ⟨bu, 0, none⟩) k cu, .slice A7 (pr.length + 1) c7, .map (some m), .slice none 0 0, .pointer none, .int .i64 G.old, .int .i64 st.saved, .int .i64 st.last] by simp)
  have hun7 : StackAt (w6.setCell ⟨gb, 7, none⟩ (.int .i64 G.old)) N B g add n enc (.slice (some ⟨bu, 0, none⟩) k cu) us := HUN.out.keep (hK7 N) (Nat.le_refl _) (fun m' xs' ho => own_fr ho hF7 (fun b hb hs => by
   have hb' : bu = b := by simpa [Value.ownBlock] using hb
   subst hb'
   rcases hs with h1 | h1 | h1
   ·exact Blk.ne_ hbu HH.out.text.blk (by decide) h1
   ·exact Blk.ne_ hbu HH.out.blk (by decide) h1
   ·exact HH.out.sep bu rfl h1))
  have hre7 : StackAt (w6.setCell ⟨gb, 7, none⟩ (.int .i64 G.old)) N B g add n enc (.slice A7 (pr.length + 1) c7) (st.redo ++ [G]) := StackAt.push HPR.out hprg (hK7 N) HG.out (own_set_far (own_bel hown5 hb6) hgb6 (by decide)) hr
  refine ⟨rfl, ⟨t2, a2, _, _, hgb7, hT7, HA2.out, hz2, HH.out.lim0, (hmap5.below hb6).far (fun e => (hmap5.below hb6).ne_blk hgb6 e) _, hun7, hre7, fun b hb hb2 => ?_, (by dsimp only; rw [HN.out]), Nat.le_trans HH.out.nle hsz7, HH.out.nums, ⟨HH.out.low.1, HH.out.low.2.1, HH.out.low.2.2.1, fun _ e => by cases e⟩⟩, BkFr.of_fr hF7 (fun y hy hs => ?_)⟩
  ·have hb' : bu = b := by simpa [Value.ownBlock] using hb
   subst hb'
   rcases HSEP.out bu hb2 with h1 | h1
   ·exact HH.out.sep bu rfl h1
   ·have := hbu.lt
    omega
  ·rcases hs with rfl | hs
   ·exact ⟨HH.out.low.2.1, _, _, HH.out.text.blk, .inl rfl⟩
   ·have hlo : B <= y := by
     rcases hs with rfl | hs
     ·exact HH.out.low.1
     ·exact hs.low HVR.out
    rcases typed _ hs with ⟨c1, hc⟩ | ⟨c1, hc⟩
    ·exact ⟨hlo, _, _, hc, .inr (.inr (.inl rfl))⟩
    ·exact ⟨hlo, _, _, hc, .inr (.inr (.inr (.inr (.inr rfl))))⟩
 have hrw5 := hmv0.keep (hK5 N).rows
 have hmr5 := hmv.keep (hK5 N).mvs
 have hvl : vs.length = mm := by have := hmv0.1; omega
 have hN5 : N <= w5.heap.size := Nat.le_trans HH.out.nle hF5.size
 have c5q4 := hq5.cell 4
 have g5 : ∀ w6, Below w5.heap.size w5 w6 -> w6.cell? ⟨q, 5, none⟩ = some (.int .i64 G.old) /\ w6.cell? ⟨q, 2, none⟩ = some (.int .i64 G.bgn) /\ w6.cell? ⟨q, 4, none⟩ = some (.slice Am mm cm) /\ w6.cell? ⟨gb, 7, none⟩ = some (.int .i64 st.state) /\ w6.frozen? ⟨gb, 7, none⟩ = false := fun w6 hb =>
  ⟨(hq5.below hb).cell 5, (hq5.below hb).cell 2, (hq5.below hb).cell 4, (hgb5.below hb).cell 7, (hgb5.below hb).frozen 7⟩
 have hqg : q ≠ gb := Blk.ne_ hq5 hgb5 (by decide)
 simp at c5q4
 have HFIN := Lib.hid hfin
 have HG5 := Lib.hid g5
 have HRW := Lib.hid hrw5
 have HMR := Lib.hid hmr5
 have HVL := Lib.hid hvl
 have HGB5 := Lib.hid hgb5
 have HMAP := Lib.hid hmap5
 clear hfin g5 hrw5 hmr5 hvl hw5 hK5 hg5 hgb5 hq5 hrow5 hown5 hmap5 hF5 hrow4 hm4 hgb4 hown4 hF4 hg4 hs14 hq4 c2 c3 c6
 go_wp2_with fail
 go_loopg [6] mm (fun j q6 wr => UndoR w5 mm j q6 wr)
 case atStart => exact ⟨_, rfl, Below.refl _ _, by omega, by omega, by omega⟩
 case round =>
  obtain ⟨i, rfl, hbr, hi0, hi1, hik⟩ := hrel
  obtain ⟨w6, hw6⟩ : ∃ x, x = wr := ⟨_, rfl⟩
  subst hw6
  obtain ⟨x0, x1, x2, x3, x4⟩ := HG5.out w6 hbr
  by_cases hi : 0 <= i
  ·obtain ⟨j, rfl⟩ := Int.eq_ofNat_of_zero_le hi
   have hj : j < mm := by omega
   have hr6 := HRW.out.keep (KeepTy.below hbr)
   have hm6 := HMR.out.keep (KeepTy.below hbr)
   obtain ⟨vb, vo, vcs, rfl, -, hvk, hvc⟩ := hr6.2 (by omega)
   obtain ⟨v, hv⟩ : ∃ v, vs[j]? = some v := ⟨_, List.getElem?_eq_getElem (by have := HVL.out; omega)⟩
   obtain ⟨mv, hmv6⟩ : ∃ mv, G.moves[j]? = some mv := ⟨_, List.getElem?_eq_getElem (by have := HVL.out; have := HMR.out.1; omega)⟩
   obtain ⟨A', m', c', rfl, hmc', hrm, hl'⟩ := hm6.2 j v mv hv hmv6
   have xv : w6.cell? ⟨vb, vo + j, none⟩ = some (.slice A' m' c') := by rw [hvk.cell]; exact hvc j _ hv
   have KI := Lib.hid (inverse_any N A' m' c' mv w6 hrm (Nat.le_trans hN5 hbr.size) hl' (by have := hmb mv (List.mem_of_getElem? hmv6); omega))
   have e7 : IntKind.i64.wrap ((j : Int) - 1) = (j : Int) - 1 := IntWalk.i64_in _ (by omega)
   have HBR := Lib.hid hbr
   clear hr6 hm6 hvk hvc hv hmv6 hrm hl' hi
   go_wp2_with fail
   refine (KI.out).mono ?_
   rintro e w7 ⟨⟨v7, rfl⟩, hb7⟩
   go_wp2_with fail
   refine (follow_none w7 gb m _ v7 ((HGB5.out.below HBR.out).below hb7) rfl rfl ((HMAP.out.below HBR.out).below hb7).1).mono ?_
   rintro e w8 ⟨rfl, hb8⟩
   have HB8 := Lib.hid (bseq HBR.out (bseq hb7 hb8))
   clear hb7 hb8
   go_wp2_with fail
   go_roundg j
   case measure => omega
   case rel => exact ⟨_, rfl, HB8.out, by omega, by omega, by omega⟩
  ·have q1 : (0 <= i) = False := eq_false hi
   have HB6 := Lib.hid hbr
   clear hi hbr
   go_wp2_with fail
   (try simp only [Exit.inBlock, Exit.then])
   exact bodyPost_ret (v := .tuple #[.int .i64 G.bgn, .int .i64 0]) (by simp [results, Tryz.results21, go_sem]) rfl (HFIN.out w6 HB6.out)
def newS (enc depth : Int) (l : List Int) (mk : Nat) : BkS := { ats := tagF 0 0 (dec enc l), undo := [], redo := [], now := none, state := 0, saved := 0, last := 0, depth := depth, mb := mk }
def deskC (gb gk : Nat) (native : Int) : Array Value := #[.pointer (some ⟨gb, 0, none⟩), .pointer (some ⟨gk, 0, none⟩), .int .i64 0, .slice none 0 0, .slice none 0 0, .slice none 0 0, .int .i64 0, .bool false, .bool false, .int .i64 native]
theorem newS_sized {enc depth : Int} {l : List Int} {mk : Nat} (he : enc = 1 \/ enc = 2 \/ enc = 3 \/ enc = 4) (hB : Byt l) : sizedA enc (newS enc depth l mk).ats = dec enc l := by
 have h1 := dec_sized enc he l.length l (Nat.le_refl _) hB
 unfold sizedA newS
 dsimp only
 rw [tagF_fst]
 exact h1.symm
theorem newS_sz {enc : Int} {l : List Int} : szS (dec enc l) = (l.length : Int) := sum_dec enc l.length l (Nat.le_refl _)
theorem NewDesk.is {B : Nat} {enc lim native depth : Int} {l : List Int} {w : World} {gd gb gt m gk mk : Nat} (h : NewDesk B enc lim native depth l w gd gb gt m gk mk) (hl : l.length <= 65536) (hlim : lim <= 65536) (hd : 1 <= depth /\ depth <= 200) :
  DeskIs w B gd gb gt enc lim 0 (newS enc depth l mk) (deskC gb gk (natF ((dec enc l).map Prod.fst) native)) := by
 have hsz : ((dec enc l).map Prod.snd).sum <= 65536 := by rw [sum_dec enc l.length l (Nat.le_refl _)]; omega
 obtain ⟨t, a, hT, hds, hats⟩ := h.text.textM hsz
 have hge := h.ge
 have hlt := h.book.1.lt
 have hT' : TextM w B gt enc lim 0 (.slice none 0 0) t a [] := ⟨hT.blk, World.ownsRow_nil _ _ _ _, hT.enc4, by omega, hT.tree⟩
 refine ⟨h.desk, rfl, hge.1, w.heap.size, .slice none 0 0, t, a, [], m, .slice none 0 0, .slice none 0 0, none, 0, Nat.le_refl _, ?_⟩
 refine ⟨h.book.1, hT', hats, by rw [hds]; exact hsz, hlim, ⟨h.book.2, hge.2.2.2.2.2.2, h.bank.2.lt⟩, ?_, ?_, fun b hb => (by cases hb), rfl, Nat.le_refl _, ⟨Int.le_refl 0, (show (0 : Int) <= 1073741824 by decide), hd.1, hd.2⟩, ⟨hge.2.1, hge.2.2.1, by omega, fun p hp => (by cases hp)⟩⟩
 ·exact ⟨[], World.ownsRow_nil _ _ _ _, rfl, fun i p G hi => by simp at hi, by simp [newS]⟩
 ·exact ⟨[], World.ownsRow_nil _ _ _ _, rfl, fun i p G hi => by simp at hi, by simp [newS]⟩
theorem TextTag.old {w : World} {g : Nat} {enc : Int} {ats : List (Int × Int)} (h : TextTag w Any g enc ats) : TextTag w (fun b => b < w.heap.size) g enc ats := by
 obtain ⟨lim, t, a, add, h, e⟩ := h
 exact ⟨lim, t, a, add, ⟨h.blk, h.enc4, h.node, h.len, h.tot, h.ok, fun p hp => Reads.more (h.bts p hp) (fun b _ hlt => hlt) (by decide)⟩, e⟩
theorem TextTag.below {w w' : World} {D : Nat -> Prop} {g : Nat} {enc : Int} {ats : List (Int × Int)} (h : TextTag w D g enc ats) (hb : Below w.heap.size w w') : TextTag w' D g enc ats := by
 obtain ⟨lim, t, a, add, h, e⟩ := h
 exact ⟨lim, t, a, add, h.below hb, e⟩
theorem ttagsT_any (g : Nat) (enc : Int) (ats : List (Int × Int)) (f tt : Int) (w : World) (h : TextTag w Any g enc ats) (f0 : -2147483648 <= f) (t0 : tt <= 2147483648) :
  Calls Tryz.prog 29 #[.pointer (some ⟨g, 0, none⟩), .int .i64 f, .int .i64 tt] w fun e w' => NewInts (seg f tt (ats.map Prod.snd)) w e w' := by
 have hW : Below w.heap.size w (w.alloc (.cells #[.slice none 0 0] 34)) := balloc (Below.refl _ w)
 have ht := h.old.below hW
 have hc := twalk_any 72 #[.pointer (some ⟨w.heap.size, 0, none⟩)] (fun (s : List Int) X w' => SeeJ w.heap.size w.heap.size s X w' /\ w.heap.size <= w'.heap.size) (fun s _ t => s ++ [t]) List.length (seeT_sees _ _ (Nat.le_refl _))
  (fun b => b < w.heap.size) g enc ats f tt [] (fun b => b = w.heap.size \/ (Value.slice none 0 0).ownBlock = some b) _ ht (fun b hb _ hx => by rcases hx with rfl | hx; exact absurd hb (Nat.lt_irrefl _); simp [Value.ownBlock] at hx)
  ⟨⟨_, Blk.new w _ _, ⟨rfl, .inl ⟨rfl, rfl⟩⟩, rfl⟩, by simp⟩ (by simp) f0 t0
 rw [foldl_snd, seg_map, List.nil_append] at hc
 obtain ⟨L, hL⟩ : ∃ L, seg f tt (ats.map Prod.snd) = L := ⟨_, rfl⟩
 rw [hL] at hc ⊢
 have HC := Lib.hid hc
 clear hc hL
 go_enter Tryz.func29, Tryz.ntmps29
 go_wp2_with fail
 refine (HC.out).mono ?_
 rintro e w1 ⟨rfl, ⟨X', ⟨⟨v, hb, ho, rfl⟩, hs⟩, hx⟩, hf⟩
 have c0 := hb.cell 0
 simp at c0
 have HO := Lib.hid ho
 have hfin : Below w.heap.size w w1 := bfr hW hf (fun b hb => by rcases hb with rfl | hb; exact Nat.le_refl _; simp [Value.ownBlock] at hb)
 clear ho hx
 go_wp2_with fail
 go_ret
 exact ⟨v, rfl, HO.out, hfin⟩
theorem seg_whole {α : Type} (l : List α) : seg 0 (l.length : Int) l = l := by unfold seg; simp
section
variable {B gd gb g n : Nat} {enc lim : Int} {st : BkS} {dc : Array Value} {w : World}
theorem btext_desk (h : DeskIs w B gd gb g enc lim n st dc) : Calls Tryz.prog 20 #[.pointer (some ⟨gb, 0, none⟩)] w fun e w' => e = .returned (.pointer (some ⟨g, 0, none⟩)) /\ w = w' := by
 obtain ⟨cs, hb, h0⟩ := h.blkB
 exact btext_any w gb g cs hb h0
theorem batoms_any (h : DeskIs w B gd gb g enc lim n st dc) {gB : Nat} {vR : Value} (hB : Blk w gB 30 #[.pointer (some ⟨gd, 0, none⟩), vR]) :
  Calls Tryz.prog 9 #[.pointer (some ⟨gB, 0, none⟩)] w fun e w' => NewInts (st.ats.map Prod.fst) w e w' := by
 have HT := Lib.hid (btext_desk h)
 have hlen := h.len
 have hl := len_any Any g enc (sizedA enc st.ats) w h.at_
 rw [sizedA_len] at hl
 have ha := fun (w' : World) (hb : Below w.heap.size w w') => tatoms_any Any g enc (sizedA enc st.ats) 0 (st.ats.length : Int) w' (h.below hb).at_ (by omega) (by omega)
 have e1 : seg 0 (st.ats.length : Int) ((sizedA enc st.ats).map Prod.fst) = st.ats.map Prod.fst := by
  rw [sizedA_fst]
  have := seg_whole (st.ats.map Prod.fst)
  rwa [List.length_map] at this
 rw [e1] at ha
 obtain ⟨N, hN⟩ : ∃ N, st.ats.length = N := ⟨_, rfl⟩
 rw [hN] at hl ha
 have HL := Lib.hid hl
 have HA := Lib.hid ha
 have cd := (h.desk.cell 0).trans h.c0
 obtain ⟨cb, -⟩ := cells2 hB
 clear hl ha h e1 hN hB
 go_enter Tryz.func9, Tryz.ntmps9
 go_wp2_with fail
 refine (HT.out).mono ?_
 rintro e w1 ⟨rfl, rfl⟩
 go_wp2_with fail
 refine (HL.out).mono ?_
 rintro e w1 ⟨rfl, hb1⟩
 go_wp2_with fail
 refine (HA.out _ hb1).mono ?_
 rintro e w2 ⟨v, rfl, ho, hb2⟩
 have HO := Lib.hid ho
 clear ho
 go_wp2_with fail
 go_ret
 exact ⟨v, rfl, ownsRow_le HO.out hb1.size, bseq hb1 hb2⟩
theorem btags_any (h : DeskIs w B gd gb g enc lim n st dc) {gB : Nat} {vR : Value} (hB : Blk w gB 30 #[.pointer (some ⟨gd, 0, none⟩), vR]) :
  Calls Tryz.prog 10 #[.pointer (some ⟨gB, 0, none⟩)] w fun e w' => NewInts (st.ats.map Prod.snd) w e w' := by
 have HT := Lib.hid (btext_desk h)
 have hlen := h.len
 have hl := len_any Any g enc (sizedA enc st.ats) w h.at_
 rw [sizedA_len] at hl
 have ha := fun (w' : World) (hb : Below w.heap.size w w') => ttagsT_any g enc st.ats 0 (st.ats.length : Int) w' (h.below hb).tags (by omega) (by omega)
 have e1 : seg 0 (st.ats.length : Int) (st.ats.map Prod.snd) = st.ats.map Prod.snd := by
  have := seg_whole (st.ats.map Prod.snd)
  rwa [List.length_map] at this
 rw [e1] at ha
 obtain ⟨N, hN⟩ : ∃ N, st.ats.length = N := ⟨_, rfl⟩
 rw [hN] at hl ha
 have HL := Lib.hid hl
 have HA := Lib.hid ha
 have cd := (h.desk.cell 0).trans h.c0
 obtain ⟨cb, -⟩ := cells2 hB
 clear hl ha h e1 hN hB
 go_enter Tryz.func10, Tryz.ntmps10
 go_wp2_with fail
 refine (HT.out).mono ?_
 rintro e w1 ⟨rfl, rfl⟩
 go_wp2_with fail
 refine (HL.out).mono ?_
 rintro e w1 ⟨rfl, hb1⟩
 go_wp2_with fail
 refine (HA.out _ hb1).mono ?_
 rintro e w2 ⟨v, rfl, ho, hb2⟩
 have HO := Lib.hid ho
 clear ho
 go_wp2_with fail
 go_ret
 exact ⟨v, rfl, ownsRow_le HO.out hb1.size, bseq hb1 hb2⟩
theorem undo_desk (h : DeskIs w B gd gb g enc lim n st dc) (hn : st.now = none) {us : List Gr} {G : Gr} (hu : st.undo = us ++ [G]) (hr : st.redo.length < 1048576) (hmb : ∀ mv, mv ∈ G.moves -> mv.length <= 1048576) :
  Calls Tryz.prog 21 #[.pointer (some ⟨gb, 0, none⟩)] w fun e w' => e = .returned (.tuple #[.int .i64 G.bgn, .int .i64 0]) /\ DeskIs w' B gd gb g enc lim n { st with ats := G.before, undo := us, redo := st.redo ++ [G], state := G.old } dc /\ BkFr B w w' := by
 obtain ⟨N, add, t, a, xs, m, vu, vr, now, n', hn', hk⟩ := h.book
 refine (undo_none N B gb g enc lim n' add st t a xs m vu vr now us G w hk hn hu hr hmb).mono ?_
 rintro e w' ⟨rfl, ⟨t', a', vu', vr', hk'⟩, hf⟩
 exact ⟨rfl, h.bk hf ⟨N, add, t', a', xs, m, vu', vr', none, n', hn', hk'⟩, hf⟩
end
def abS : Start := ⟨0, 0, 0, 9, [97, 98]⟩
theorem ab_E : abS.E = 1 := by kernel_rfl
theorem ab_l : abS.l = [97, 98] := by kernel_rfl
theorem ab_lim : abS.lim = 11 := by kernel_rfl
theorem ab_nat : abS.nat = 1 := by kernel_rfl
theorem ab_dep : abS.dep = 1 := by kernel_rfl
theorem ab_natF : natF ((dec 1 [97, 98]).map Prod.fst) 1 = 1 := by kernel_rfl
def abN (mk : Nat) : BkS := newS 1 1 [97, 98] mk
theorem ab_ats (mk : Nat) : (abN mk).ats = [(97, 0), (98, 1)] := by kernel_rfl
theorem ab_ref (mk : Nat) (A : Option Addr) (c : Nat) : refF 1 11 (sizedA 1 (abN mk).ats) [typeE 2 [120] A c] = 0 := by
 rw [ab_ats mk]
 rfl
theorem ab_typed (mk : Nat) (A : Option Addr) (k : Nat) : (typeS (abN mk) 2 [120] A k).ats.map Prod.fst = [97, 98, 120] /\ (typeS (abN mk) 2 [120] A k).ats.map Prod.snd = [0, 1, -1] := by
 unfold typeS
 dsimp only
 rw [edA_type, ab_ats mk]
 exact ⟨rfl, rfl⟩
theorem NewInts.slice {l : List Int} {w w' : World} {e : Ending} (h : NewInts l w e w') : ∃ A c, e = .returned (.slice A l.length c) /\ Ints w' Any A l.length l /\ l.length <= c /\ Below w.heap.size w w' := by
 obtain ⟨v, rfl, ho, hb⟩ := h
 obtain ⟨A, c, rfl, hc⟩ := own_slice ho
 exact ⟨A, c, rfl, Reads.more (Reads.of_own ho) (fun _ _ _ => trivial) (by decide), hc, hb⟩
theorem ints_new (w : World) (l : List Int) (H : Nat) (hH : w.heap.size = H) : Ints (w.alloc (.cells (l.map (Value.int .i64)).toArray 3)) Any (some ⟨H, 0, none⟩) l.length l := by
 subst hH
 refine ⟨by simp, fun _ => ⟨_, rfl, trivial, fun j u hu => ?_⟩⟩
 exact cells_new w 3 _ j u (by simpa using hu)
theorem both_typed (w : World) (gB : Nat) : Calls Tryz.prog 8 #[.pointer (some ⟨gB, 0, none⟩)] w fun e w' => e = .returned (.bool true) /\ Below w.heap.size w w' := by
 have hw1 : Below w.heap.size w (w.alloc (.cells #[.int .u8 97, .int .u8 98] 5 (2, 3))) := balloc (Below.refl _ _)
 have hI1 : Bts (w.alloc (.cells #[.int .u8 97, .int .u8 98] 5 (2, 3))) Any (some ⟨w.heap.size, 0, none⟩) 2 abS.data := by
  refine ⟨rfl, fun _ => ⟨_, rfl, trivial, fun j u hu => ?_⟩⟩
  rw [add_cell, cell_of_row _ _ _ _ _ (2, 3) (heap_alloc_new w _), Nat.zero_add]
  simpa [abS] using hu
 have hbg : Calls Tryz.prog 7 #[.agg #[.int .i64 0, .slice (some ⟨w.heap.size, 0, none⟩) 2 2, .int .i64 0, .int .i64 0, .int .i64 9]] (w.alloc (.cells #[.int .u8 97, .int .u8 98] 5 (2, 3))) fun e w' => BegunPost abS (w.alloc (.cells #[.int .u8 97, .int .u8 98] 5 (2, 3))) e w' := begun_any abS _ 2 2 _ hI1 (fun x hx => by simp [abS] at hx; omega) ⟨by decide, by decide⟩ ⟨by decide, by decide⟩ ⟨by decide, by decide⟩
 have hcv := Lib.run_convert_bytes_const (P := Tryz.prog) w 22 5 #[.int .u8 97, .int .u8 98] 2 2 Tryz.underlying22 Tryz.underlying5
 have hsz2 : (#[Value.int .u8 97, .int .u8 98] : Array Value).size = 2 := rfl
 rw [hsz2] at hcv
 clear hsz2
 have HBG := Lib.hid hbg
 clear hbg
 go_enter Tryz.func8, Tryz.ntmps8
 go_wp2_with fail
 refine (HBG.out).mono ?_
 rintro e w2 ⟨gd, gb, gt, m, gk, mk, gd', gb', gt', gk', ld, rfl, hBe, hb2⟩
 have hD := hBe.D
 rw [ab_E, ab_l, ab_lim, ab_nat, ab_dep] at hD
 have hd := hD.is (by decide) (by decide) (by decide)
 rw [ab_natF] at hd
 have HD := Lib.hid hd
 clear hd hD hBe HBG
 obtain ⟨w1, hw10⟩ : ∃ x, w.alloc (.cells #[.int .u8 97, .int .u8 98] 5 (2, 3)) = x := ⟨_, rfl⟩
 rw [hw10] at hw1 hI1 hb2 HD
 clear hw10 hI1 hcv
 obtain ⟨B, hB⟩ : ∃ B, w1.heap.size = B := ⟨_, rfl⟩
 rw [hB] at HD
 have hBw : w.heap.size <= B := by have h1 := hw1.size; rw [hB] at h1; exact h1
 clear hB
 go_upto_region 4 with fail
 have hw2 := bseq hw1 hb2
 have hBo : Blk (w2.alloc (.cells #[.pointer (some ⟨gd, 0, none⟩), .pointer (some ⟨gd', 0, none⟩)] 30)) w2.heap.size 30 #[.pointer (some ⟨gd, 0, none⟩), .pointer (some ⟨gd', 0, none⟩)] := Blk.new w2 _ _
 have hd3 := HD.out.below (balloc (o := .cells #[.pointer (some ⟨gd, 0, none⟩), .pointer (some ⟨gd', 0, none⟩)] 30) (Below.refl w2.heap.size w2))
 have hw3 : Below w.heap.size w (w2.alloc (.cells #[.pointer (some ⟨gd, 0, none⟩), .pointer (some ⟨gd', 0, none⟩)] 30)) := balloc hw2
 obtain ⟨bo, hbo⟩ : ∃ x, w2.heap.size = x := ⟨_, rfl⟩
 obtain ⟨w3, hw30⟩ : ∃ x, w2.alloc (.cells #[.pointer (some ⟨gd, 0, none⟩), .pointer (some ⟨gd', 0, none⟩)] 30) = x := ⟨_, rfl⟩
 rw [hbo] at hBo ⊢
 rw [hw30] at hBo hd3 hw3 ⊢
 clear hw30 hbo hb2 hw1 hw2 HD
 obtain ⟨c0, -⟩ := cells2 hBo
 have e2 := hd3.desk.cell 2
 have f2 := hd3.desk.frozen 2
 simp [deskC] at e2
 have hd4 := hd3.set (i := 2) (by decide) (.int .i64 2)
 have hBo4 := hBo.far (p := ⟨gd, 2, none⟩) (Blk.ne_ hBo hd3.desk (by decide)) (.int .i64 2)
 have hF4 : DFr B (· = gd) w3 (w3.setCell ⟨gd, 2, none⟩ (.int .i64 2)) := DFr.of_x ((Fr.refl _ _).set1 2 _)
 have hgB : B <= gd := hd3.low
 have hne : bo ≠ gd := Blk.ne_ hBo hd3.desk (by decide)
 go_upto_region 5 with fail
 obtain ⟨dc4, hdc4⟩ : ∃ x, (deskC gb gk 1).setIfInBounds 2 (.int .i64 2) = x := ⟨_, rfl⟩
 have z4 : dc4.size = 10 := by rw [<- hdc4]; rfl
 have y42 : dc4[2]? = some (.int .i64 2) := by rw [<- hdc4]; rfl
 have y49 : dc4[9]? = some (.int .i64 1) := by rw [<- hdc4]; rfl
 have hw4 : Below w.heap.size w (w3.setCell ⟨gd, 2, none⟩ (.int .i64 2)) := hw3.setCell (Nat.le_trans hBw hgB) _
 obtain ⟨w4, hw40⟩ : ∃ x, w3.setCell ⟨gd, 2, none⟩ (.int .i64 2) = x := ⟨_, rfl⟩
 rw [hw40] at hd4 hBo4 hw4 ⊢
 rw [hdc4] at hd4
 clear hw40 hdc4 hd3 hBo hw3 hF4 e2 f2 c0
 have hBo5 := hBo4.alloc (.cells #[.int .i64 120] 3)
 have hw5 : Below w.heap.size w (w4.alloc (.cells #[.int .i64 120] 3)) := balloc hw4
 have hI5 : Ints (w4.alloc (.cells #[.int .i64 120] 3)) (fun b => b < (w4.alloc (.cells #[.int .i64 120] 3)).heap.size /\ ∃ cs, Blk (w4.alloc (.cells #[.int .i64 120] 3)) b 3 cs) (some ⟨w4.heap.size, 0, none⟩) 1 [120] :=
  ⟨rfl, fun _ => ⟨_, rfl, ⟨by simp, _, Blk.new w4 _ _⟩, cell_one_new _ _ _⟩⟩
 have hT := type_any B gd gb gt 0 1 11 2 1 (newS 1 1 [97, 98] mk) dc4 (some ⟨w4.heap.size, 0, none⟩) 1 1 [120] _ (hd4.below (balloc (Below.refl _ _))) rfl z4 y42 y49 (.inl rfl) hI5 ⟨by decide, by decide⟩ (fun x hx => by simp at hx; omega) ⟨by decide, (show (2 : Int) <= ((abN mk).ats.length : Int) by rw [ab_ats mk]; decide)⟩ (ab_ref mk) (by decide) (by first | decide | (show ((0 : Nat) : Int) < 1; decide) | (show (0 : Int) < 1073741824; decide)) (by first | decide | (show ((0 : Nat) : Int) < 1; decide) | (show (0 : Int) < 1073741824; decide))
 have HT := Lib.hid hT
 obtain ⟨c0, -⟩ := cells2 hBo4
 clear hT hI5 hd4
 go_wp2_with fail
 refine (HT.out).mono ?_
 rintro e w6 ⟨rfl, A', k', hd6, hf6⟩
 have hBo6 := hf6.blk hBo5 (by decide) hne
 have hw6 : Below w.heap.size w w6 := bfr hw5 hf6 (fun i hs => by
  rcases hs with ⟨h1, _⟩ | h1
  ·omega
  ·omega)
 have hat6 := batoms_any hd6 hBo6
 rw [show (typeS (newS 1 1 [97, 98] mk) 2 [120] A' k').ats.map Prod.fst = [97, 98, 120] from (ab_typed mk A' k').1] at hat6
 have HAT6 := Lib.hid hat6
 have HD6 := Lib.hid hd6
 clear hat6 hd6 hf6 c0 HT hw4 hw5 hBo4 hBo5
 go_wp2_with fail
 refine (HAT6.out).mono ?_
 intro e w7 hNI
 obtain ⟨A7, c7, rfl, hI7, hc7, hb7⟩ := hNI.slice
 simp only [List.length_cons, List.length_nil, Nat.zero_add, Nat.reduceAdd] at hI7 hc7 ⊢
 have hw7 := bseq hw6 hb7
 have hS7 := same_eq (c := c7) (c' := 3) (Reads.below hI7 (balloc (o := .cells #[.int .i64 97, .int .i64 98, .int .i64 120] 3) (Below.refl w7.heap.size w7))) (ints_new w7 [97, 98, 120] _ rfl) (by decide)
 have HS7 := Lib.hid hS7
 clear hS7 hNI hI7 hc7
 go_wp2_with fail
 refine (HS7.out).mono ?_
 rintro e w8 ⟨rfl, hb8⟩
 have hb68 := bseq hb7 (bseq (balloc (o := .cells #[.int .i64 97, .int .i64 98, .int .i64 120] 3) (Below.refl w7.heap.size w7)) hb8)
 have hw8 := bseq hw6 hb68
 have hBo8 := hBo6.below hb68
 have hd8 := HD6.out.below hb68
 obtain ⟨c0, -⟩ := cells2 hBo8
 have e2 := hd8.desk.cell 2
 rw [Array.getElem?_setIfInBounds_self_of_lt (by omega)] at e2
 simp only [List.length_cons, List.length_nil] at e2
 have htg := btags_any hd8 hBo8
 rw [show (typeS (newS 1 1 [97, 98] mk) 2 [120] A' k').ats.map Prod.snd = [0, 1, -1] from (ab_typed mk A' k').2] at htg
 have HTG := Lib.hid htg
 clear htg hd8 hb8 hb7 hw7 HS7 HAT6
 go_wp2_with fail
 refine (HTG.out).mono ?_
 intro e w9 hNI
 obtain ⟨A9, c9, rfl, hI9, hc9, hb9⟩ := hNI.slice
 simp only [List.length_cons, List.length_nil, Nat.zero_add, Nat.reduceAdd] at hI9 hc9 ⊢
 have hS9 := same_eq (c := c9) (c' := 3) (Reads.below hI9 (balloc (o := .cells #[.int .i64 0, .int .i64 1, .int .i64 (-1)] 3) (Below.refl w9.heap.size w9))) (ints_new w9 [0, 1, -1] _ rfl) (by decide)
 have HS9 := Lib.hid hS9
 clear hS9 hNI hI9 hc9 c0 e2
 go_wp2_with fail
 refine (HS9.out).mono ?_
 rintro e w10 ⟨rfl, hb10⟩
 have hb610 := bseq hb68 (bseq hb9 (bseq (balloc (o := .cells #[.int .i64 0, .int .i64 1, .int .i64 (-1)] 3) (Below.refl w9.heap.size w9)) hb10))
 have hw10 := bseq hw6 hb610
 have hBo10 := hBo6.below hb610
 have hd10 := HD6.out.below hb610
 obtain ⟨c0, -⟩ := cells2 hBo10
 have e0 := (hd10.desk.cell 0).trans hd10.c0
 have hun := undo_desk hd10 rfl (us := []) (G := ⟨(abN mk).ats, edA [typeE 2 [120] A' k'] (abN mk).ats, 2, 2 + ([120] : List Int).length, [[mvOf (typeE 2 [120] A' k')]], 0, 1⟩) rfl (show (0 : Nat) < 1048576 by decide) (fun mv hm => by simp at hm; subst hm; simp)
 have HUN := Lib.hid hun
 clear hun hd10 hb10 hb9 hw8 HS9 HTG hb68 hBo8
 go_wp2_with fail
 refine (HUN.out).mono ?_
 rintro e w11 ⟨rfl, hd11, hf11⟩
 have hBo11 := hf11.blk hBo10 (by decide)
 have hw11 : Below w.heap.size w w11 := bfr hw10 hf11 (fun i hs => by have := hs.1; omega)
 have hat11 := batoms_any hd11 hBo11
 rw [show List.map Prod.fst ((abN mk).ats) = [97, 98] by rw [ab_ats mk]; rfl] at hat11
 have HAT11 := Lib.hid hat11
 clear hat11 hd11 hf11 hBo10 HUN c0 e0
 go_wp2_with fail
 refine (HAT11.out).mono ?_
 intro e w12 hNI
 obtain ⟨A12, c12, rfl, hI12, hc12, hb12⟩ := hNI.slice
 simp only [List.length_cons, List.length_nil, Nat.zero_add, Nat.reduceAdd] at hI12 hc12 ⊢
 have hS12 := same_eq (c := c12) (c' := 2) (Reads.below hI12 (balloc (o := .cells #[.int .i64 97, .int .i64 98] 3) (Below.refl w12.heap.size w12))) (ints_new w12 [97, 98] _ rfl) (by decide)
 have HS12 := Lib.hid hS12
 clear hS12 hNI hI12 hc12
 go_wp2_with fail
 refine (HS12.out).mono ?_
 rintro e w13 ⟨rfl, hb13⟩
 have hw13 := bseq hw11 (bseq hb12 (bseq (balloc (o := .cells #[.int .i64 97, .int .i64 98] 3) (Below.refl w12.heap.size w12)) hb13))
 go_wp2_with fail
 go_ret
 exact ⟨rfl, hw13⟩
theorem IntsI.dfr {B gd : Nat} {w w' : World} {A : Option Addr} {n : Nat} {l : List Int} {dc : Array Value} (h : IntsI w A n l) (hf : DFr B (· = gd) w w') (hd : Blk w gd 49 dc) : IntsI w' A n l := h.fr hf (fun b _ hs ⟨cs, hc⟩ => by
 rcases hs with ⟨_, T, cs', hT, hB⟩ | hs
 ·have : T = 3 := by
   unfold Blk at hT hc
   rw [hT] at hc
   injection hc with hc
   injection hc with _ hc
  subst this
  exact absurd hB (by decide)
 ·exact Blk.ne_ hc hd (by decide) hs)
theorem start_bd (s : Start) : (s.E = 1 \/ s.E = 2 \/ s.E = 3 \/ s.E = 4) /\ s.l.length <= 4096 /\ (s.l.length : Int) <= s.lim /\ s.lim <= 65536 /\ 1 <= s.dep /\ s.dep <= 200 := by
 have h1 := withinF_bd s.room 4096 (by omega)
 have h3 := withinF_bd s.depth 199 (by omega)
 have h4 : s.l.length <= 4096 := by unfold Start.l; rw [List.length_take]; omega
 unfold Start.E Start.lim Start.dep
 omega
end Go.Proofs.YtkoakanpaehkmaaGreatDoor
