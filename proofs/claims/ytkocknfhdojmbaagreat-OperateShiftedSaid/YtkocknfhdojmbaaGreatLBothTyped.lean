/-
  copyistlaw12.(*Both).typed: does the desk do anything?
-/
import Derived.Test.YtkocknfhdojmbaaGreatLDeskOps2
import Derived.Test.YtkocknfhdojmbaaGreatLUndo
import Derived.Lib.SlBytesConst
set_option linter.unusedSimpArgs false
set_option linter.unusedVariables false
set_option maxRecDepth 100000
set_option maxHeartbeats 32000000
namespace Go.Proofs.YtkocknfhdojmbaaGreat
open Go.RowKit
def TypeAct (st : BkS) (n : Nat) (at_ : Int) (xs : List Int) (c x : Int) (ats' : List (Int × Int)) (o' : OpS) (n' : Nat) : Prop :=
 ∃ (A : Option Addr) (k : Nat), x = at_ + xs.length /\ ats' = edA [typeE at_ xs A k] st.ats /\ o' = ⟨st.ats, c, [[mvOf (typeE at_ xs A k)]], st.state, true⟩ /\ n' = n + 131072
def typeS (st : BkS) (at_ : Int) (xs : List Int) (A : Option Addr) (k : Nat) : BkS :=
 { st with ats := edA [typeE at_ xs A k] st.ats, now := none, undo := st.undo ++ [⟨st.ats, edA [typeE at_ xs A k] st.ats, at_, at_ + xs.length, [[mvOf (typeE at_ xs A k)]], st.state, st.last + 1⟩], redo := [], state := st.last + 1, last := st.last + 1 }
def TypePost (B gd gb g : Nat) (enc lim : Int) (n : Nat) (st : BkS) (dc : Array Value) (at_ : Int) (xs : List Int) (w : World) (e : Ending) (w' : World) : Prop :=
 e = .returned (.int .i64 0) /\ ∃ (A : Option Addr) (k : Nat), DeskIs w' B gd gb g enc lim (n + 131072) (typeS st at_ xs A k) (dc.setIfInBounds 2 (.int .i64 (at_ + xs.length))) /\ DFr B (· = gd) w w'
theorem edA_type {at_ : Int} {xs : List Int} {A : Option Addr} {k : Nat} {ats : List (Int × Int)} : edA [typeE at_ xs A k] ats = ats.take at_.toNat ++ xs.map (fun x => (x, -1)) ++ ats.drop at_.toNat := rfl
theorem type_work (B gd gb g n b0 b1 b2 : Nat) (enc lim at_ b : Int) (st : BkS) (dc : Array Value) (A : Option Addr) (m c : Nat) (xs : List Int) (w : World) (h : DeskIs w B gd gb g enc lim n st dc) (hn : st.now = none) (hdz : dc.size = 10)
  (h9 : dc[9]? = some (.int .i64 b)) (hb : b = 1 \/ b = 2 \/ b = 3)
  (k0 : Blk w b0 25 #[.pointer (some ⟨gd, 0, none⟩)]) (k1 : Blk w b1 3 #[.int .i64 at_]) (k2 : Blk w b2 35 #[.slice A m c])
  (hx : Ints w (fun b => b < w.heap.size /\ ∃ cs, Blk w b 3 cs) A m xs) (hm : 0 < m /\ m <= 1048576) (hno : ∀ x ∈ xs, x ≠ 10) (hat : 0 <= at_ /\ at_ <= (st.ats.length : Int)) (hz : ∀ A' c', refF enc lim (sizedA enc st.ats) [typeE at_ xs A' c'] = 0) (hnn : n + 131072 <= 1073741824)
  (hud : (st.undo.length : Int) < st.depth) (hla : st.last < 1073741824) :
  Calls Tryz.prog 36 #[.pointer (some ⟨gd, 0, none⟩), .int .i64 at_, .func (.func 81) #[] #[.pointer (some ⟨b0, 0, none⟩), .pointer (some ⟨b1, 0, none⟩), .pointer (some ⟨b2, 0, none⟩)]] w (TypePost B gd gb g enc lim n st dc at_ xs w) := by
 have hxl := hx.len
 refine (work_ok B gd gb g n enc lim at_ st dc _ _ (fun _ => False) (TypeAct st n at_ xs at_) w h hn hat hdz Tryz.call81 (fun _ hx => hx.elim) (fun w1 hd1 hf1 => ?_) (fun at' ats' o' n' ha => ?_) (by omega)).mono ?_
 ·refine (type1_any B gd gb g n b0 b1 b2 enc lim at_ b { st with now := some ⟨st.ats, at_, [], st.state, false⟩ } ⟨st.ats, at_, [], st.state, false⟩ dc A m c xs w1 hd1 rfl (by simp) h9 hb (hf1.blk k0 (by decide) (fun hx => hx)) (hf1.blk k1 (by decide) (fun hx => hx)) (hf1.blk k2 (by decide) (fun hx => hx))
   (Reads.more (Reads.fr hx hf1 (fun b hb _ hs => ?_)) (fun _ _ _ => trivial) (by decide)) hm hno hat hz hnn).mono ?_
  ·rcases hs with ⟨_, T, cs, hT, hB⟩ | hs
   ·obtain ⟨_, cs', hc'⟩ := hb
    have : T = 3 := by
     unfold Blk at hT hc'
     rw [hT] at hc'
     injection hc' with hc'
     injection hc' with _ hc'
    subst this
    exact absurd hB (by decide)
   ·exact hs
  ·rintro e w2 ⟨A', c', rfl, hd2, hf2⟩
   exact ⟨_, _, _, _, ⟨A', c', rfl, rfl, rfl, rfl⟩, rfl, hd2, DFr.of_bk hf2⟩
 ·obtain ⟨A', k, rfl, rfl, rfl, rfl⟩ := ha
  refine ⟨⟨by omega, ?_⟩, fun _ => ⟨hud, hla⟩⟩
  rw [edA_type]
  simp
  omega
 ·rintro e w2 ⟨rfl, at', ats', o', n', ⟨A', k, rfl, rfl, rfl, rfl⟩, hd, hf⟩
  exact ⟨rfl, A', k, hd, hf.wide (Nat.le_refl _) (fun b _ hb => hb.resolve_left (fun h => h))⟩
theorem keep2_set {w : World} {p q a : Addr} {u v : Value} (x : Value) (hp : p.block ≠ a.block) (hq : q.block ≠ a.block) (h : w.cell? p = some u /\ w.cell? q = some v) : (w.setCell a x).cell? p = some u /\ (w.setCell a x).cell? q = some v :=
 ⟨(World.cell?_of_block (w := w) (Below.heap_setCell w a x p.block hp)).trans h.1, (World.cell?_of_block (w := w) (Below.heap_setCell w a x q.block hq)).trans h.2⟩
theorem type_any (B gd gb g n : Nat) (enc lim at_ b : Int) (st : BkS) (dc : Array Value) (A : Option Addr) (m c : Nat) (xs : List Int) (w : World) (h : DeskIs w B gd gb g enc lim n st dc) (hn : st.now = none) (hdz : dc.size = 10)
  (h2 : dc[2]? = some (.int .i64 at_)) (h9 : dc[9]? = some (.int .i64 b)) (hb : b = 1 \/ b = 2 \/ b = 3)
  (hx : Ints w (fun b => b < w.heap.size /\ ∃ cs, Blk w b 3 cs) A m xs) (hm : 0 < m /\ m <= 1048576) (hno : ∀ x ∈ xs, x ≠ 10) (hat : 0 <= at_ /\ at_ <= (st.ats.length : Int)) (hz : ∀ A' c', refF enc lim (sizedA enc st.ats) [typeE at_ xs A' c'] = 0) (hnn : n + 131072 <= 1073741824)
  (hud : (st.undo.length : Int) < st.depth) (hla : st.last < 1073741824) :
  Calls Tryz.prog 28 #[.pointer (some ⟨gd, 0, none⟩), .slice A m c] w (TypePost B gd gb g enc lim n st dc at_ xs w) := by
 have hmf : ∀ (fn : Fn) (first cap : Array Value) (w : World), (Instr.makeFunc fn first cap).run Tryz.prog w = .ok (.func fn first cap) w := fun _ _ _ _ => rfl
 have hlen := h.len
 have hw2 : Below w.heap.size w ((w.alloc (.cells #[.pointer (some ⟨gd, 0, none⟩)] 25)).alloc (.cells #[.slice A m c] 35)) := balloc (balloc (Below.refl _ _))
 have b0 : Blk ((w.alloc (.cells #[.pointer (some ⟨gd, 0, none⟩)] 25)).alloc (.cells #[.slice A m c] 35)) w.heap.size 25 #[.pointer (some ⟨gd, 0, none⟩)] := (Blk.new w _ _).alloc _
 have b2 : Blk ((w.alloc (.cells #[.pointer (some ⟨gd, 0, none⟩)] 25)).alloc (.cells #[.slice A m c] 35)) (w.heap.size + 1) 35 #[.slice A m c] := Blk.new' (by simp)
 have HH := Lib.hid h
 have HT := Lib.hid (fun (w' : World) (hb : Below w.heap.size w w') => text_desk (h.below hb))
 have hle := fun (w' : World) (hb : Below w.heap.size w w') => len_any Any g enc (sizedA enc st.ats) w' (h.below hb).at_
 rw [sizedA_len] at hle
 have HLE := Lib.hid hle
 obtain ⟨N, hN⟩ : ∃ N, st.ats.length = N := ⟨_, rfl⟩
 rw [hN] at HLE hat hlen
 have HNN := Lib.hid hN
 have HX := Lib.hid hx
 clear h hle hN hx
 go_enter Tryz.func28, Tryz.ntmps28
 go_upto_region 1 with fail
 obtain ⟨w2, hw20⟩ : ∃ x', ((w.alloc (.cells #[.pointer (some ⟨gd, 0, none⟩)] 25)).alloc (.cells #[.slice A m c] 35)) = x' := ⟨_, rfl⟩
 rw [hw20] at hw2 b0 b2 ⊢
 clear hw20
 have s0 : w2.cell? ⟨w.heap.size, 0, none⟩ = some (.pointer (some ⟨gd, 0, none⟩)) /\ w2.cell? ⟨gd, 2, none⟩ = some (.int .i64 at_) := ⟨b0.cell 0, ((HH.out.below hw2).desk.cell 2).trans h2⟩
 go_cut [5] (fun s wx => ∃ b5, s = .pointer (some ⟨b5, 0, none⟩) /\ Hid (Blk wx b5 3 #[.int .i64 at_]) /\ Below w2.heap.size w2 wx)
 case first =>
  have p1 : (at_ < 0) = False := by simp; omega
  have p2 : ((N : Int) < at_) = False := by simp; omega
  have p3 : max at_ 0 = at_ := by omega
  have p4 : min at_ (N : Int) = at_ := by omega
  have s1 := keep2 (Below.drew (Below.refl _ _)) s0
  have n1 : w.heap.size ≠ w2.heap.size := by have := b0.lt; omega
  have n2 : gd ≠ w2.heap.size := by have := HH.out.desk.lt; have := hw2.size; omega
  have n3 : ∀ w5 : World, w2.heap.size <= w5.heap.size -> w.heap.size ≠ w5.heap.size /\ gd ≠ w5.heap.size := fun w5 h5 => by have := b0.lt; have := HH.out.desk.lt; have := hw2.size; omega
  go_region_held3 (fun w' => w'.cell? ⟨w.heap.size, 0, none⟩ = some (.pointer (some ⟨gd, 0, none⟩)) /\ w'.cell? ⟨gd, 2, none⟩ = some (.int .i64 at_)) (first | (with_reducible assumption) | (with_reducible exact keep2 (Below.drew (balloc (Below.refl _ _))) s0) | (with_reducible exact keep2 (balloc (Below.refl _ _)) s1) | (with_reducible exact keep2 (balloc (Below.refl _ _)) s3) | (with_reducible exact keep2_set _ n1 n2 s3) | (with_reducible exact keep2_set _ (n3 _ z5).1 (n3 _ z5).2 (keep2 (balloc (Below.refl _ _)) s3))) (first | (go_at_call 42; (with_reducible refine (HT.out _ (bseq hw2 (Below.drew (Below.refl _ _)))).mono ?_); rintro e w5 ⟨rfl, rfl⟩) | (go_at_call 42; (with_reducible refine (HT.out _ (bseq hw2 (Below.drew (balloc (Below.refl _ _))))).mono ?_); rintro e w5 ⟨rfl, rfl⟩) | (go_at_call 20; (with_reducible refine (HLE.out _ (bseq hw2 (Below.drew (Below.refl _ _)))).mono ?_); rintro e w5 ⟨rfl, hb5⟩; have s3 := keep2 hb5 s1; have z5 : w2.heap.size <= w5.heap.size := hb5.size) | (go_at_call 20; (with_reducible refine (HLE.out _ (bseq hw2 (Below.drew (balloc (Below.refl _ _))))).mono ?_); rintro e w5 ⟨rfl, hb5⟩; have s3 := keep2 (bseq (Below.drew (balloc (Below.refl _ _))) hb5) s0; have hbz := ((Blk.new w2 3 #[.int .i64 0]).drew).below hb5; have z0 : w5.cell? ⟨w2.heap.size, 0, none⟩ = some (.int .i64 0) := hbz.cell 0; have zf := hbz.frozen 0))
  all_goals
   go_wp2_with fail
   go_meet
   first
    | exact ⟨_, rfl, Lib.hid (Blk.new _ _ _), balloc (bdrew hb5)⟩
    | exact ⟨_, rfl, Lib.hid ((hbz.set_ 0 _).eq_ (by simp)), (bseq (Below.drew (balloc (Below.refl _ _))) hb5).setCell (Nat.le_refl _) _⟩
 case rest =>
  obtain ⟨b5, rfl, hB5, hbc⟩ := hcut
  have hwc := bseq hw2 hbc
  have k0 := b0.below hbc
  have k2 := b2.below hbc
  have y0 := k0.cell 0
  have y5 := hB5.out.cell 0
  simp at y0 y5
  have hxc : Ints wc (fun b => b < wc.heap.size /\ ∃ cs, Blk wc b 3 cs) A m xs := Reads.more (Reads.below HX.out hwc) (fun b hb hlt => by
   obtain ⟨_, cs, hb⟩ := hb
   exact ⟨hlt, cs, hb.below hwc⟩) (by decide)
  rw [<- HNN.out] at hat
  have HWK := Lib.hid (type_work B gd gb g n w.heap.size b5 (w.heap.size + 1) enc lim at_ b st dc A m c xs wc (HH.out.below hwc) hn hdz h9 hb k0 hB5.out k2 hxc hm hno hat hz hnn hud hla)
  clear hxc k0 k2 HX hz h2 h9 hdz hn s0 b0 b2
  go_wp2_with fail
  refine (HWK.out).mono ?_
  rintro e w9 ⟨rfl, A', k, hd, hf⟩
  have HD := Lib.hid hd
  clear hd
  go_wp2_with fail
  go_ret
  exact ⟨rfl, A', k, HD.out, (DFr.of_below hwc).trans hf⟩
def newS (enc depth : Int) (l : List Int) : BkS := { ats := tagF 0 0 (dec enc l), undo := [], redo := [], now := none, state := 0, saved := 0, last := 0, depth := depth }
def deskC (gb gk : Nat) (native : Int) : Array Value := #[.pointer (some ⟨gb, 0, none⟩), .pointer (some ⟨gk, 0, none⟩), .int .i64 0, .slice none 0 0, .slice none 0 0, .slice none 0 0, .int .i64 0, .bool false, .bool false, .int .i64 native]
theorem newS_sized {enc depth : Int} {l : List Int} (he : enc = 1 \/ enc = 2 \/ enc = 3 \/ enc = 4) (hB : Byt l) : sizedA enc (newS enc depth l).ats = dec enc l := by
 have h1 := dec_sized enc he l.length l (Nat.le_refl _) hB
 unfold sizedA newS
 dsimp only
 rw [tagF_fst]
 exact h1.symm
theorem newS_sz {enc : Int} {l : List Int} : szS (dec enc l) = (l.length : Int) := sum_dec enc l.length l (Nat.le_refl _)
theorem NewDesk.is {B : Nat} {enc lim native depth : Int} {l : List Int} {w : World} {gd gb gt m gk mk : Nat} (h : NewDesk B enc lim native depth l w gd gb gt m gk mk) (hl : l.length <= 65536) (hlim : lim <= 65536) (hd : 1 <= depth /\ depth <= 200) :
  DeskIs w B gd gb gt enc lim 0 (newS enc depth l) (deskC gb gk (natF ((dec enc l).map Prod.fst) native)) := by
 have hsz : ((dec enc l).map Prod.snd).sum <= 65536 := by rw [sum_dec enc l.length l (Nat.le_refl _)]; omega
 obtain ⟨t, a, hT, hds, hats⟩ := h.text.textM hsz
 have hge := h.ge
 have hlt := h.book.1.lt
 have hT' : TextM w B gt enc lim 0 (.slice none 0 0) t a [] := ⟨hT.blk, World.ownsRow_nil _ _ _ _, hT.enc4, by omega, hT.tree⟩
 refine ⟨h.desk, rfl, hge.1, w.heap.size, .slice none 0 0, t, a, [], m, .slice none 0 0, .slice none 0 0, none, 0, Nat.le_refl _, ?_⟩
 refine ⟨h.book.1, hT', hats, by rw [hds]; exact hsz, hlim, h.book.2, ?_, ?_, fun b hb => (by cases hb), rfl, Nat.le_refl _, ⟨Int.le_refl 0, (show (0 : Int) <= 1073741824 by decide), hd.1, hd.2⟩, ⟨hge.2.1, hge.2.2.1, by omega, fun p hp => (by cases hp)⟩⟩
 ·exact ⟨[], World.ownsRow_nil _ _ _ _, rfl, fun i p G hi => by simp at hi, by simp [newS]⟩
 ·exact ⟨[], World.ownsRow_nil _ _ _ _, rfl, fun i p G hi => by simp at hi, by simp [newS]⟩
theorem TextTag.old {w : World} {g : Nat} {enc : Int} {ats : List (Int × Int)} (h : TextTag w Any g enc ats) : TextTag w (fun b => b < w.heap.size) g enc ats := by
 obtain ⟨lim, t, a, add, h, e⟩ := h
 exact ⟨lim, t, a, add, ⟨h.blk, h.enc4, h.node, h.len, h.tot, h.ok, fun p hp => Reads.more (h.bts p hp) (fun b _ hlt => hlt) (by decide)⟩, e⟩
theorem TextTag.below {w w' : World} {D : Nat -> Prop} {g : Nat} {enc : Int} {ats : List (Int × Int)} (h : TextTag w D g enc ats) (hb : Below w.heap.size w w') : TextTag w' D g enc ats := by
 obtain ⟨lim, t, a, add, h, e⟩ := h
 exact ⟨lim, t, a, add, h.below hb, e⟩
theorem ttagsT_any (g : Nat) (enc : Int) (ats : List (Int × Int)) (f tt : Int) (w : World) (h : TextTag w Any g enc ats) (f0 : -2147483648 <= f) (t0 : tt <= 2147483648) :
  Calls Tryz.prog 80 #[.pointer (some ⟨g, 0, none⟩), .int .i64 f, .int .i64 tt] w fun e w' => NewInts (seg f tt (ats.map Prod.snd)) w e w' := by
 have hW : Below w.heap.size w (w.alloc (.cells #[.slice none 0 0] 35)) := balloc (Below.refl _ w)
 have ht := h.old.below hW
 have hc := twalk_any 125 #[.pointer (some ⟨w.heap.size, 0, none⟩)] (fun (s : List Int) X w' => SeeJ w.heap.size w.heap.size s X w' /\ w.heap.size <= w'.heap.size) (fun s _ t => s ++ [t]) List.length (seeT_sees _ _ (Nat.le_refl _))
  (fun b => b < w.heap.size) g enc ats f tt [] (fun b => b = w.heap.size \/ (Value.slice none 0 0).ownBlock = some b) _ ht (fun b hb _ hx => by rcases hx with rfl | hx; exact absurd hb (Nat.lt_irrefl _); simp [Value.ownBlock] at hx)
  ⟨⟨_, Blk.new w _ _, ⟨rfl, .inl ⟨rfl, rfl⟩⟩, rfl⟩, by simp⟩ (by simp) f0 t0
 rw [foldl_snd, seg_map, List.nil_append] at hc
 obtain ⟨L, hL⟩ : ∃ L, seg f tt (ats.map Prod.snd) = L := ⟨_, rfl⟩
 rw [hL] at hc ⊢
 have HC := Lib.hid hc
 clear hc hL
 go_enter Tryz.func80, Tryz.ntmps80
 go_wp2_with fail
 refine (HC.out).mono ?_
 rintro e w1 ⟨rfl, ⟨X', ⟨⟨v, hb, ho, rfl⟩, hs⟩, hx⟩, hf⟩
 have c0 := hb.cell 0
 simp at c0
 have HO := Lib.hid ho
 have hfin : Below w.heap.size w w1 := bfr hW hf (fun b hb => by rcases hb with rfl | hb; exact Nat.le_refl _; simp [Value.ownBlock] at hb)
 clear ho hx
 go_wp2_with fail
 go_ret
 exact ⟨v, rfl, HO.out, hfin⟩
theorem seg_whole {α : Type} (l : List α) : seg 0 (l.length : Int) l = l := by unfold seg; simp
section
variable {B gd gb g n : Nat} {enc lim : Int} {st : BkS} {dc : Array Value} {w : World}
theorem btext_desk (h : DeskIs w B gd gb g enc lim n st dc) : Calls Tryz.prog 8 #[.pointer (some ⟨gb, 0, none⟩)] w fun e w' => e = .returned (.pointer (some ⟨g, 0, none⟩)) /\ w = w' := by
 obtain ⟨cs, hb, h0⟩ := h.blkB
 exact btext_any w gb g cs hb h0
theorem batoms_any (h : DeskIs w B gd gb g enc lim n st dc) {gB : Nat} {vR : Value} (hB : Blk w gB 28 #[.pointer (some ⟨gd, 0, none⟩), vR]) :
  Calls Tryz.prog 9 #[.pointer (some ⟨gB, 0, none⟩)] w fun e w' => NewInts (st.ats.map Prod.fst) w e w' := by
 have HT := Lib.hid (btext_desk h)
 have hlen := h.len
 have hl := len_any Any g enc (sizedA enc st.ats) w h.at_
 rw [sizedA_len] at hl
 have ha := fun (w' : World) (hb : Below w.heap.size w w') => tatoms_any Any g enc (sizedA enc st.ats) 0 (st.ats.length : Int) w' (h.below hb).at_ (by omega) (by omega)
 have e1 : seg 0 (st.ats.length : Int) ((sizedA enc st.ats).map Prod.fst) = st.ats.map Prod.fst := by
  rw [sizedA_fst]
  have := seg_whole (st.ats.map Prod.fst)
  rwa [List.length_map] at this
 rw [e1] at ha
 obtain ⟨N, hN⟩ : ∃ N, st.ats.length = N := ⟨_, rfl⟩
 rw [hN] at hl ha
 have HL := Lib.hid hl
 have HA := Lib.hid ha
 have cd := (h.desk.cell 0).trans h.c0
 obtain ⟨cb, -⟩ := cells2 hB
 clear hl ha h e1 hN hB
 go_enter Tryz.func9, Tryz.ntmps9
 go_wp2_with fail
 refine (HT.out).mono ?_
 rintro e w1 ⟨rfl, rfl⟩
 go_wp2_with fail
 refine (HL.out).mono ?_
 rintro e w1 ⟨rfl, hb1⟩
 go_wp2_with fail
 refine (HA.out _ hb1).mono ?_
 rintro e w2 ⟨v, rfl, ho, hb2⟩
 have HO := Lib.hid ho
 clear ho
 go_wp2_with fail
 go_ret
 exact ⟨v, rfl, ownsRow_le HO.out hb1.size, bseq hb1 hb2⟩
theorem btags_any (h : DeskIs w B gd gb g enc lim n st dc) {gB : Nat} {vR : Value} (hB : Blk w gB 28 #[.pointer (some ⟨gd, 0, none⟩), vR]) :
  Calls Tryz.prog 29 #[.pointer (some ⟨gB, 0, none⟩)] w fun e w' => NewInts (st.ats.map Prod.snd) w e w' := by
 have HT := Lib.hid (btext_desk h)
 have hlen := h.len
 have hl := len_any Any g enc (sizedA enc st.ats) w h.at_
 rw [sizedA_len] at hl
 have ha := fun (w' : World) (hb : Below w.heap.size w w') => ttagsT_any g enc st.ats 0 (st.ats.length : Int) w' (h.below hb).tags (by omega) (by omega)
 have e1 : seg 0 (st.ats.length : Int) (st.ats.map Prod.snd) = st.ats.map Prod.snd := by
  have := seg_whole (st.ats.map Prod.snd)
  rwa [List.length_map] at this
 rw [e1] at ha
 obtain ⟨N, hN⟩ : ∃ N, st.ats.length = N := ⟨_, rfl⟩
 rw [hN] at hl ha
 have HL := Lib.hid hl
 have HA := Lib.hid ha
 have cd := (h.desk.cell 0).trans h.c0
 obtain ⟨cb, -⟩ := cells2 hB
 clear hl ha h e1 hN hB
 go_enter Tryz.func29, Tryz.ntmps29
 go_wp2_with fail
 refine (HT.out).mono ?_
 rintro e w1 ⟨rfl, rfl⟩
 go_wp2_with fail
 refine (HL.out).mono ?_
 rintro e w1 ⟨rfl, hb1⟩
 go_wp2_with fail
 refine (HA.out _ hb1).mono ?_
 rintro e w2 ⟨v, rfl, ho, hb2⟩
 have HO := Lib.hid ho
 clear ho
 go_wp2_with fail
 go_ret
 exact ⟨v, rfl, ownsRow_le HO.out hb1.size, bseq hb1 hb2⟩
theorem undo_desk (h : DeskIs w B gd gb g enc lim n st dc) (hn : st.now = none) {us : List Gr} {G : Gr} (hu : st.undo = us ++ [G]) (hr : st.redo.length < 1048576) (hmb : ∀ mv, mv ∈ G.moves -> mv.length <= 1048576) :
  Calls Tryz.prog 30 #[.pointer (some ⟨gb, 0, none⟩)] w fun e w' => e = .returned (.tuple #[.int .i64 G.bgn, .int .i64 0]) /\ DeskIs w' B gd gb g enc lim n { st with ats := G.before, undo := us, redo := st.redo ++ [G], state := G.old } dc /\ BkFr B w w' := by
 obtain ⟨N, add, t, a, xs, m, vu, vr, now, n', hn', hk⟩ := h.book
 refine (undo_none N B gb g enc lim n' add st t a xs m vu vr now us G w hk hn hu hr hmb).mono ?_
 rintro e w' ⟨rfl, ⟨t', a', vu', vr', hk'⟩, hf⟩
 exact ⟨rfl, h.bk hf ⟨N, add, t', a', xs, m, vu', vr', none, n', hn', hk'⟩, hf⟩
end
def abS : Start := ⟨0, 0, 0, 9, [97, 98]⟩
theorem ab_E : abS.E = 1 := by kernel_rfl
theorem ab_l : abS.l = [97, 98] := by kernel_rfl
theorem ab_lim : abS.lim = 11 := by kernel_rfl
theorem ab_nat : abS.nat = 1 := by kernel_rfl
theorem ab_dep : abS.dep = 1 := by kernel_rfl
theorem ab_natF : natF ((dec 1 [97, 98]).map Prod.fst) 1 = 1 := by kernel_rfl
def abN : BkS := newS 1 1 [97, 98]
theorem ab_ats : abN.ats = [(97, 0), (98, 1)] := by kernel_rfl
theorem ab_ref (A : Option Addr) (c : Nat) : refF 1 11 (sizedA 1 abN.ats) [typeE 2 [120] A c] = 0 := by
 rw [ab_ats]
 rfl
theorem ab_typed (A : Option Addr) (k : Nat) : (typeS abN 2 [120] A k).ats.map Prod.fst = [97, 98, 120] /\ (typeS abN 2 [120] A k).ats.map Prod.snd = [0, 1, -1] := by
 unfold typeS
 dsimp only
 rw [edA_type, ab_ats]
 exact ⟨rfl, rfl⟩
theorem NewInts.slice {l : List Int} {w w' : World} {e : Ending} (h : NewInts l w e w') : ∃ A c, e = .returned (.slice A l.length c) /\ Ints w' Any A l.length l /\ l.length <= c /\ Below w.heap.size w w' := by
 obtain ⟨v, rfl, ho, hb⟩ := h
 obtain ⟨A, c, rfl, hc⟩ := own_slice ho
 exact ⟨A, c, rfl, Reads.more (Reads.of_own ho) (fun _ _ _ => trivial) (by decide), hc, hb⟩
theorem ints_new (w : World) (l : List Int) (H : Nat) (hH : w.heap.size = H) : Ints (w.alloc (.cells (l.map (Value.int .i64)).toArray 3)) Any (some ⟨H, 0, none⟩) l.length l := by
 subst hH
 refine ⟨by simp, fun _ => ⟨_, rfl, trivial, fun j u hu => ?_⟩⟩
 exact cells_new w 3 _ j u (by simpa using hu)
theorem both_typed (w : World) (gB : Nat) : Calls Tryz.prog 7 #[.pointer (some ⟨gB, 0, none⟩)] w fun e w' => e = .returned (.bool true) /\ Below w.heap.size w w' := by
 have hw1 : Below w.heap.size w (w.alloc (.cells #[.int .u8 97, .int .u8 98] 5 (2, 3))) := balloc (Below.refl _ _)
 have hI1 : Bts (w.alloc (.cells #[.int .u8 97, .int .u8 98] 5 (2, 3))) Any (some ⟨w.heap.size, 0, none⟩) 2 abS.data := by
  refine ⟨rfl, fun _ => ⟨_, rfl, trivial, fun j u hu => ?_⟩⟩
  rw [add_cell, cell_of_row _ _ _ _ _ (2, 3) (heap_alloc_new w _), Nat.zero_add]
  simpa [abS] using hu
 have hbg : Calls Tryz.prog 6 #[.agg #[.int .i64 0, .slice (some ⟨w.heap.size, 0, none⟩) 2 2, .int .i64 0, .int .i64 0, .int .i64 9]] (w.alloc (.cells #[.int .u8 97, .int .u8 98] 5 (2, 3))) fun e w' => BegunPost abS (w.alloc (.cells #[.int .u8 97, .int .u8 98] 5 (2, 3))) e w' := begun_any abS _ 2 2 _ hI1 (fun x hx => by simp [abS] at hx; omega) ⟨by decide, by decide⟩ ⟨by decide, by decide⟩ ⟨by decide, by decide⟩
 have hcv := Lib.run_convert_bytes_const (P := Tryz.prog) w 22 5 #[.int .u8 97, .int .u8 98] 2 2 Tryz.underlying22 Tryz.underlying5
 have hsz2 : (#[Value.int .u8 97, .int .u8 98] : Array Value).size = 2 := rfl
 rw [hsz2] at hcv
 clear hsz2
 have HBG := Lib.hid hbg
 clear hbg
 go_enter Tryz.func7, Tryz.ntmps7
 go_wp2_with fail
 refine (HBG.out).mono ?_
 rintro e w2 ⟨gd, gb, gt, m, gk, mk, gd', gb', gt', gk', ld, rfl, hBe, hb2⟩
 have hD := hBe.D
 rw [ab_E, ab_l, ab_lim, ab_nat, ab_dep] at hD
 have hd := hD.is (by decide) (by decide) (by decide)
 rw [ab_natF] at hd
 have HD := Lib.hid hd
 clear hd hD hBe HBG
 obtain ⟨w1, hw10⟩ : ∃ x, w.alloc (.cells #[.int .u8 97, .int .u8 98] 5 (2, 3)) = x := ⟨_, rfl⟩
 rw [hw10] at hw1 hI1 hb2 HD
 clear hw10 hI1 hcv
 obtain ⟨B, hB⟩ : ∃ B, w1.heap.size = B := ⟨_, rfl⟩
 rw [hB] at HD
 have hBw : w.heap.size <= B := by have h1 := hw1.size; rw [hB] at h1; exact h1
 clear hB
 go_upto_region 4 with fail
 have hw2 := bseq hw1 hb2
 have hBo : Blk (w2.alloc (.cells #[.pointer (some ⟨gd, 0, none⟩), .pointer (some ⟨gd', 0, none⟩)] 28)) w2.heap.size 28 #[.pointer (some ⟨gd, 0, none⟩), .pointer (some ⟨gd', 0, none⟩)] := Blk.new w2 _ _
 have hd3 := HD.out.below (balloc (o := .cells #[.pointer (some ⟨gd, 0, none⟩), .pointer (some ⟨gd', 0, none⟩)] 28) (Below.refl w2.heap.size w2))
 have hw3 : Below w.heap.size w (w2.alloc (.cells #[.pointer (some ⟨gd, 0, none⟩), .pointer (some ⟨gd', 0, none⟩)] 28)) := balloc hw2
 obtain ⟨bo, hbo⟩ : ∃ x, w2.heap.size = x := ⟨_, rfl⟩
 obtain ⟨w3, hw30⟩ : ∃ x, w2.alloc (.cells #[.pointer (some ⟨gd, 0, none⟩), .pointer (some ⟨gd', 0, none⟩)] 28) = x := ⟨_, rfl⟩
 rw [hbo] at hBo ⊢
 rw [hw30] at hBo hd3 hw3 ⊢
 clear hw30 hbo hb2 hw1 hw2 HD
 obtain ⟨c0, -⟩ := cells2 hBo
 have e2 := hd3.desk.cell 2
 have f2 := hd3.desk.frozen 2
 simp [deskC] at e2
 have hd4 := hd3.set (i := 2) (by decide) (.int .i64 2)
 have hBo4 := hBo.far (p := ⟨gd, 2, none⟩) (Blk.ne_ hBo hd3.desk (by decide)) (.int .i64 2)
 have hF4 : DFr B (· = gd) w3 (w3.setCell ⟨gd, 2, none⟩ (.int .i64 2)) := DFr.of_x ((Fr.refl _ _).set1 2 _)
 have hgB : B <= gd := hd3.low
 have hne : bo ≠ gd := Blk.ne_ hBo hd3.desk (by decide)
 go_upto_region 5 with fail
 obtain ⟨dc4, hdc4⟩ : ∃ x, (deskC gb gk 1).setIfInBounds 2 (.int .i64 2) = x := ⟨_, rfl⟩
 have z4 : dc4.size = 10 := by rw [<- hdc4]; rfl
 have y42 : dc4[2]? = some (.int .i64 2) := by rw [<- hdc4]; rfl
 have y49 : dc4[9]? = some (.int .i64 1) := by rw [<- hdc4]; rfl
 have hw4 : Below w.heap.size w (w3.setCell ⟨gd, 2, none⟩ (.int .i64 2)) := hw3.setCell (Nat.le_trans hBw hgB) _
 obtain ⟨w4, hw40⟩ : ∃ x, w3.setCell ⟨gd, 2, none⟩ (.int .i64 2) = x := ⟨_, rfl⟩
 rw [hw40] at hd4 hBo4 hw4 ⊢
 rw [hdc4] at hd4
 clear hw40 hdc4 hd3 hBo hw3 hF4 e2 f2 c0
 have hBo5 := hBo4.alloc (.cells #[.int .i64 120] 3)
 have hw5 : Below w.heap.size w (w4.alloc (.cells #[.int .i64 120] 3)) := balloc hw4
 have hI5 : Ints (w4.alloc (.cells #[.int .i64 120] 3)) (fun b => b < (w4.alloc (.cells #[.int .i64 120] 3)).heap.size /\ ∃ cs, Blk (w4.alloc (.cells #[.int .i64 120] 3)) b 3 cs) (some ⟨w4.heap.size, 0, none⟩) 1 [120] :=
  ⟨rfl, fun _ => ⟨_, rfl, ⟨by simp, _, Blk.new w4 _ _⟩, cell_one_new _ _ _⟩⟩
 have hT := type_any B gd gb gt 0 1 11 2 1 (newS 1 1 [97, 98]) dc4 (some ⟨w4.heap.size, 0, none⟩) 1 1 [120] _ (hd4.below (balloc (Below.refl _ _))) rfl z4 y42 y49 (.inl rfl) hI5 ⟨by decide, by decide⟩ (fun x hx => by simp at hx; omega) ⟨by decide, (show (2 : Int) <= (abN.ats.length : Int) by rw [ab_ats]; decide)⟩ ab_ref (by decide) (by decide) (by decide)
 have HT := Lib.hid hT
 obtain ⟨c0, -⟩ := cells2 hBo4
 clear hT hI5 hd4
 go_wp2_with fail
 refine (HT.out).mono ?_
 rintro e w6 ⟨rfl, A', k', hd6, hf6⟩
 have hBo6 := hf6.blk hBo5 (by decide) hne
 have hw6 : Below w.heap.size w w6 := bfr hw5 hf6 (fun i hs => by
  rcases hs with ⟨h1, _⟩ | h1
  ·omega
  ·omega)
 have hat6 := batoms_any hd6 hBo6
 rw [show (typeS (newS 1 1 [97, 98]) 2 [120] A' k').ats.map Prod.fst = [97, 98, 120] from (ab_typed A' k').1] at hat6
 have HAT6 := Lib.hid hat6
 have HD6 := Lib.hid hd6
 clear hat6 hd6 hf6 c0 HT hw4 hw5 hBo4 hBo5
 go_wp2_with fail
 refine (HAT6.out).mono ?_
 intro e w7 hNI
 obtain ⟨A7, c7, rfl, hI7, hc7, hb7⟩ := hNI.slice
 simp only [List.length_cons, List.length_nil, Nat.zero_add, Nat.reduceAdd] at hI7 hc7 ⊢
 have hw7 := bseq hw6 hb7
 have hS7 := same_eq (c := c7) (c' := 3) (Reads.below hI7 (balloc (o := .cells #[.int .i64 97, .int .i64 98, .int .i64 120] 3) (Below.refl w7.heap.size w7))) (ints_new w7 [97, 98, 120] _ rfl) (by decide)
 have HS7 := Lib.hid hS7
 clear hS7 hNI hI7 hc7
 go_wp2_with fail
 refine (HS7.out).mono ?_
 rintro e w8 ⟨rfl, hb8⟩
 have hb68 := bseq hb7 (bseq (balloc (o := .cells #[.int .i64 97, .int .i64 98, .int .i64 120] 3) (Below.refl w7.heap.size w7)) hb8)
 have hw8 := bseq hw6 hb68
 have hBo8 := hBo6.below hb68
 have hd8 := HD6.out.below hb68
 obtain ⟨c0, -⟩ := cells2 hBo8
 have e2 := hd8.desk.cell 2
 rw [Array.getElem?_setIfInBounds_self_of_lt (by omega)] at e2
 simp only [List.length_cons, List.length_nil] at e2
 have htg := btags_any hd8 hBo8
 rw [show (typeS (newS 1 1 [97, 98]) 2 [120] A' k').ats.map Prod.snd = [0, 1, -1] from (ab_typed A' k').2] at htg
 have HTG := Lib.hid htg
 clear htg hd8 hb8 hb7 hw7 HS7 HAT6
 go_wp2_with fail
 refine (HTG.out).mono ?_
 intro e w9 hNI
 obtain ⟨A9, c9, rfl, hI9, hc9, hb9⟩ := hNI.slice
 simp only [List.length_cons, List.length_nil, Nat.zero_add, Nat.reduceAdd] at hI9 hc9 ⊢
 have hS9 := same_eq (c := c9) (c' := 3) (Reads.below hI9 (balloc (o := .cells #[.int .i64 0, .int .i64 1, .int .i64 (-1)] 3) (Below.refl w9.heap.size w9))) (ints_new w9 [0, 1, -1] _ rfl) (by decide)
 have HS9 := Lib.hid hS9
 clear hS9 hNI hI9 hc9 c0 e2
 go_wp2_with fail
 refine (HS9.out).mono ?_
 rintro e w10 ⟨rfl, hb10⟩
 have hb610 := bseq hb68 (bseq hb9 (bseq (balloc (o := .cells #[.int .i64 0, .int .i64 1, .int .i64 (-1)] 3) (Below.refl w9.heap.size w9)) hb10))
 have hw10 := bseq hw6 hb610
 have hBo10 := hBo6.below hb610
 have hd10 := HD6.out.below hb610
 obtain ⟨c0, -⟩ := cells2 hBo10
 have e0 := (hd10.desk.cell 0).trans hd10.c0
 have hun := undo_desk hd10 rfl (us := []) (G := ⟨abN.ats, edA [typeE 2 [120] A' k'] abN.ats, 2, 2 + ([120] : List Int).length, [[mvOf (typeE 2 [120] A' k')]], 0, 1⟩) rfl (show (0 : Nat) < 1048576 by decide) (fun mv hm => by simp at hm; subst hm; simp)
 have HUN := Lib.hid hun
 clear hun hd10 hb10 hb9 hw8 HS9 HTG hb68 hBo8
 go_wp2_with fail
 refine (HUN.out).mono ?_
 rintro e w11 ⟨rfl, hd11, hf11⟩
 have hBo11 := hf11.blk hBo10 (by decide)
 have hw11 : Below w.heap.size w w11 := bfr hw10 hf11 (fun i hs => by have := hs.1; omega)
 have hat11 := batoms_any hd11 hBo11
 rw [show List.map Prod.fst (abN.ats) = [97, 98] by rw [ab_ats]; rfl] at hat11
 have HAT11 := Lib.hid hat11
 clear hat11 hd11 hf11 hBo10 HUN c0 e0
 go_wp2_with fail
 refine (HAT11.out).mono ?_
 intro e w12 hNI
 obtain ⟨A12, c12, rfl, hI12, hc12, hb12⟩ := hNI.slice
 simp only [List.length_cons, List.length_nil, Nat.zero_add, Nat.reduceAdd] at hI12 hc12 ⊢
 have hS12 := same_eq (c := c12) (c' := 2) (Reads.below hI12 (balloc (o := .cells #[.int .i64 97, .int .i64 98] 3) (Below.refl w12.heap.size w12))) (ints_new w12 [97, 98] _ rfl) (by decide)
 have HS12 := Lib.hid hS12
 clear hS12 hNI hI12 hc12
 go_wp2_with fail
 refine (HS12.out).mono ?_
 rintro e w13 ⟨rfl, hb13⟩
 have hw13 := bseq hw11 (bseq hb12 (bseq (balloc (o := .cells #[.int .i64 97, .int .i64 98] 3) (Below.refl w12.heap.size w12)) hb13))
 go_wp2_with fail
 go_ret
 exact ⟨rfl, hw13⟩
end Go.Proofs.YtkocknfhdojmbaaGreat
