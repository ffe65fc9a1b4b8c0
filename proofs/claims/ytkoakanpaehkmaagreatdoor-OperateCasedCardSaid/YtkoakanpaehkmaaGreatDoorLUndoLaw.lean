/-
  The walk of Book.Begin. The walk of Book.Change. The walks of Book.shut, Book.End. A stack of groups: its last one, and what is left without it (plain).
-/
import Derived.Test.YtkoakanpaehkmaaGreatDoorLJoinLaw2
import Derived.Test.YtkoakanpaehkmaaGreatDoorLSame
import Derived.Test.YtkoakanpaehkmaaGreatDoorLSized
import Derived.Defers
set_option linter.unusedSimpArgs false
set_option linter.unusedVariables false
set_option maxRecDepth 100000
set_option maxHeartbeats 32000000
namespace Go.Proofs.YtkoakanpaehkmaaGreatDoor
open Go.RowKit
theorem SnapAt.set {w : World} {g n s p i : Nat} {add u : Value} {enc : Int} {ats : List (Int × Int)} {T : TypeId} {cs : Array Value} (h : SnapAt w g add n enc s ats) (hp : Blk w p T cs) (hT : T ≠ 170 /\ T ≠ 139 /\ T ≠ 196 /\ T ≠ 5) : SnapAt (w.setCell ⟨p, i, none⟩ u) g add n enc s ats := by
 obtain ⟨t, a, h1, h2, h3⟩ := h
 exact ⟨t, a, h1.far (fun e => Blk.ne_ hp h1 hT.1 e.symm) u, h2.far ((Fr.refl _ _).set1 i u) (fun k _ hk => hk ▸ Far.blk hp hT.2), h3⟩
theorem SnapAt.below {w w' : World} {B g n s : Nat} {add : Value} {enc : Int} {ats : List (Int × Int)} {xs : List Value} {cs : Array Value} (h : SnapAt w g add n enc s ats) (hr : w.ownsRow B 5 1 add n xs) (hg : Blk w g 139 cs) (hb : Below w.heap.size w w') : SnapAt w' g add n enc s ats := by
 obtain ⟨t, a, h1, h2, h3⟩ := h
 exact ⟨t, a, h1.below hb, h2.step (g := g) (TStep.below hr hb) hr hg, h3⟩
def BegS (W : World) (g n : Nat) (add : Value) (enc : Int) (ats : List (Int × Int)) (p s : Nat) (cs : Array Value) (w : World) : Prop := SnapAt w g add n enc s ats /\ W.heap.size <= s /\ Below W.heap.size W w /\ Blk w p 198 cs
theorem BegS.set {W w : World} {g n p s i : Nat} {add u : Value} {enc : Int} {ats : List (Int × Int)} {cs : Array Value} (h : BegS W g n add enc ats p s cs w) (hp : W.heap.size <= p) : BegS W g n add enc ats p s (cs.setIfInBounds i u) (w.setCell ⟨p, i, none⟩ u) :=
 ⟨h.1.set h.2.2.2 (by decide), h.2.1, h.2.2.1.setCell hp u, h.2.2.2.set_ i u⟩
theorem bbegin_any (N B gb g : Nat) (enc lim : Int) (n : Nat) (add : Value) (st : BkS) (t : Tr) (a : Option Addr) (xs : List Value) (m : Nat) (vu vr : Value) (now : Option Addr) (x : Int) (w : World) (h : BkAt w N B gb g enc lim n add st t a xs m vu vr now) (hn : st.now = none) (hx : 0 <= x /\ x <= (st.ats.length : Int)) :
  Calls Tryz.prog 76 #[.pointer (some ⟨gb, 0, none⟩), .int .i64 x] w fun e w' => e = .returned (.int .i64 0) /\ ∃ now', BkAt w' w'.heap.size B gb g enc lim n add { st with now := some ⟨st.ats, x, [], st.state, false⟩ } t a xs m vu vr now' /\ Fr (· = gb) w w' := by
 have hnow : now = none := by have := h.open_; rw [hn] at this; exact this
 subst hnow
 have hal : (atsL enc t.list).length = (decL enc t.list).length := atsL_len enc _
 have hki := inside_any gb g _ Any enc (decL enc t.list) x w h.blk rfl ⟨lim, t, a, add, h.text.text, rfl⟩
 have hq : decide (0 <= x /\ x <= ((decL enc t.list).length : Int)) = true := by
  rw [<- hal, h.ats]
  simpa using hx
 rw [hq] at hki
 have HKI := Lib.hid hki
 have HH := Lib.hid h
 have c6 := h.blk.cell 6
 have c5 := fun (w' : World) (hb : Below w.heap.size w w') => (And.intro ((h.blk.below hb).cell 5) (And.intro ((h.blk.below hb).cell 0) (And.intro ((h.blk.below hb).cell 7) ((h.blk.below hb).cell 4))))
 simp at c6
 have HC := Lib.hid c5
 clear h hki hq hal c5
 go_enter Tryz.func76, Tryz.ntmps76
 go_wp2_with fail
 refine (HKI.out).mono ?_
 rintro e w1 ⟨rfl, hb1⟩
 have hmm := @run_makeMap Tryz.prog
 obtain ⟨c5, c0, c7, c4⟩ := HC.out _ (balloc (o := .map #[] 0) hb1)
 simp at c5 c0 c7 c4
 go_wp2_with fail
 refine (clone_nil _).mono ?_
 rintro e w2 ⟨rfl, rfl⟩
 go_wp2_with fail
 have hW3 : Below w.heap.size w ((w1.alloc (.map #[] 0)).alloc (.cells #[.pointer none, .pointer none, .int .i64 0, .int .i64 0, .slice none 0 0, .int .i64 0, .int .i64 0, .map (some w1.heap.size), .slice none 0 0, .bool false] 198)) := balloc (balloc hb1)
 have hP : Blk ((w1.alloc (.map #[] 0)).alloc (.cells #[.pointer none, .pointer none, .int .i64 0, .int .i64 0, .slice none 0 0, .int .i64 0, .int .i64 0, .map (some w1.heap.size), .slice none 0 0, .bool false] 198)) (w1.heap.size + 1) 198 #[.pointer none, .pointer none, .int .i64 0, .int .i64 0, .slice none 0 0, .int .i64 0, .int .i64 0, .map (some w1.heap.size), .slice none 0 0, .bool false] := Blk.newAt (by simp)
 have hmb : st.mb < w1.heap.size := Nat.lt_of_lt_of_le HH.out.map.2.2 hb1.size
 have hE : MapE ((w1.alloc (.map #[] 0)).alloc (.cells #[.pointer none, .pointer none, .int .i64 0, .int .i64 0, .slice none 0 0, .int .i64 0, .int .i64 0, .map (some w1.heap.size), .slice none 0 0, .bool false] 198)) st.mb w1.heap.size := ⟨(EmptyMap.new w1).alloc _, Nat.ne_of_gt hmb, by rw [World.size_alloc, World.size_alloc]; omega⟩
 have hge : w.heap.size <= w1.heap.size := hb1.size
 obtain ⟨w3, hw3⟩ : ∃ w3, (w1.alloc (.map #[] 0)).alloc (.cells #[.pointer none, .pointer none, .int .i64 0, .int .i64 0, .slice none 0 0, .int .i64 0, .int .i64 0, .map (some w1.heap.size), .slice none 0 0, .bool false] 198) = w3 := ⟨_, rfl⟩
 rw [hw3] at hW3 hP hE ⊢
 have hS0 : ∀ w', Below w.heap.size w w' -> w'.cell? ⟨gb, 0, none⟩ = some (.pointer (some ⟨g, 0, none⟩)) /\ w'.cell? ⟨gb, 7, none⟩ = some (.int .i64 st.state) := fun w' hb => ⟨(HC.out _ hb).2.1, (HC.out _ hb).2.2.1⟩
 have HS0 := Lib.hid hS0
 have HE3 := Lib.hid hE
 clear hw3 hS0 hE hmb c0 c7 c5 c4
 refine wp_region_lin (fun w' => w'.cell? ⟨gb, 0, none⟩ = some (.pointer (some ⟨g, 0, none⟩)) /\ w'.cell? ⟨gb, 7, none⟩ = some (.int .i64 st.state)) (fun w' => w' = w3.drew) (fun k => k == 7 || k == 16 || k == 20 || k == 24) (fun _ => false) (fun _ => false) (by kernel_rfl) (by kernel_rfl) (rfl) (fun w' h => by subst h; exact HS0.out _ hW3.drew) ?_
 repeat ((first
  | (refine wpL_read (v := ?_) (by rfl) (by rfl) (fun w6 hSw => ?_) ?_; rotate_left; (· (obtain ⟨y0, y1⟩ := hSw; go_simp; try with_reducible rfl)))
  | (refine wpL_free (v := ?_) (by rfl) (fun w6 => ?_) ?_; rotate_left; (· (go_simp; try with_reducible rfl)))
  | refine wpL_not (by rfl) ?_); (try simp only [Act.put, pA, pB, pC]))
 refine wpL_call (f := ?_) (args := ?_) (fun v w' => ∃ s, v = .pointer (some ⟨s, 0, none⟩) /\ BegS w g n add enc st.ats (w1.heap.size + 1) s #[.pointer none, .pointer none, .int .i64 0, .int .i64 0, .slice none 0 0, .int .i64 0, .int .i64 0, .map (some w1.heap.size), .slice none 0 0, .bool false] w' /\ Below w3.heap.size w3 w') (by rfl) (by rfl) (fun w6 hSw => ?_) (fun w6 hSw => ?_) (.inr (fun v6 w6 hT6 => ?_)) (fun v6 hv6 => ?_)
 rotate_left 2
 ·(skip; go_simp; first | done | (constructor <;> with_reducible rfl) | with_reducible rfl)
 ·(subst hSw; refine (snap_any B g enc lim n add t a xs _ (HH.out.text.below hW3.drew) HH.out.sz).mono ?_; rintro e w' ⟨s, rfl, hs, hge5, hb5⟩; rw [HH.out.ats] at hs; exact ⟨_, rfl, s, rfl, ⟨hs, Nat.le_trans hW3.size hge5, bseq hW3.drew hb5, hP.drew.below hb5⟩, bdrew hb5⟩)
 ·(obtain ⟨s, -, hb, -⟩ := hT6; exact HS0.out _ hb.2.2.1)
 obtain ⟨wz, s, rfl, -⟩ := hv6
 (try simp only [Act.put, pA, pB, pC])
 repeat ((first
  | (refine wpL_read (v := ?_) (by rfl) (by rfl) (fun w6 hSw => ?_) ?_; rotate_left; (· (obtain ⟨y0, y1⟩ := hSw; go_simp; try with_reducible rfl)))
  | (refine wpL_free (v := ?_) (by rfl) (fun w6 => ?_) ?_; rotate_left; (· (go_simp; try with_reducible rfl)))
  | refine wpL_not (by rfl) ?_); (try simp only [Act.put, pA, pB, pC]))
 refine wpL_heavy (fun _ w' => BegS w g n add enc st.ats (w1.heap.size + 1) s #[.pointer (some ⟨s, 0, none⟩), .pointer none, .int .i64 0, .int .i64 0, .slice none 0 0, .int .i64 0, .int .i64 0, .map (some w1.heap.size), .slice none 0 0, .bool false] w' /\ Fr (· = w1.heap.size + 1) w3 w') (by rfl) (by rfl) (fun w6 hSw => ?_) (.inr (fun v6 w6 hT6 => ?_)) (fun v6 hv6 => ?_)
 ·(obtain ⟨s', e', hb, hbb⟩ := hSw; injection e' with e'; injection e' with e'; injection e' with e'; subst e'; have y2 := hb.2.2.2.frozen 0; have y3 := hb.2.2.2.cell 0; go_simp; exact ⟨hb.set (by omega), (Fr.of_below hbb).set1 0 _⟩)
 ·(exact HS0.out _ hT6.1.2.2.1)
 skip
 (try simp only [Act.put, pA, pB, pC])
 repeat ((first
  | (refine wpL_read (v := ?_) (by rfl) (by rfl) (fun w6 hSw => ?_) ?_; rotate_left; (· (obtain ⟨y0, y1⟩ := hSw; go_simp; try with_reducible rfl)))
  | (refine wpL_free (v := ?_) (by rfl) (fun w6 => ?_) ?_; rotate_left; (· (go_simp; try with_reducible rfl)))
  | refine wpL_not (by rfl) ?_); (try simp only [Act.put, pA, pB, pC]))
 refine wpL_heavy (fun _ w' => BegS w g n add enc st.ats (w1.heap.size + 1) s #[.pointer (some ⟨s, 0, none⟩), .pointer none, .int .i64 x, .int .i64 0, .slice none 0 0, .int .i64 0, .int .i64 0, .map (some w1.heap.size), .slice none 0 0, .bool false] w' /\ Fr (· = w1.heap.size + 1) w3 w') (by rfl) (by rfl) (fun w6 hSw => ?_) (.inr (fun v6 w6 hT6 => ?_)) (fun v6 hv6 => ?_)
 ·(obtain ⟨hb, hbb⟩ := hSw; have y2 := hb.2.2.2.frozen 2; have y3 := hb.2.2.2.cell 2; go_simp; exact ⟨hb.set (by omega), hbb.set1 2 _⟩)
 ·(exact HS0.out _ hT6.1.2.2.1)
 skip
 (try simp only [Act.put, pA, pB, pC])
 repeat ((first
  | (refine wpL_read (v := ?_) (by rfl) (by rfl) (fun w6 hSw => ?_) ?_; rotate_left; (· (obtain ⟨y0, y1⟩ := hSw; go_simp; try with_reducible rfl)))
  | (refine wpL_free (v := ?_) (by rfl) (fun w6 => ?_) ?_; rotate_left; (· (go_simp; try with_reducible rfl)))
  | refine wpL_not (by rfl) ?_); (try simp only [Act.put, pA, pB, pC]))
 refine wpL_heavy (fun _ w' => BegS w g n add enc st.ats (w1.heap.size + 1) s #[.pointer (some ⟨s, 0, none⟩), .pointer none, .int .i64 x, .int .i64 0, .slice none 0 0, .int .i64 st.state, .int .i64 0, .map (some w1.heap.size), .slice none 0 0, .bool false] w' /\ Fr (· = w1.heap.size + 1) w3 w') (by rfl) (by rfl) (fun w6 hSw => ?_) (.inr (fun v6 w6 hT6 => ?_)) (fun v6 hv6 => ?_)
 ·(obtain ⟨hb, hbb⟩ := hSw; have y2 := hb.2.2.2.frozen 5; have y3 := hb.2.2.2.cell 5; go_simp; exact ⟨hb.set (by omega), hbb.set1 5 _⟩)
 ·(exact HS0.out _ hT6.1.2.2.1)
 skip
 (try simp only [Act.put, pA, pB, pC])
 refine wpL_nil ?_
 rintro w4 ⟨hB4, hF4⟩
 obtain ⟨hsn, hsg, hb4, hp4⟩ := hB4
 have hm4 := HH.out.map.below hb4
 have hx4 := EmptyMap.range (t := 84) hm4.1 Tryz.underlying84
 have hy4 := EmptyMap.next hm4.1 0
 have c4 := (HC.out _ hb4).2.2.2
 simp at c4
 have hb5 : Below w.heap.size w (w4.alloc (.mapIter (some m) 0 #[] 0)) := balloc hb4
 have hE4 : MapE w4 st.mb w1.heap.size := HE3.out.fr hF4 (fun e => by omega)
 have HSN := Lib.hid hsn
 have HP4 := Lib.hid hp4
 have hz4 : w1.heap.size + 1 < w4.heap.size := hp4.lt
 clear hsn hp4 hv6 hF4 hW3 hP
 have hgb5 := HH.out.blk.below hb5
 have z6 := hgb5.cell 6
 have zf6 := hgb5.frozen 6
 simp at z6
 go_wp2_with fail
 refine wp_loop_rounds 1 ?_
 rw [rounds_succ]
 go_wp2_with fail
 go_ret
 have hrw4 : w4.ownsRow B 5 1 add n xs := own_bel HH.out.text.row hb4
 have htx4 := HH.out.text.below hb4
 have hF : Fr (· = gb) (w4.alloc (.mapIter (some m) 0 #[] 0)) ((w4.alloc (.mapIter (some m) 0 #[] 0)).setCell ⟨gb, 6, none⟩ (.pointer (some ⟨w1.heap.size + 1, 0, none⟩))) := (Fr.refl _ _).set1 6 _
 have hFall : Fr (· = gb) w ((w4.alloc (.mapIter (some m) 0 #[] 0)).setCell ⟨gb, 6, none⟩ (.pointer (some ⟨w1.heap.size + 1, 0, none⟩))) := (Fr.of_below hb5).set1 6 _
 have hK1 : GKeep N add add n n enc w (w4.alloc (.mapIter (some m) 0 #[] 0)) := GKeep.below HH.out.text.row HH.out.text.blk hb5
 have hK2 : ∀ M, GKeep M add add n n enc (w4.alloc (.mapIter (some m) 0 #[] 0)) ((w4.alloc (.mapIter (some m) 0 #[] 0)).setCell ⟨gb, 6, none⟩ (.pointer (some ⟨w1.heap.size + 1, 0, none⟩))) := fun M => GKeep.far hF (fun k _ hk => hk ▸ Far2.blk hgb5 (by decide))
 have hsz : ((w4.alloc (.mapIter (some m) 0 #[] 0)).setCell ⟨gb, 6, none⟩ (.pointer (some ⟨w1.heap.size + 1, 0, none⟩))).heap.size = w4.heap.size + 1 := by simp [World.setCell]
 have hN0 := HH.out.nle
 have hs0 := hb4.size
 have hown : ∀ v' k ys, w.ownsRow B 96 1 v' k ys -> ((w4.alloc (.mapIter (some m) 0 #[] 0)).setCell ⟨gb, 6, none⟩ (.pointer (some ⟨w1.heap.size + 1, 0, none⟩))).ownsRow B 96 1 v' k ys := fun v' k ys ho =>
  own_fr' (own_bel ho hb5) hF (fun b cs hb hc => Blk.ne_ hc hgb5 (by decide) hb)
 have hpB : Blk ((w4.alloc (.mapIter (some m) 0 #[] 0)).setCell ⟨gb, 6, none⟩ (.pointer (some ⟨w1.heap.size + 1, 0, none⟩))) (w1.heap.size + 1) 198 _ := (HP4.out.alloc _).far (Blk.ne_ (HP4.out.alloc _) hgb5 (by decide)) _
 refine ⟨rfl, some ⟨w1.heap.size + 1, 0, none⟩, ⟨(hgb5.set_ 6 _).eq_ rfl, (HH.out.text.below hb5).far hF (fun k _ hk => hk ▸ Far.blk hgb5 (by decide)), HH.out.ats, HH.out.sz, HH.out.lim0, (hm4.alloc _).far (fun e => (hm4.alloc _).ne_blk hgb5 e) _, HH.out.undo.keep (hK1.trans (hK2 _)) (by omega) (hown _), HH.out.redo.keep (hK1.trans (hK2 _)) (by omega) (hown _), HH.out.sep, ?_, Nat.le_refl _, HH.out.nums, ⟨HH.out.low.1, HH.out.low.2.1, ?_, fun p hp => ?_⟩⟩, hFall⟩
 have hsnB : SnapB (w4.alloc (.mapIter (some m) 0 #[] 0)) (w4.heap.size + 1) g add n enc s st.ats := by
  have h1 := HSN.out.below htx4.row htx4.blk (balloc (Below.refl _ _) (o := .mapIter (some m) 0 #[] 0))
  refine ⟨?_, h1⟩
  obtain ⟨t', a', hs1, -⟩ := HSN.out
  exact Nat.lt_succ_of_lt hs1.lt
 refine ⟨w1.heap.size + 1, rfl, s, w1.heap.size, .slice none 0 0, [], hpB, (hE4.alloc _).far (fun e => (hE4.alloc _).ne_blk hgb5 e) _, ?_, World.ownsRow_nil _ _ _ _, ⟨rfl, fun i v mv hv => by simp at hv⟩, by simp⟩
 ·rw [hsz]
  exact hsnB.keep (hK2 _)
 ·rw [hsz]
  have := HH.out.text.base
  omega
 ·injection hp with hp
  injection hp with hp
  have := HH.out.text.base
  have := hb1.size
  omega
theorem own_fullN {w : World} {g n B size : Nat} {e : TypeId} {xs : List Value} (h : w.ownsRow B e size (.slice (some ⟨g, 0, none⟩) n n) n xs) : Blk w g e xs.toArray := by
 rcases h.2 with ⟨e0, _⟩ | ⟨g', cap, cur, e1, _, e3, _, _, e5, e6⟩
 ·cases e0
 ·injection e1 with e1 e1' e1''
  injection e1 with e1
  injection e1 with e1
  subst e1
  subst e1''
  have : cur = xs.toArray := by
   rw [<- e6, <- e5, <- Array.length_toList, List.take_length]
  rw [<- this]
  exact e3
theorem sized_of {enc : Int} (he : enc = 1 \/ enc = 2 \/ enc = 3 \/ enc = 4) : ∀ {ps : List Pc}, (∀ p ∈ ps, PcOk enc p) -> decL enc ps = withSz enc ((decL enc ps).map Prod.fst) := by
 intro ps
 induction ps with
 | nil => intro _; rfl
 | cons p ps ih =>
  intro h
  have h1 := ih (fun q hq => h q (List.mem_cons_of_mem _ hq))
  have h2 := dec_sized enc he p.bytes.length p.bytes (Nat.le_refl _) (h p List.mem_cons_self).byt
  rw [decL_cons, List.map_append]
  unfold withSz at h1 h2 ⊢
  rw [List.map_append, <- h1, <- h2]
def sizedA (enc : Int) (ats : List (Int × Int)) : List (Int × Int) := withSz enc (ats.map Prod.fst)
theorem sizedA_of {enc : Int} (he : enc = 1 \/ enc = 2 \/ enc = 3 \/ enc = 4) {ps : List Pc} (h : ∀ p ∈ ps, PcOk enc p) : decL enc ps = sizedA enc (atsL enc ps) := by
 unfold sizedA
 rw [atsL_fst]
 exact sized_of he h
def mvOf (e : Ed) : Mv := ⟨e.f, e.t, (e.n : Int)⟩
def chg (e : Ed) : Bool := decide (e.f < e.t) || decide (0 < e.n)
theorem mvFlat_len (l : List Mv) : (mvFlat l).length = l.length * 3 := by
 unfold mvFlat
 induction l with
 | nil => rfl
 | cons p ps ih => rw [List.flatMap_cons, List.length_append, ih]; simp [Mv.cells]; omega
theorem set3_take (cs : Array Value) (j : Nat) (x y z : Value) (h : j * 3 + 3 <= cs.size) : (((cs.setIfInBounds (j * 3) x).setIfInBounds (j * 3 + 1) y).setIfInBounds (j * 3 + 2) z).toList.take ((j + 1) * 3) = cs.toList.take (j * 3) ++ [x, y, z] := by
 apply List.ext_getElem?
 intro i
 rw [List.getElem?_take]
 by_cases h1 : i < j * 3
 ·rw [if_pos (by omega), List.getElem?_append_left (by simp; omega), List.getElem?_take, if_pos h1]
  simp only [Array.toList_setIfInBounds]
  rw [List.getElem?_set_ne (by omega), List.getElem?_set_ne (by omega), List.getElem?_set_ne (by omega)]
 ·have hl : (cs.toList.take (j * 3)).length = j * 3 := by simp; omega
  rw [List.getElem?_append_right (by omega), hl]
  by_cases h2 : i < (j + 1) * 3
  ·rw [if_pos h2]
   simp only [Array.toList_setIfInBounds]
   obtain h3 | h3 | h3 : i = j * 3 \/ i = j * 3 + 1 \/ i = j * 3 + 2 := by omega
   ·subst h3
    rw [List.getElem?_set_ne (by omega), List.getElem?_set_ne (by omega), List.getElem?_set_self (by simp; omega)]
    simp
   ·subst h3
    rw [List.getElem?_set_ne (by omega), List.getElem?_set_self (by simp; omega)]
    simp
   ·subst h3
    rw [List.getElem?_set_self (by simp; omega)]
    simp
  ·rw [if_neg h2]
   rw [List.getElem?_eq_none (by simp; omega)]
def opC (s m : Nat) (vm : Value) (o : OpS) (ch : Bool) : Array Value := #[.pointer (some ⟨s, 0, none⟩), .pointer none, .int .i64 o.bgn, .int .i64 0, vm, .int .i64 o.old, .int .i64 0, .map (some m), .slice none 0 0, .bool ch]
def BChgR (w2 : World) (b p s m : Nat) (vm : Value) (o : OpS) (es : List Ed) (k : Nat) (q28 : Value) (wr : World) : Prop :=
 ∃ (j : Nat) (cs : Array Value), q28 = .int .i64 (j : Int) /\ Blk wr b 174 cs /\ cs.size = es.length * 3 /\ Hid (cs.toList.take (j * 3) = mvFlat ((es.take j).map mvOf)) /\ Blk wr p 198 (opC s m vm o (o.changed || (es.take j).any chg)) /\ Fr (fun x => x = b \/ x = p) w2 wr /\ j <= es.length /\ es.length - j <= k
theorem move_info : (Tryz.prog.info? 174).map (fun i => (i.zero, i.size, i.bytes)) = some (some (.agg #[.int .i64 0, .int .i64 0, .int .i64 0]), 3, 24) := by kernel_rfl
theorem rows_info : (Tryz.prog.info? 103).map (fun i => (i.zero, i.size, i.bytes)) = some (some (.slice none 0 0), 1, 24) := by kernel_rfl
def BChgPost (N B gb g : Nat) (enc lim : Int) (n : Nat) (add : Value) (st : BkS) (o : OpS) (m : Nat) (vu vr : Value) (now : Option Addr) (es : List Ed) (w w' : World) : Prop :=
 ∃ n' add' t' a' xs', BkAt w' N B gb g enc lim n' add' { st with ats := edA es st.ats, now := some { o with moves := o.moves ++ [es.map mvOf], changed := o.changed || es.any chg } } t' a' xs' m vu vr now /\ n' <= n + 131072 /\ BkFr B w w'
theorem TStep.other {g n n' B : Nat} {add add' : Value} {xs : List Value} {w w' : World} {csT : Array Value} (hs : TStep g add add' n n' w w') (hr : w.ownsRow B 5 1 add n xs) (hg : Blk w g 139 csT) : ∀ {T : TypeId} {cs : Array Value} {b : Nat}, Blk w b T cs -> T ≠ 139 -> T ≠ 5 -> ¬ (b = g \/ add.ownBlock = some b) := fun hb h1 h2 hh => by
 rcases hh with rfl | hh
 ·exact Blk.ne_ hb hg h1 rfl
 ·exact own_blk_ne hr hb (Ne.symm h2) hh
theorem TStep.map {g n n' B mb m : Nat} {add add' : Value} {xs : List Value} {w w' : World} {csT : Array Value} (hs : TStep g add add' n n' w w') (hr : w.ownsRow B 5 1 add n xs) (hg : Blk w g 139 csT) (h : MapE w mb m) : MapE w' mb m :=
 h.fr hs.fr (fun hh => by
  rcases hh with rfl | hh
  ·exact h.ne_blk hg rfl
  ·rcases hr.2 with ⟨rfl, _⟩ | ⟨r, c, cur, rfl, _, h2, _⟩
   ·cases hh
   ·have : r = m := by simpa [Value.ownBlock] using hh
    subst this
    exact h.ne_blk h2 rfl)
theorem BkAt.changed {w w1 w7 : World} {N B gb g n n1 m p s m2 b k : Nat} {enc lim : Int} {add add1 vm u vu vr : Value} {st : BkS} {o : OpS} {t t1 : Tr} {a a1 : Option Addr} {xs xs1 vs : List Value} {es : List Ed} {cs : Array Value} {ch : Bool}
  (h : BkAt w N B gb g enc lim n add st t a xs m vu vr (some ⟨p, 0, none⟩)) (hp0 : Blk w p 198 (opC s m2 vm o o.changed)) (hm2 : MapE w st.mb m2) (hsn : SnapB w N g add n enc s o.before) (hvm : w.ownsRow N 103 1 vm vs.length vs) (hmv : MvRows w w.heap.size vs o.moves) (hml : o.moves.length < 1048576)
  (hT1 : TextM w1 B g enc lim n1 add1 t1 a1 xs1) (hS1 : TStep g add add1 n n1 w w1) (hd1 : szS (decL enc t1.list) <= 65536) (ha1 : atsL enc t1.list = edA es st.ats)
  (hF : Fr (fun x => x = p \/ OwnB vm x) w1 w7) (hP7 : Blk w7 p 198 (opC s m2 u o ch)) (hu : w7.ownsRow N 103 1 u (vs.length + 1) (vs ++ [.slice (some ⟨b, 0, none⟩) k k]))
  (hB7 : Blk w7 b 174 cs) (hcs : cs.toList = mvFlat (es.map mvOf)) (hk : es.length = k) :
  BkAt w7 N B gb g enc lim n1 add1 { st with ats := edA es st.ats, now := some { o with moves := o.moves ++ [es.map mvOf], changed := ch } } t1 a1 xs1 m vu vr (some ⟨p, 0, none⟩) := by
 have nown := @TStep.other g n n1 B add add1 xs w w1 _ hS1 h.text.row h.text.blk
 have hp1 := hp0.fr hS1.fr (nown hp0 (by decide) (by decide))
 have hvm1 : w1.ownsRow N 103 1 vm vs.length vs := own_fr' hvm hS1.fr (fun b cs' hs hc => nown hc (by decide) (by decide) hs)
 have hgb1 := h.blk.fr hS1.fr (nown h.blk (by decide) (by decide))
 have typed : ∀ x, (x = p \/ OwnB vm x) -> (∃ cs', Blk w1 x 198 cs') \/ (∃ cs', Blk w1 x 103 cs' /\ N <= x) := fun x hx => by
  rcases hx with rfl | hx
  ·exact .inl ⟨_, hp1⟩
  ·rcases hvm1.2 with ⟨e0, _⟩ | ⟨r, c, cur, e0, h1, h2, _⟩
   ·unfold OwnB at hx
    rw [e0] at hx
    cases hx
   ·unfold OwnB at hx
    rw [e0] at hx
    have : r = x := by simpa [Value.ownBlock] using hx
    subst this
    exact .inr ⟨cur, h2, h1⟩
 have notT : ∀ {T : TypeId} {cs' : Array Value} {x : Nat}, Blk w1 x T cs' -> T ≠ 198 -> T ≠ 103 -> ¬ (x = p \/ OwnB vm x) := fun hb h1 h2 hx => by
  rcases typed _ hx with ⟨c1, hc⟩ | ⟨c1, hc, _⟩
  ·exact Blk.ne_ hb hc h1 rfl
  ·exact Blk.ne_ hb hc h2 rfl
 have hFar : ∀ x, x < w1.heap.size -> (x = p \/ OwnB vm x) -> Far2 w1 N x := fun x _ hx => by
  rcases typed _ hx with ⟨c1, hc⟩ | ⟨c1, hc, hN⟩
  ·exact Far2.blk hc (by decide)
  ·exact Far2.new hc (by decide) hN
 have hmap : ∀ {r : Nat}, MapE w1 st.mb r -> MapE w7 st.mb r := fun {r} hr => hr.fr hF (fun hx => by
  rcases typed _ hx with ⟨c1, hc⟩ | ⟨c1, hc, _⟩
  ·exact hr.ne_blk hc rfl
  ·exact hr.ne_blk hc rfl)
 have hK : GKeep N add add1 n n1 enc w w7 := (GKeep.step hS1 h.text.row h.text.blk).trans (GKeep.far hF hFar)
 have hown : ∀ v' k' ys, w.ownsRow B 96 1 v' k' ys -> w7.ownsRow B 96 1 v' k' ys := fun v' k' ys ho =>
  own_fr' (own_fr' ho hS1.fr (fun b cs' hs hc => nown hc (by decide) (by decide) hs)) hF (fun b cs' hs hc => notT hc (by decide) (by decide) hs)
 have hkm : KeepTy w.heap.size 174 w w7 := (GKeep.step (N := w.heap.size) (enc := enc) hS1 h.text.row h.text.blk).mvs.trans (KeepTy.fr hF (fun b cs' _ hs hc => notT hc (by decide) (by decide) hs))
 have hsz : w.heap.size <= w7.heap.size := Nat.le_trans hS1.fr.size hF.size
 refine ⟨hgb1.fr hF (notT hgb1 (by decide) (by decide)), hT1.far hF (fun k hk hs => (hFar k hk hs).1), ha1, hd1, h.lim0, hmap (hS1.map h.text.row h.text.blk h.map), h.undo.keep hK (Nat.le_refl _) (hown _), h.redo.keep hK (Nat.le_refl _) (hown _), h.sep, ?_, Nat.le_trans h.nle hsz, h.nums, h.low⟩
 refine ⟨p, rfl, s, m2, u, vs ++ [.slice (some ⟨b, 0, none⟩) k k], hP7, hmap (hS1.map h.text.row h.text.blk hm2), hsn.keep hK, by rw [List.length_append]; exact hu, ?_, by simp only [List.length_append, List.length_singleton]; omega⟩
 have hold := (hmv.keep hkm).mono hsz
 refine ⟨by simp [hold.1], fun i v mv hv hm => ?_⟩
 rcases Nat.lt_or_ge i vs.length with hlt | hge
 ·rw [List.getElem?_append_left hlt] at hv
  rw [List.getElem?_append_left (by rw [<- hold.1]; exact hlt)] at hm
  exact hold.2 i v mv hv hm
 ·rw [List.getElem?_append_right hge] at hv
  rw [List.getElem?_append_right (by rw [<- hold.1]; exact hge), <- hold.1] at hm
  have hi0 : i - vs.length = 0 := by
   rcases Nat.eq_zero_or_pos (i - vs.length) with h0 | h0
   ·exact h0
   ·rw [List.getElem?_eq_none (by simp; omega)] at hv
    cases hv
  rw [hi0] at hv hm
  simp at hv hm
  subst hv
  subst hm
  refine ⟨_, k, k, rfl, Nat.le_refl _, ⟨by rw [mvFlat_len, List.length_map, hk], fun _ => ⟨b, 0, cs, rfl, hB7.lt, hB7, fun j' u' hu' => ?_⟩⟩, by rw [List.length_map, hk]⟩
  rw [Nat.zero_add, <- Array.getElem?_toList, hcs]
  exact hu'
theorem bchange_any (N B gb g : Nat) (enc lim : Int) (n : Nat) (add : Value) (st : BkS) (t : Tr) (a : Option Addr) (xs : List Value) (m : Nat) (vu vr : Value) (now : Option Addr) (o : OpS) (D : Nat -> Prop) (A : Option Addr) (k c : Nat) (es : List Ed) (w : World)
    (h : BkAt w N B gb g enc lim n add st t a xs m vu vr now) (hn : st.now = some o) (he : EdsAt w D A k es) (hD : ∀ b, D b -> b ≠ g /\ add.ownBlock ≠ some b /\ now ≠ some ⟨b, 0, none⟩) (hp : putN es <= 268435456) (hnn : n + 131072 <= 1073741824) (hom : o.moves.length < 1048576) :
    Calls Tryz.prog 83 #[.pointer (some ⟨gb, 0, none⟩), .slice A k c] w fun e w' => e = .returned (.int .i64 (refF enc lim (sizedA enc st.ats) es)) /\ (refF enc lim (sizedA enc st.ats) es ≠ 0 -> Below w.heap.size w w') /\
      (refF enc lim (sizedA enc st.ats) es = 0 -> BChgPost N B gb g enc lim n add st o m vu vr now es w w') := by
  have hop := h.open_
  rw [hn] at hop
  obtain ⟨p, rfl, hop⟩ := hop
  have hds : decL enc t.list = sizedA enc st.ats := by rw [sizedA_of h.text.enc4 h.text.tree.pcs.ok, h.ats]
  have hK := change_any B g enc lim n add t a xs D A k c es w h.text he (fun b hb => ⟨(hD b hb).1, (hD b hb).2.1⟩) hp h.lim0 h.sz hnn
  rw [hds, h.ats] at hK
  have c6 := h.blk.cell 6
  have c0 := h.blk.cell 0
  simp at c6 c0
  by_cases hz : refF enc lim (sizedA enc st.ats) es = 0
  · rw [hz] at hK ⊢
    obtain ⟨D', hDD⟩ : ∃ D' : Nat -> Prop, D' = fun b => D b /\ b < w.heap.size := ⟨_, rfl⟩
    have he' : EdsAt w D' A k es := he.more (fun b h1 h2 => by rw [hDD]; exact ⟨h1, h2⟩)
    have hD' : ∀ b, D' b -> b ≠ g /\ add.ownBlock ≠ some b /\ b ≠ p /\ b < w.heap.size := fun b hb => by
      rw [hDD] at hb
      exact ⟨(hD b hb.1).1, (hD b hb.1).2.1, fun e => (hD b hb.1).2.2 (by rw [e]), hb.2⟩
    clear hDD hD he
    have hml := he'.len
    have hes : es.length <= 70000 := (refF_ok (by rw [<- hds]; exact decL_pos enc _) hz h.lim0 (by rw [<- hds]; exact h.sz)).1
    have hsz' : szS (edD enc es (sizedA enc st.ats)) <= 65536 := by
      have := (refF_ok (by rw [<- hds]; exact decL_pos enc _) hz h.lim0 (by rw [<- hds]; exact h.sz)).2.2.2.2
      have := h.lim0
      omega
    have HK := Lib.hid hK
    have HH := Lib.hid h
    have HE := Lib.hid he'
    have HOP := Lib.hid hop
    have HSZ := Lib.hid hsz'
    clear hK h he' hop hz hds hsz'
    go_enter Tryz.func83, Tryz.ntmps83
    go_wp2_with fail
    refine (HK.out).mono ?_
    rintro e w1 ⟨rfl, -, hch⟩
    obtain ⟨add1, n1, xs1, ⟨t1, a1, hT1, hS1, hd1, ha1⟩, hn1⟩ := hch (by first | rfl | trivial)
    clear hch
    have hgk := fun M => GKeep.step (N := M) (enc := enc) hS1 HH.out.text.row HH.out.text.blk
    have nown : ∀ {T : TypeId} {cs : Array Value} {b : Nat}, Blk w b T cs -> T ≠ 139 -> T ≠ 5 -> ¬ (b = g \/ add.ownBlock = some b) := fun hb h1 h2 hs => by
      rcases hs with rfl | hs
      · exact Blk.ne_ hb HH.out.text.blk h1 rfl
      · exact own_blk_ne HH.out.text.row hb (Ne.symm h2) hs
    have hgb1 := HH.out.blk.fr hS1.fr (nown HH.out.blk (by decide) (by decide))
    obtain ⟨s, m2, vm, vs, hp0, hm2, hsn, hvm, hmv, hml2⟩ := HOP.out
    have hp1 := hp0.fr hS1.fr (nown hp0 (by decide) (by decide))
    have hE1 := HE.out.fr hS1.fr (fun b hb _ hs => hs.elim (fun e => (hD' b hb).1 e) (fun e => (hD' b hb).2.1 e))
    obtain ⟨im, him, hi0, hi1, hi2⟩ := info_parts move_info
    have HGK := Lib.hid hgk
    have HT1 := Lib.hid hT1
    have HS1 := Lib.hid hS1
    have HD1 := Lib.hid hd1
    have HA1 := Lib.hid ha1
    have HE1 := Lib.hid hE1
    have hz1 := hS1.fr.size
    clear hgk hT1 hS1 hd1 ha1 hE1 c6 c0
    go_wp2_with (at_make; refine wpList_make_full _ rfl _ _ 103 rfl w1.heap.size 174 im (.agg #[.int .i64 0, .int .i64 0, .int .i64 0]) 3 Tryz.underlying103 him hi0 hi1 _ _ _ _ k rfl rfl rfl rfl (by rw [hi2]; omega) (by unfold maxLen; omega) (Nat.le_refl _) ?_)
    intro w2 ho2 hg2
    obtain ⟨cs0, hcl, hB2⟩ : ∃ cs0 : Array Value, cs0.size = es.length * 3 /\ Blk w2 w1.heap.size 174 cs0 := ⟨_, by simp [size_madeCells]; omega, own_fullN ho2⟩
    have hb2 : Below w1.heap.size w1 w2 := below_grown hg2
    have hB2lt : w1.heap.size < w2.heap.size := hB2.lt
    clear ho2 hg2 him hi0 hi1 hi2
    go_wp2_with fail
    go_loopg [28] es.length (fun k q28 wr => BChgR w2 w1.heap.size p s m2 vm o es k q28 wr)
    case atStart => exact ⟨0, cs0, rfl, hB2, hcl, Lib.hid (by simp [mvFlat]), by
        have := hp1.below hb2
        simpa [opC] using this, Fr.refl _ _, by omega, by omega⟩
    case round =>
      obtain ⟨j, cs, rfl, hB, hcs, htk, hP, hF, hj, hgk⟩ := hrel
      obtain ⟨w3, hw3⟩ : ∃ x, x = wr := ⟨_, rfl⟩
      subst hw3
      by_cases hlt : j < k
      · have hE3 : EdsAt w3 D' A k es := (HE1.out.below hb2).fr hF (fun b hb _ hs => hs.elim (fun e => by have := (hD' b hb).2.2.2; omega) (fun e => (hD' b hb).2.2.1 e))
        obtain ⟨eb, eo, ed, rfl, hed, hD2, z0, z1, z2⟩ := hE3.at_ hlt
        have e3 := take_snoc es j ed hed
        have hput := (hE3.put ed (List.mem_of_getElem? hed)).len
        have hbx := Blk.new w3 80 #[.int .i64 ed.f, .int .i64 ed.t, .slice ed.A ed.n ed.c]
        have hB3 := hB.alloc (.cells #[.int .i64 ed.f, .int .i64 ed.t, .slice ed.A ed.n ed.c] 80)
        have hP3 := hP.alloc (.cells #[.int .i64 ed.f, .int .i64 ed.t, .slice ed.A ed.n ed.c] 80)
        have hlb := hB.lt
        have hlp := hP.lt
        have hbp : w1.heap.size ≠ p := Blk.ne_ hB hP (by decide)
        obtain ⟨ef, et, eA, en, ec, eput⟩ := ed
        dsimp only at z0 z1 z2 hput hbx hB3 hP3
        have HED := Lib.hid hed
        have HE3 := Lib.hid e3
        clear hed e3 hE3
        go_upto_region 10 with fail
        obtain ⟨w4, hw4⟩ : ∃ w4, w3.alloc (.cells #[.int .i64 ef, .int .i64 et, .slice eA en ec] 80) = w4 := ⟨_, rfl⟩
        rw [hw4] at hbx hB3 hP3 ⊢
        have hF4 : Fr (fun x => x = w1.heap.size \/ x = p) w2 w4 := by rw [<- hw4]; exact hF.alloc _
        have hw4s : w4.heap.size = w3.heap.size + 1 := by rw [<- hw4]; simp
        clear hw4
        obtain ⟨u0, hu0⟩ : ∃ u, cs[j * 3]? = some u := ⟨cs[j * 3]'(by omega), Array.getElem?_eq_getElem (by omega)⟩
        obtain ⟨u1, hu1⟩ : ∃ u, cs[j * 3 + 1]? = some u := ⟨cs[j * 3 + 1]'(by omega), Array.getElem?_eq_getElem (by omega)⟩
        obtain ⟨u2, hu2⟩ : ∃ u, cs[j * 3 + 2]? = some u := ⟨cs[j * 3 + 2]'(by omega), Array.getElem?_eq_getElem (by omega)⟩
        have r0 := hB3.cell (j * 3)
        have r1 := hB3.cell (j * 3 + 1)
        have r2 := hB3.cell (j * 3 + 2)
        rw [hu0] at r0
        rw [hu1] at r1
        rw [hu2] at r2
        have f0 := hB3.frozen (j * 3)
        have f1 := hB3.frozen (j * 3 + 1)
        have f2 := hB3.frozen (j * 3 + 2)
        have x0 := hbx.cell 0
        have x1 := hbx.cell 1
        have x2 := hbx.cell 2
        simp at x0 x1 x2
        clear hu0 hu1 hu2 z0 z1 z2
        go_upto_region 11 with fail
        have hB5 := ((hB3.set_ (j * 3) (.int .i64 ef)).set_ (j * 3 + 1) (.int .i64 et)).set_ (j * 3 + 2) (.int .i64 en)
        have hP5 := ((hP3.far (p := ⟨w1.heap.size, j * 3, none⟩) (Ne.symm hbp) (.int .i64 ef)).far (p := ⟨w1.heap.size, j * 3 + 1, none⟩) (Ne.symm hbp) (.int .i64 et)).far (p := ⟨w1.heap.size, j * 3 + 2, none⟩) (Ne.symm hbp) (.int .i64 en)
        have hX5 := ((hbx.far (p := ⟨w1.heap.size, j * 3, none⟩) (by dsimp only; omega) (.int .i64 ef)).far (p := ⟨w1.heap.size, j * 3 + 1, none⟩) (by dsimp only; omega) (.int .i64 et)).far (p := ⟨w1.heap.size, j * 3 + 2, none⟩) (by dsimp only; omega) (.int .i64 en)
        have hF5 := ((hF4.setCell (p := ⟨w1.heap.size, j * 3, none⟩) (.inl (.inl rfl)) (.int .i64 ef)).setCell (p := ⟨w1.heap.size, j * 3 + 1, none⟩) (.inl (.inl rfl)) (.int .i64 et)).setCell (p := ⟨w1.heap.size, j * 3 + 2, none⟩) (.inl (.inl rfl)) (.int .i64 en)
        have hcs5 : (((cs.setIfInBounds (j * 3) (.int .i64 ef)).setIfInBounds (j * 3 + 1) (.int .i64 et)).setIfInBounds (j * 3 + 2) (.int .i64 en)).toList.take ((j + 1) * 3) = mvFlat ((es.take (j + 1)).map mvOf) := by
          rw [set3_take cs j _ _ _ (by omega), htk.out, HE3.out, List.map_append]
          unfold mvFlat
          rw [List.flatMap_append]
          rfl
        have hcz : (((cs.setIfInBounds (j * 3) (.int .i64 ef)).setIfInBounds (j * 3 + 1) (.int .i64 et)).setIfInBounds (j * 3 + 2) (.int .i64 en)).size = es.length * 3 := by simp [hcs]
        have hany : (o.changed || (es.take (j + 1)).any chg) = ((o.changed || (es.take j).any chg) || chg ⟨ef, et, eA, en, ec, eput⟩) := by
          rw [HE3.out, List.any_append]
          simp [Bool.or_assoc]
        obtain ⟨w5, hw5⟩ : ∃ w5, ((w4.setCell ⟨w1.heap.size, j * 3, none⟩ (.int .i64 ef)).setCell ⟨w1.heap.size, j * 3 + 1, none⟩ (.int .i64 et)).setCell ⟨w1.heap.size, j * 3 + 2, none⟩ (.int .i64 en) = w5 := ⟨_, rfl⟩
        rw [hw5] at hB5 hP5 hX5 hF5 ⊢
        have hgb5 := (hgb1.below hb2).fr hF5 (fun hs => by
          rcases hs with h1 | h1
          · have := hgb1.lt; omega
          · exact Blk.ne_ (hgb1.below hb2) (hp1.below hb2) (by decide) h1)
        have x0' := hX5.cell 0
        have x1' := hX5.cell 1
        have x2' := hX5.cell 2
        have g6 := hgb5.cell 6
        have p9 := hP5.cell 9
        have pf9 := hP5.frozen 9
        simp [opC] at x0' x1' x2' g6 p9
        have HB5 := Lib.hid hB5
        have HP5 := Lib.hid hP5
        have HF5 := Lib.hid hF5
        have HCS5 := Lib.hid hcs5
        have HCZ := Lib.hid hcz
        have HANY := Lib.hid hany
        clear hB5 hP5 hX5 hF5 hcs5 hcz hany hw5 hB3 hP3 hbx r0 r1 r2 f0 f1 f2 x0 x1 x2 hB hP hF hF4 htk hcs
        have hfin1 : chg ⟨ef, et, eA, en, ec, eput⟩ = true -> BChgR w2 w1.heap.size p s m2 vm o es (es.length - (j + 1)) (.int .i64 ((j + 1 : Nat) : Int)) (w5.setCell ⟨p, 9, none⟩ (.bool true)) := by
          intro hc
          refine ⟨j + 1, _, rfl, HB5.out.far (p := ⟨p, 9, none⟩) hbp _, HCZ.out, Lib.hid HCS5.out, (HP5.out.set_ 9 _).eq_ ?_, HF5.out.setCell (p := ⟨p, 9, none⟩) (.inl (.inr rfl)) _, by omega, by omega⟩
          rw [HANY.out, hc]
          simp [opC]
        have hfin2 : chg ⟨ef, et, eA, en, ec, eput⟩ = false -> BChgR w2 w1.heap.size p s m2 vm o es (es.length - (j + 1)) (.int .i64 ((j + 1 : Nat) : Int)) w5 := by
          intro hc
          refine ⟨j + 1, _, rfl, HB5.out, HCZ.out, Lib.hid HCS5.out, HP5.out.eq_ ?_, HF5.out, by omega, by omega⟩
          rw [HANY.out, hc, Bool.or_false]
        have HFIN1 := Lib.hid hfin1
        have HFIN2 := Lib.hid hfin2
        clear hfin1 hfin2
        have ej : ((j + 1 : Nat) : Int) = (j : Int) + 1 := by omega
        rw [ej] at HFIN1 HFIN2
        by_cases hc1 : ef < et
        · have q1 : (ef < et) = True := eq_true hc1
          have HC := Lib.hid (HFIN1.out (by unfold chg; simp [hc1]))
          clear hc1
          go_wp2_with fail
          go_roundg (es.length - (j + 1))
          case measure => omega
          case rel => exact HC.out
        · have q1 : (ef < et) = False := eq_false hc1
          by_cases hc2 : 0 < en
          · have q2 : ((0 : Int) < (en : Int)) = True := by simp; omega
            have q3 : (0 < en) = True := by simp; omega
            have HC := Lib.hid (HFIN1.out (by unfold chg; simp [hc2]))
            clear hc1 hc2
            go_wp2_with fail
            go_roundg (es.length - (j + 1))
            case measure => omega
            case rel => exact HC.out
          · have q2 : ((0 : Int) < (en : Int)) = False := by simp; omega
            have q3 : (0 < en) = False := by simp; omega
            have HC := Lib.hid (HFIN2.out (by unfold chg; simp [hc1, hc2]))
            clear hc1 hc2
            go_wp2_with fail
            go_roundg (es.length - (j + 1))
            case measure => omega
            case rel => exact HC.out
      · have hjk : j = es.length := by omega
        subst hjk
        have htk' := htk.out
        rw [List.take_of_length_le (by rw [Array.length_toList]; omega), List.take_length] at htk'
        rw [List.take_length] at hP
        have hgb3 := (hgb1.below hb2).fr hF (fun hs => by
          rcases hs with h1 | h1
          · have := hgb1.lt; omega
          · exact Blk.ne_ (hgb1.below hb2) (hp1.below hb2) (by decide) h1)
        have hvm1 : w1.ownsRow N 103 1 vm vs.length vs := own_fr' hvm HS1.out.fr (fun b cs' hs hc => nown hc (by decide) (by decide) hs)
        have hvm3 : w3.ownsRow N 103 1 vm vs.length vs := own_fr' (own_bel hvm1 hb2) hF (fun b cs' hs hc => by
          rcases hs with h1 | h1
          · exact Blk.ne_ hc hB2 (by decide) h1
          · exact Blk.ne_ hc (hp1.below hb2) (by decide) h1)
        obtain ⟨Av, cv, rfl, hcv⟩ := own_slice hvm3
        have hz3 : N <= w3.heap.size := by have := HH.out.nle; have := hb2.size; have := hF.size; omega
        have S0f : ∀ w', Fr (OwnB (.slice Av vs.length cv)) w3 w' -> Blk w' gb 87 #[.pointer (some ⟨g, 0, none⟩), .int .i64 st.depth, vu, vr, .map (some m), .slice none 0 0, .pointer (some ⟨p, 0, none⟩), .int .i64 st.state, .int .i64 st.saved, .int .i64 st.last] /\ Blk w' p 198 (opC s m2 (.slice Av vs.length cv) o (o.changed || es.any chg)) /\ Blk w' w1.heap.size 174 cs := fun w' hf =>
          ⟨hgb3.fr hf (own_blk_ne hvm3 hgb3 (by decide)), hP.fr hf (own_blk_ne hvm3 hP (by decide)), hB.fr hf (own_blk_ne hvm3 hB (by decide))⟩
        have hvl : vs.length <= 1048576 := by have := hmv.1; omega
        have hS1f := HS1.out.fr
        have hfin : ∀ wq w7 u, Fr (OwnB (.slice Av vs.length cv)) w3 wq -> wq.ownsRow N 103 1 u (vs.length + 1) (vs ++ [.slice (some ⟨w1.heap.size, 0, none⟩) k k]) -> Below (wq.setCell ⟨p, 4, none⟩ u).heap.size (wq.setCell ⟨p, 4, none⟩ u) w7 ->
            BChgPost N B gb g enc lim n add st o m vu vr (some ⟨p, 0, none⟩) es w w7 := by
          intro wq w7 u hfq hu hb7
          obtain ⟨k1, k2, k3⟩ := S0f wq hfq
          have hF17 : Fr (fun x => x = p \/ OwnB (.slice Av vs.length cv) x) w1 w7 := by
            have a1 : Fr (fun x => x = p \/ OwnB (.slice Av vs.length cv) x) w1 w2 := Fr.of_below hb2
            have a2 := a1.call hF (fun i hi hs => by
              rcases hs with h1 | h1
              · omega
              · exact .inl h1)
            have a3 := a2.call hfq (fun i hi hs => .inr hs)
            exact (a3.setCell (p := ⟨p, 4, none⟩) (.inl (.inl rfl)) u).bel hb7
          have hPq := ((k2.set_ 4 u).below hb7).eq_ (show (opC s m2 (.slice Av vs.length cv) o (o.changed || es.any chg)).setIfInBounds 4 u = opC s m2 u o (o.changed || es.any chg) by simp [opC])
          have huq := own_bel (own_set_far (i := 4) (u := u) hu k2 (by decide)) hb7
          have hBq := (k3.far (p := ⟨p, 4, none⟩) (Blk.ne_ k3 k2 (by decide)) u).below hb7
          refine ⟨n1, add1, t1, a1, xs1, HH.out.changed (ch := o.changed || es.any chg) (by simpa [opC] using hp0) hm2 hsn hvm hmv hom HT1.out HS1.out (by rw [HD1.out]; exact HSZ.out) HA1.out hF17 hPq huq hBq htk' hml, hn1, ?_⟩
          refine (BkFr.of_fr hS1f (fun b hb hs => ?_)).trans (BkFr.of_fr hF17 (fun b hb hs => ?_))
          · rcases hs with rfl | hs
            · exact ⟨HH.out.low.2.1, _, _, HH.out.text.blk, .inl rfl⟩
            · rcases HH.out.text.row.2 with ⟨e0, _⟩ | ⟨r, c', cur, e0, hlo, h2, _⟩
              · rw [e0] at hs; cases hs
              · rw [e0] at hs
                have : r = b := by simpa [Value.ownBlock] using hs
                subst this
                exact ⟨hlo, _, _, h2, .inr (.inl rfl)⟩
          · rcases hs with rfl | hs
            · exact ⟨HH.out.low.2.2.2 _ rfl, _, _, hp1, .inr (.inr (.inr (.inl rfl)))⟩
            · rcases hvm1.2 with ⟨e0, _⟩ | ⟨r, c', cur, e0, hlo, h2, _⟩
              · unfold OwnB at hs; rw [e0] at hs; cases hs
              · unfold OwnB at hs
                rw [e0] at hs
                have : r = b := by simpa [Value.ownBlock] using hs
                subst this
                exact ⟨Nat.le_trans HH.out.low.2.2.1 hlo, _, _, h2, .inr (.inr (.inr (.inr (.inl rfl))))⟩
        have hfol : ∀ wq u, Fr (OwnB (.slice Av vs.length cv)) w3 wq -> Calls Tryz.prog 57 #[.pointer (some ⟨gb, 0, none⟩), .slice (some ⟨w1.heap.size, 0, none⟩) k k] (wq.setCell ⟨p, 4, none⟩ u) fun e w' => e = .returned (.tuple #[]) /\ Below (wq.setCell ⟨p, 4, none⟩ u).heap.size (wq.setCell ⟨p, 4, none⟩ u) w' := by
          intro wq u hfq
          obtain ⟨k1, k2, k3⟩ := S0f wq hfq
          have hm1 := HS1.out.map HH.out.text.row HH.out.text.blk HH.out.map
          have hm3 : MapE w3 st.mb m := (hm1.below hb2).fr hF (fun hs => by
            rcases hs with h1 | h1
            · exact (hm1.below hb2).ne_blk hB2 h1
            · exact (hm1.below hb2).ne_blk (hp1.below hb2) h1)
          have hmq : MapE wq st.mb m := hm3.fr hfq (fun hs => by
            rcases hvm3.2 with ⟨e0, _⟩ | ⟨r, c', cur, e0, _, h2, _⟩
            · unfold OwnB at hs; rw [e0] at hs; cases hs
            · unfold OwnB at hs
              rw [e0] at hs
              have : r = m := by simpa [Value.ownBlock] using hs
              subst this
              exact hm3.ne_blk h2 rfl)
          exact follow_none _ gb m _ _ (k1.far (p := ⟨p, 4, none⟩) (Blk.ne_ k1 k2 (by decide)) u) rfl rfl (hmq.far (fun e => hmq.ne_blk k2 e) u).1
        have HS0 := Lib.hid S0f
        have HFIN := Lib.hid hfin
        have HFOL := Lib.hid hfol
        have HVM := Lib.hid hvm3
        obtain ⟨ir, hir, hr0, hr1, hr2⟩ := info_parts rows_info
        clear S0f hfin hfol hS1f hvm3 hvm1 hvm hmv hsn hm2 hp0 hp1 hgb1 hgb3 hB hP hF htk hB2 hb2 htk' hcs nown
        go_wp2_with fail
        refine wp_region_lin (fun w' => w'.cell? ⟨gb, 6, none⟩ = some (.pointer (some ⟨p, 0, none⟩)) /\ w'.cell? ⟨p, 4, none⟩ = some (.slice Av vs.length cv)) (fun w' => w' = w3.drew) (fun k => k == 13 || k == 14 || k == 18) (fun k => k == 18) (fun _ => false) (by kernel_rfl) (by kernel_rfl) (rfl) (fun w' h => by subst h; exact ⟨(HS0.out _ (Fr.refl _ _).drew).1.cell 6, (HS0.out _ (Fr.refl _ _).drew).2.1.cell 4⟩) ?_
        repeat ((first
          | (refine wpL_read (v := ?_) (by rfl) (by rfl) (fun w6 hSw => ?_) ?_; rotate_left; (· (obtain ⟨y0, y1⟩ := hSw; go_simp; try with_reducible rfl)))
          | (refine wpL_free (v := ?_) (by rfl) (fun w6 => ?_) ?_; rotate_left; (· (go_simp; try with_reducible rfl)))
          | refine wpL_not (by rfl) ?_); (try simp only [Act.put, pA, pB, pC]))
        refine wpL_heavy (fun u w' => u = .slice (some ⟨w3.heap.size, 0, none⟩) 1 1 /\ w' = w3.drew.alloc (.cells #[.slice (some ⟨w1.heap.size, 0, none⟩) k k] 103)) (by rfl) (by rfl) (fun w6 hSw => ?_) (.inr (fun v6 w6 hT6 => ?_)) (fun v6 hv6 => ?_)
        · (subst hSw; go_simp; exact ⟨rfl, rfl⟩)
        · (obtain ⟨-, rfl⟩ := hT6; exact ⟨(HS0.out _ ((Fr.refl _ _).drew.alloc _)).1.cell 6, (HS0.out _ ((Fr.refl _ _).drew.alloc _)).2.1.cell 4⟩)
        obtain ⟨wz, rfl, -⟩ := hv6
        (try simp only [Act.put, pA, pB, pC])
        refine wpL_heavy (fun u w' => w'.ownsRow N 103 1 u (vs.length + 1) (vs ++ [.slice (some ⟨w1.heap.size, 0, none⟩) k k]) /\ Fr (OwnB (.slice Av vs.length cv)) w3 w') (by rfl) (by rfl) (fun w6 hSw => ?_) (.inr (fun v6 w6 hT6 => ?_)) (fun v6 hv6 => ?_)
        · (obtain ⟨-, rfl⟩ := hSw; exact hrun_append_own 99 rfl N 103 ir (.slice none 0 0) 1 24 Tryz.underlying99 hir hr0 hr1 hr2 rfl (by decide) (.slice Av vs.length cv) vs.length vs rfl ((own_bel HVM.out (Below.refl _ _).drew).alloc _) ⟨w3.heap.size, 0, none⟩ 1 1 [.slice (some ⟨w1.heap.size, 0, none⟩) k k] rfl rfl (cell_one_new w3.drew _ _) (by simp [Value.oneCell']) (by unfold maxLen; omega) (by omega) (by simp; omega) (fun v' w' ho' hg' _ _ => ⟨ho', ((Fr.refl _ _).drew.alloc _).grown hg' (fun k hk _ => hk)⟩))
        · (exact ⟨(HS0.out _ hT6.2).1.cell 6, (HS0.out _ hT6.2).2.1.cell 4⟩)
        obtain ⟨wz, hz7, -⟩ := hv6; obtain ⟨A7, c7, rfl, -⟩ := own_slice hz7
        (try simp only [Act.put, pA, pB, pC])
        repeat ((first
          | (refine wpL_read (v := ?_) (by rfl) (by rfl) (fun w6 hSw => ?_) ?_; rotate_left; (· (obtain ⟨y0, y1⟩ := hSw; go_simp; try with_reducible rfl)))
          | (refine wpL_free (v := ?_) (by rfl) (fun w6 => ?_) ?_; rotate_left; (· (go_simp; try with_reducible rfl)))
          | refine wpL_not (by rfl) ?_); (try simp only [Act.put, pA, pB, pC]))
        refine wpL_heavy (fun _ w' => ∃ wq, (wq.ownsRow N 103 1 (.slice A7 (vs.length + 1) c7) (vs.length + 1) (vs ++ [.slice (some ⟨w1.heap.size, 0, none⟩) k k]) /\ Fr (OwnB (.slice Av vs.length cv)) w3 wq) /\ w' = wq.setCell ⟨p, 4, none⟩ (.slice A7 (vs.length + 1) c7)) (by rfl) (by rfl) (fun w6 hSw => ?_) (.inl (by rfl)) (fun v6 hv6 => ?_)
        · (have y2 := (HS0.out _ hSw.2).2.1.cell 4; have y3 := (HS0.out _ hSw.2).2.1.frozen 4; simp [opC] at y2; go_simp; exact ⟨w6, hSw, rfl⟩)
        skip
        (try simp only [Act.put, pA, pB, pC])
        refine wpL_nil ?_
        rintro w4 ⟨wq, ⟨hu, hfq⟩, rfl⟩
        have HU := Lib.hid hu
        have HFQ := Lib.hid hfq
        clear hu hfq
        go_wp2_with fail
        refine (HFOL.out wq _ HFQ.out).mono ?_
        rintro e w7 ⟨rfl, hb7⟩
        have HP := Lib.hid (HFIN.out wq w7 _ HFQ.out HU.out hb7)
        clear hb7
        go_wp2_with fail
        go_ret
        exact ⟨rfl, fun h => absurd rfl h, fun _ => HP.out⟩
  · obtain ⟨E, hE⟩ : ∃ E, refF enc lim (sizedA enc st.ats) es = E := ⟨_, rfl⟩
    rw [hE] at hK hz ⊢
    have q2 : (E != 0) = true := by rw [bne_iff_ne]; exact hz
    have HK := Lib.hid hK
    have HZ := Lib.hid hz
    clear hK hE hz h he hds hop
    go_enter Tryz.func83, Tryz.ntmps83
    go_wp2_with fail
    refine (HK.out).mono ?_
    rintro e w1 ⟨rfl, hb1, -⟩
    have HB1 := Lib.hid hb1
    clear hb1
    go_wp2_with fail
    go_ret
    exact ⟨rfl, fun h => HB1.out HZ.out, fun h => absurd h HZ.out⟩
theorem shut_deferred (gb : Nat) (cs : Array Value) (p : Option Addr) (u : FrameMode) (w : World) (hb : Blk w gb 87 cs) (h6 : cs[6]? = some (.pointer p)) :
  CallsD Tryz.prog 123 #[.pointer (some ⟨gb, 0, none⟩)] u w fun e u' w' => u' = u /\ (e = .returned (.tuple #[]) /\ w' = w.setCell ⟨gb, 6, none⟩ (.pointer none)) := by
 have c6 := hb.cell 6
 have f6 := hb.frozen 6
 rw [h6] at c6
 go_enter_d Tryz.func123, Tryz.ntmps123
 go_wp2
 go_end0
 exact ⟨rfl, rfl⟩
theorem BkAt.book {w w' : World} {N B gb g n m : Nat} {enc lim : Int} {add vu vr : Value} {st : BkS} {t : Tr} {a : Option Addr} {xs : List Value} {now : Option Addr} (h : BkAt w N B gb g enc lim n add st t a xs m vu vr now) (hf : Fr (· = gb) w w') :
  TextM w' B g enc lim n add t a xs /\ MapE w' st.mb m /\ StackAt w' N B g add n enc vu st.undo /\ StackAt w' N B g add n enc vr st.redo /\ GKeep N add add n n enc w w' /\ N <= w'.heap.size := by
 have hK : GKeep N add add n n enc w w' := GKeep.far hf (fun k _ hk => hk ▸ Far2.blk h.blk (by decide))
 have hown : ∀ v' k' ys, w.ownsRow B 96 1 v' k' ys -> w'.ownsRow B 96 1 v' k' ys := fun v' k' ys ho => own_fr' ho hf (fun b cs' hs hc => Blk.ne_ hc h.blk (by decide) hs)
 exact ⟨h.text.far hf (fun k _ hk => hk ▸ Far.blk h.blk (by decide)), h.map.fr hf (fun e => h.map.ne_blk h.blk e), h.undo.keep hK (Nat.le_refl _) (hown _), h.redo.keep hK (Nat.le_refl _) (hown _), hK, Nat.le_trans h.nle hf.size⟩
theorem BkAt.below {w w' : World} {N B gb g n m : Nat} {enc lim : Int} {add vu vr : Value} {st : BkS} {t : Tr} {a : Option Addr} {xs : List Value} {now : Option Addr} (h : BkAt w N B gb g enc lim n add st t a xs m vu vr now) (hb : Below w.heap.size w w') : BkAt w' N B gb g enc lim n add st t a xs m vu vr now := by
 have hK : GKeep N add add n n enc w w' := GKeep.below h.text.row h.text.blk hb
 refine ⟨h.blk.below hb, h.text.below hb, h.ats, h.sz, h.lim0, h.map.below hb, h.undo.keep hK (Nat.le_refl _) (fun _ _ ho => own_bel ho hb), h.redo.keep hK (Nat.le_refl _) (fun _ _ ho => own_bel ho hb), h.sep, ?_, Nat.le_trans h.nle hb.size, h.nums, h.low⟩
 have ho := h.open_
 cases hn : st.now with
 | none => rw [hn] at ho; exact ho
 | some o =>
  rw [hn] at ho
  obtain ⟨p, e, s, m2, vm, vs, h1, h2, h3, h4, h5, h6⟩ := ho
  exact ⟨p, e, s, m2, vm, vs, h1.below hb, h2.below hb, h3.keep hK, own_bel h4 hb, (h5.keep (KeepTy.below hb)).mono hb.size, h6⟩
theorem BkAt.shut {w : World} {N B gb g n m : Nat} {enc lim : Int} {add vu vr : Value} {st : BkS} {t : Tr} {a : Option Addr} {xs : List Value} {now : Option Addr} (h : BkAt w N B gb g enc lim n add st t a xs m vu vr now) :
  BkAt (w.setCell ⟨gb, 6, none⟩ (.pointer none)) N B gb g enc lim n add { st with now := none } t a xs m vu vr none := by
 obtain ⟨h1, h2, h3, h4, _, h6⟩ := h.book ((Fr.refl _ _).set1 6 (.pointer none))
 exact ⟨(h.blk.set_ 6 _).eq_ rfl, h1, h.ats, h.sz, h.lim0, h2, h3, h4, h.sep, rfl, h6, h.nums, ⟨h.low.1, h.low.2.1, h.low.2.2.1, fun _ e => by cases e⟩⟩
theorem BkFr.book {B : Nat} {w w' : World} {gb : Nat} {cs : Array Value} (hb : Blk w gb 87 cs) (hB : B <= gb) (hf : Fr (· = gb) w w') : BkFr B w w' := BkFr.of_fr hf (fun b _ hs => ⟨hs ▸ hB, _, _, hs ▸ hb, .inr (.inr (.inl rfl))⟩)
theorem end_none (N B gb g : Nat) (enc lim : Int) (n : Nat) (add : Value) (st : BkS) (t : Tr) (a : Option Addr) (xs : List Value) (m : Nat) (vu vr : Value) (now : Option Addr) (o : OpS) (x : Int) (w : World) (h : BkAt w N B gb g enc lim n add st t a xs m vu vr now) (hn : st.now = some o) (hx : 0 <= x /\ x <= (st.ats.length : Int)) (hc : o.changed = false) :
  Calls Tryz.prog 77 #[.pointer (some ⟨gb, 0, none⟩), .int .i64 x] w fun e w' => e = .returned (.int .i64 0) /\ BkAt w' N B gb g enc lim n add { st with now := none } t a xs m vu vr none /\ BkFr B w w' := by
 have hop := h.open_
 rw [hn] at hop
 obtain ⟨p, rfl, s, m2, vm, vs, hp0, hm2, hsn, hvm, hmv, hml2⟩ := hop
 have hal : (atsL enc t.list).length = (decL enc t.list).length := atsL_len enc _
 have hki := inside_any gb g _ Any enc (decL enc t.list) x w h.blk rfl ⟨lim, t, a, add, h.text.text, rfl⟩
 have hq : decide (0 <= x /\ x <= ((decL enc t.list).length : Int)) = true := by
  rw [<- hal, h.ats]
  simpa using hx
 rw [hq] at hki
 have HKI := Lib.hid hki
 have HH := Lib.hid h
 have c6 := h.blk.cell 6
 simp at c6
 rw [hc] at hp0
 have HP0 := Lib.hid hp0
 clear h hki hq hal hm2 hsn hvm hmv hp0
 go_enter_defers Tryz.func77, Tryz.ntmps77
 go_wp2_with fail
 refine (HKI.out).mono ?_
 rintro e w1 ⟨rfl, hb1⟩
 have hgb1 := HH.out.blk.below hb1
 have c61 := hgb1.cell 6
 have c91 := (HP0.out.below hb1).cell 9
 simp at c61 c91
 go_wp2_with fail
 refine leaves_cons (f := 123) (args := #[.pointer (some ⟨gb, 0, none⟩)]) (by simp) (by simp [go_sem]) ?_
 refine (shut_deferred gb _ _ .returning _ hgb1 rfl).mono ?_
 rintro e u' w'' ⟨rfl, rfl, rfl⟩
 refine ⟨_, results_tmp rfl _ _ _, rfl, (HH.out.below hb1).shut, ?_⟩
 exact (BkFr.below hb1).trans (BkFr.book hgb1 HH.out.low.1 ((Fr.refl _ _).set1 6 _))
theorem own_pop {w : World} {B e n c : Nat} {A : Option Addr} {xs : List Value} {x : Value} (h : w.ownsRow B e 1 (.slice A (n + 1) c) (n + 1) (xs ++ [x])) :
  ∃ b, A = some ⟨b, 0, none⟩ /\ B <= b /\ n + 1 <= c /\ c <= maxLen /\ (∃ cs, Blk w b e cs) /\ w.cell? ⟨b, n, none⟩ = some x /\ w.ownsRow B e 1 (.slice (some ⟨b, 0, none⟩) n c) n xs := by
 have hl : xs.length = n := by have := h.1; simp at this; omega
 rcases h.2 with ⟨e0, _⟩ | ⟨g, cap, cur, e1, hb, hg, h1, h2, h3, h4⟩
 ·cases e0
 ·injection e1 with e1 e2 e3
  subst e1
  subst e3
  have hk : Blk w g e cur := hg
  refine ⟨g, rfl, hb, h1, h2, ⟨cur, hk⟩, ?_, by simp [hl], .inr ⟨g, c, cur, rfl, hb, hg, by omega, h2, h3, ?_⟩⟩
  ·rw [hk.cell, <- Array.getElem?_toList]
   have h5 : (cur.toList.take ((n + 1) * 1))[n]? = some x := by
    rw [h4, List.getElem?_append_right (by omega), hl]
    simp
   rw [List.getElem?_take] at h5
   split at h5
   ·exact h5
   ·cases h5
  ·have h6 : (cur.toList.take ((n + 1) * 1)).take (n * 1) = xs := by
    rw [h4, List.take_append_of_le_length (by omega), List.take_of_length_le (by omega)]
   rw [List.take_take, Nat.min_eq_left (by omega)] at h6
   exact h6
theorem StackAt.last {w : World} {N B g n : Nat} {add v : Value} {enc : Int} {us : List Gr} {G : Gr} (h : StackAt w N B g add n enc v (us ++ [G])) :
  ∃ b c q, v = .slice (some ⟨b, 0, none⟩) (us.length + 1) c /\ us.length + 1 <= c /\ c <= maxLen /\ us.length < 1048576 /\ (∃ cs, Blk w b 96 cs) /\ w.cell? ⟨b, us.length, none⟩ = some (.pointer (some ⟨q, 0, none⟩)) /\
   GrAt w N g add n enc q G /\ StackAt w N B g add n enc (.slice (some ⟨b, 0, none⟩) us.length c) us := by
 obtain ⟨ps, h1, h2, h3, h4⟩ := h
 rcases List.eq_nil_or_concat ps with rfl | ⟨qs, q, rfl⟩
 ·simp at h2
 ·simp only [List.concat_eq_append, List.length_append, List.length_singleton, List.map_append, List.map_cons, List.map_nil] at h1 h2 h3 h4
  have hql : qs.length = us.length := by omega
  rw [hql] at h1
  obtain ⟨A, c, rfl, hc⟩ := own_slice h1
  obtain ⟨b, rfl, hb, hc1, hc2, hbk, hcell, hown⟩ := own_pop h1
  refine ⟨b, c, q, rfl, hc1, hc2, by omega, hbk, hcell, h3 us.length q G ?_ ?_, qs, ?_, hql, fun i p' G' hi hG => h3 i p' G' ?_ ?_, by omega⟩
  ·rw [<- hql, List.getElem?_append_right (Nat.le_refl _)]; simp
  ·rw [List.getElem?_append_right (Nat.le_refl _)]; simp
  ·rw [hql]; exact hown
  ·rw [List.getElem?_append_left (List.getElem?_eq_some_iff.1 hi).1]; exact hi
  ·rw [List.getElem?_append_left (List.getElem?_eq_some_iff.1 hG).1]; exact hG
theorem StackAt.push {w w' : World} {N B g n : Nat} {add v' : Value} {enc : Int} {Gs : List Gr} {G : Gr} {q : Nat} {ps : List Nat} (hps : ps.length = Gs.length) (hpg : ∀ (i p : Nat) (G : Gr), ps[i]? = some p -> Gs[i]? = some G -> GrAt w N g add n enc p G) (hK : GKeep N add add n n enc w w')
  (hq : GrAt w N g add n enc q G) (hv : w'.ownsRow B 96 1 v' (ps.length + 1) ((ps.map fun p => Value.pointer (some ⟨p, 0, none⟩)) ++ [.pointer (some ⟨q, 0, none⟩)])) (hl : Gs.length < 1048576) : StackAt w' N B g add n enc v' (Gs ++ [G]) := by
 refine ⟨ps ++ [q], by simpa using hv, by simp [hps], fun i p G' hi hG => ?_, by simp; omega⟩
 rcases Nat.lt_or_ge i ps.length with hlt | hge
 ·rw [List.getElem?_append_left hlt] at hi
  rw [List.getElem?_append_left (by omega)] at hG
  exact (hpg i p G' hi hG).keep hK
 ·rw [List.getElem?_append_right hge] at hi
  rw [List.getElem?_append_right (by omega), <- hps] at hG
  have hi0 : i - ps.length = 0 := by
   rcases Nat.eq_zero_or_pos (i - ps.length) with h0 | h0
   ·exact h0
   ·rw [List.getElem?_eq_none (by simp; omega)] at hi
    cases hi
  rw [hi0] at hi hG
  simp at hi hG
  subst hi
  subst hG
  exact hq.keep hK
end Go.Proofs.YtkoakanpaehkmaaGreatDoor
