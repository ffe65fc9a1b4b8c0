/-
  The walk of Book.Begin.
-/
import Derived.Test.YtgiihhikdoikgaaGreatLMapIs
import Derived.Test.YtgiihhikdoikgaaGreatLSame
set_option linter.unusedSimpArgs false
set_option linter.unusedVariables false
set_option maxRecDepth 100000
set_option maxHeartbeats 32000000
namespace Go.Proofs.YtgiihhikdoikgaaGreat
open Go.RowKit
theorem SnapAt.set {w : World} {g n s p i : Nat} {add u : Value} {enc : Int} {ats : List (Int × Int)} {T : TypeId} {cs : Array Value} (h : SnapAt w g add n enc s ats) (hp : Blk w p T cs) (hT : T ≠ 226 /\ T ≠ 104 /\ T ≠ 147 /\ T ≠ 5) : SnapAt (w.setCell ⟨p, i, none⟩ u) g add n enc s ats := by
 obtain ⟨t, a, h1, h2, h3⟩ := h
 exact ⟨t, a, h1.far (fun e => Blk.ne_ hp h1 hT.1 e.symm) u, h2.far ((Fr.refl _ _).set1 i u) (fun k _ hk => hk ▸ Far.blk hp hT.2), h3⟩
theorem SnapAt.below {w w' : World} {B g n s : Nat} {add : Value} {enc : Int} {ats : List (Int × Int)} {xs : List Value} {cs : Array Value} (h : SnapAt w g add n enc s ats) (hr : w.ownsRow B 5 1 add n xs) (hg : Blk w g 104 cs) (hb : Below w.heap.size w w') : SnapAt w' g add n enc s ats := by
 obtain ⟨t, a, h1, h2, h3⟩ := h
 exact ⟨t, a, h1.below hb, h2.step (g := g) (TStep.below hr hb) hr hg, h3⟩
def BegS (W : World) (g n : Nat) (add : Value) (enc : Int) (ats : List (Int × Int)) (p s : Nat) (cs : Array Value) (w : World) : Prop := SnapAt w g add n enc s ats /\ W.heap.size <= s /\ Below W.heap.size W w /\ Blk w p 196 cs
theorem BegS.set {W w : World} {g n p s i : Nat} {add u : Value} {enc : Int} {ats : List (Int × Int)} {cs : Array Value} (h : BegS W g n add enc ats p s cs w) (hp : W.heap.size <= p) : BegS W g n add enc ats p s (cs.setIfInBounds i u) (w.setCell ⟨p, i, none⟩ u) :=
 ⟨h.1.set h.2.2.2 (by decide), h.2.1, h.2.2.1.setCell hp u, h.2.2.2.set_ i u⟩
theorem bbegin_any (N B gb g : Nat) (enc lim : Int) (n : Nat) (add : Value) (st : BkS) (t : Tr) (a : Option Addr) (xs : List Value) (m : Nat) (vu vr : Value) (now : Option Addr) (x : Int) (w : World) (h : BkAt w N B gb g enc lim n add st t a xs m vu vr now) (hn : st.now = none) (hx : 0 <= x /\ x <= (st.ats.length : Int)) :
  Calls Tryz.prog 90 #[.pointer (some ⟨gb, 0, none⟩), .int .i64 x] w fun e w' => e = .returned (.int .i64 0) /\ ∃ now', BkAt w' w'.heap.size B gb g enc lim n add { st with now := some ⟨st.ats, x, [], st.state, false⟩ } t a xs m vu vr now' /\ Fr (· = gb) w w' := by
 have hnow : now = none := by have := h.open_; rw [hn] at this; exact this
 subst hnow
 have hal : (atsL enc t.list).length = (decL enc t.list).length := atsL_len enc _
 have hki := inside_any gb g _ Any enc (decL enc t.list) x w h.blk rfl ⟨lim, t, a, add, h.text.text, rfl⟩
 have hq : decide (0 <= x /\ x <= ((decL enc t.list).length : Int)) = true := by
  rw [<- hal, h.ats]
  simpa using hx
 rw [hq] at hki
 have HKI := Lib.hid hki
 have HH := Lib.hid h
 have c6 := h.blk.cell 6
 have c5 := fun (w' : World) (hb : Below w.heap.size w w') => (And.intro ((h.blk.below hb).cell 5) (And.intro ((h.blk.below hb).cell 0) (And.intro ((h.blk.below hb).cell 7) ((h.blk.below hb).cell 4))))
 simp at c6
 have HC := Lib.hid c5
 clear h hki hq hal c5
 go_enter Tryz.func90, Tryz.ntmps90
 go_wp2_with fail
 refine (HKI.out).mono ?_
 rintro e w1 ⟨rfl, hb1⟩
 have hmm := @run_makeMap Tryz.prog
 obtain ⟨c5, c0, c7, c4⟩ := HC.out _ (balloc (o := .map #[] 0) hb1)
 simp at c5 c0 c7 c4
 go_wp2_with fail
 refine (clone_nil _).mono ?_
 rintro e w2 ⟨rfl, rfl⟩
 go_wp2_with fail
 have hW3 : Below w.heap.size w ((w1.alloc (.map #[] 0)).alloc (.cells #[.pointer none, .pointer none, .int .i64 0, .int .i64 0, .slice none 0 0, .int .i64 0, .int .i64 0, .map (some w1.heap.size), .slice none 0 0, .bool false] 196)) := balloc (balloc hb1)
 have hP : Blk ((w1.alloc (.map #[] 0)).alloc (.cells #[.pointer none, .pointer none, .int .i64 0, .int .i64 0, .slice none 0 0, .int .i64 0, .int .i64 0, .map (some w1.heap.size), .slice none 0 0, .bool false] 196)) (w1.heap.size + 1) 196 #[.pointer none, .pointer none, .int .i64 0, .int .i64 0, .slice none 0 0, .int .i64 0, .int .i64 0, .map (some w1.heap.size), .slice none 0 0, .bool false] := Blk.newAt (by simp)
 have hmb : st.mb < w1.heap.size := Nat.lt_of_lt_of_le HH.out.map.2.2 hb1.size
 have hE : MapE ((w1.alloc (.map #[] 0)).alloc (.cells #[.pointer none, .pointer none, .int .i64 0, .int .i64 0, .slice none 0 0, .int .i64 0, .int .i64 0, .map (some w1.heap.size), .slice none 0 0, .bool false] 196)) st.mb w1.heap.size := ⟨(EmptyMap.new w1).alloc _, Nat.ne_of_gt hmb, by rw [World.size_alloc, World.size_alloc]; omega⟩
 have hge : w.heap.size <= w1.heap.size := hb1.size
 obtain ⟨w3, hw3⟩ : ∃ w3, (w1.alloc (.map #[] 0)).alloc (.cells #[.pointer none, .pointer none, .int .i64 0, .int .i64 0, .slice none 0 0, .int .i64 0, .int .i64 0, .map (some w1.heap.size), .slice none 0 0, .bool false] 196) = w3 := ⟨_, rfl⟩
 rw [hw3] at hW3 hP hE ⊢
 have hS0 : ∀ w', Below w.heap.size w w' -> w'.cell? ⟨gb, 0, none⟩ = some (.pointer (some ⟨g, 0, none⟩)) /\ w'.cell? ⟨gb, 7, none⟩ = some (.int .i64 st.state) := fun w' hb => ⟨(HC.out _ hb).2.1, (HC.out _ hb).2.2.1⟩
 have HS0 := Lib.hid hS0
 have HE3 := Lib.hid hE
 clear hw3 hS0 hE hmb c0 c7 c5 c4
 refine wp_region_lin (fun w' => w'.cell? ⟨gb, 0, none⟩ = some (.pointer (some ⟨g, 0, none⟩)) /\ w'.cell? ⟨gb, 7, none⟩ = some (.int .i64 st.state)) (fun w' => w' = w3.drew) (fun k => k == 7 || k == 16 || k == 20 || k == 24) (fun _ => false) (fun _ => false) (by kernel_rfl) (by kernel_rfl) (rfl) (fun w' h => by subst h; exact HS0.out _ hW3.drew) ?_
 repeat ((first
  | (refine wpL_read (v := ?_) (by rfl) (by rfl) (fun w6 hSw => ?_) ?_; rotate_left; (· (obtain ⟨y0, y1⟩ := hSw; go_simp; try with_reducible rfl)))
  | (refine wpL_free (v := ?_) (by rfl) (fun w6 => ?_) ?_; rotate_left; (· (go_simp; try with_reducible rfl)))
  | refine wpL_not (by rfl) ?_); (try simp only [Act.put, pA, pB, pC]))
 refine wpL_call (f := ?_) (args := ?_) (fun v w' => ∃ s, v = .pointer (some ⟨s, 0, none⟩) /\ BegS w g n add enc st.ats (w1.heap.size + 1) s #[.pointer none, .pointer none, .int .i64 0, .int .i64 0, .slice none 0 0, .int .i64 0, .int .i64 0, .map (some w1.heap.size), .slice none 0 0, .bool false] w' /\ Below w3.heap.size w3 w') (by rfl) (by rfl) (fun w6 hSw => ?_) (fun w6 hSw => ?_) (.inr (fun v6 w6 hT6 => ?_)) (fun v6 hv6 => ?_)
 rotate_left 2
 ·(skip; go_simp; first | done | (constructor <;> with_reducible rfl) | with_reducible rfl)
 ·(subst hSw; refine (snap_any B g enc lim n add t a xs _ (HH.out.text.below hW3.drew) HH.out.sz).mono ?_; rintro e w' ⟨s, rfl, hs, hge5, hb5⟩; rw [HH.out.ats] at hs; exact ⟨_, rfl, s, rfl, ⟨hs, Nat.le_trans hW3.size hge5, bseq hW3.drew hb5, hP.drew.below hb5⟩, bdrew hb5⟩)
 ·(obtain ⟨s, -, hb, -⟩ := hT6; exact HS0.out _ hb.2.2.1)
 obtain ⟨wz, s, rfl, -⟩ := hv6
 (try simp only [Act.put, pA, pB, pC])
 repeat ((first
  | (refine wpL_read (v := ?_) (by rfl) (by rfl) (fun w6 hSw => ?_) ?_; rotate_left; (· (obtain ⟨y0, y1⟩ := hSw; go_simp; try with_reducible rfl)))
  | (refine wpL_free (v := ?_) (by rfl) (fun w6 => ?_) ?_; rotate_left; (· (go_simp; try with_reducible rfl)))
  | refine wpL_not (by rfl) ?_); (try simp only [Act.put, pA, pB, pC]))
 refine wpL_heavy (fun _ w' => BegS w g n add enc st.ats (w1.heap.size + 1) s #[.pointer (some ⟨s, 0, none⟩), .pointer none, .int .i64 0, .int .i64 0, .slice none 0 0, .int .i64 0, .int .i64 0, .map (some w1.heap.size), .slice none 0 0, .bool false] w' /\ Fr (· = w1.heap.size + 1) w3 w') (by rfl) (by rfl) (fun w6 hSw => ?_) (.inr (fun v6 w6 hT6 => ?_)) (fun v6 hv6 => ?_)
 ·(obtain ⟨s', e', hb, hbb⟩ := hSw; injection e' with e'; injection e' with e'; injection e' with e'; subst e'; have y2 := hb.2.2.2.frozen 0; have y3 := hb.2.2.2.cell 0; go_simp; exact ⟨hb.set (by omega), (Fr.of_below hbb).set1 0 _⟩)
 ·(exact HS0.out _ hT6.1.2.2.1)
 skip
 (try simp only [Act.put, pA, pB, pC])
 repeat ((first
  | (refine wpL_read (v := ?_) (by rfl) (by rfl) (fun w6 hSw => ?_) ?_; rotate_left; (· (obtain ⟨y0, y1⟩ := hSw; go_simp; try with_reducible rfl)))
  | (refine wpL_free (v := ?_) (by rfl) (fun w6 => ?_) ?_; rotate_left; (· (go_simp; try with_reducible rfl)))
  | refine wpL_not (by rfl) ?_); (try simp only [Act.put, pA, pB, pC]))
 refine wpL_heavy (fun _ w' => BegS w g n add enc st.ats (w1.heap.size + 1) s #[.pointer (some ⟨s, 0, none⟩), .pointer none, .int .i64 x, .int .i64 0, .slice none 0 0, .int .i64 0, .int .i64 0, .map (some w1.heap.size), .slice none 0 0, .bool false] w' /\ Fr (· = w1.heap.size + 1) w3 w') (by rfl) (by rfl) (fun w6 hSw => ?_) (.inr (fun v6 w6 hT6 => ?_)) (fun v6 hv6 => ?_)
 ·(obtain ⟨hb, hbb⟩ := hSw; have y2 := hb.2.2.2.frozen 2; have y3 := hb.2.2.2.cell 2; go_simp; exact ⟨hb.set (by omega), hbb.set1 2 _⟩)
 ·(exact HS0.out _ hT6.1.2.2.1)
 skip
 (try simp only [Act.put, pA, pB, pC])
 repeat ((first
  | (refine wpL_read (v := ?_) (by rfl) (by rfl) (fun w6 hSw => ?_) ?_; rotate_left; (· (obtain ⟨y0, y1⟩ := hSw; go_simp; try with_reducible rfl)))
  | (refine wpL_free (v := ?_) (by rfl) (fun w6 => ?_) ?_; rotate_left; (· (go_simp; try with_reducible rfl)))
  | refine wpL_not (by rfl) ?_); (try simp only [Act.put, pA, pB, pC]))
 refine wpL_heavy (fun _ w' => BegS w g n add enc st.ats (w1.heap.size + 1) s #[.pointer (some ⟨s, 0, none⟩), .pointer none, .int .i64 x, .int .i64 0, .slice none 0 0, .int .i64 st.state, .int .i64 0, .map (some w1.heap.size), .slice none 0 0, .bool false] w' /\ Fr (· = w1.heap.size + 1) w3 w') (by rfl) (by rfl) (fun w6 hSw => ?_) (.inr (fun v6 w6 hT6 => ?_)) (fun v6 hv6 => ?_)
 ·(obtain ⟨hb, hbb⟩ := hSw; have y2 := hb.2.2.2.frozen 5; have y3 := hb.2.2.2.cell 5; go_simp; exact ⟨hb.set (by omega), hbb.set1 5 _⟩)
 ·(exact HS0.out _ hT6.1.2.2.1)
 skip
 (try simp only [Act.put, pA, pB, pC])
 refine wpL_nil ?_
 rintro w4 ⟨hB4, hF4⟩
 obtain ⟨hsn, hsg, hb4, hp4⟩ := hB4
 have hm4 := HH.out.map.below hb4
 have hx4 := EmptyMap.range (t := 94) hm4.1 Tryz.underlying94
 have hy4 := EmptyMap.next hm4.1 0
 have c4 := (HC.out _ hb4).2.2.2
 simp at c4
 have hb5 : Below w.heap.size w (w4.alloc (.mapIter (some m) 0 #[] 0)) := balloc hb4
 have hE4 : MapE w4 st.mb w1.heap.size := HE3.out.fr hF4 (fun e => by omega)
 have HSN := Lib.hid hsn
 have HP4 := Lib.hid hp4
 have hz4 : w1.heap.size + 1 < w4.heap.size := hp4.lt
 clear hsn hp4 hv6 hF4 hW3 hP
 have hgb5 := HH.out.blk.below hb5
 have z6 := hgb5.cell 6
 have zf6 := hgb5.frozen 6
 simp at z6
 go_wp2_with fail
 refine wp_loop_rounds 1 ?_
 rw [rounds_succ]
 go_wp2_with fail
 go_ret
 have hrw4 : w4.ownsRow B 5 1 add n xs := own_bel HH.out.text.row hb4
 have htx4 := HH.out.text.below hb4
 have hF : Fr (· = gb) (w4.alloc (.mapIter (some m) 0 #[] 0)) ((w4.alloc (.mapIter (some m) 0 #[] 0)).setCell ⟨gb, 6, none⟩ (.pointer (some ⟨w1.heap.size + 1, 0, none⟩))) := (Fr.refl _ _).set1 6 _
 have hFall : Fr (· = gb) w ((w4.alloc (.mapIter (some m) 0 #[] 0)).setCell ⟨gb, 6, none⟩ (.pointer (some ⟨w1.heap.size + 1, 0, none⟩))) := (Fr.of_below hb5).set1 6 _
 have hK1 : GKeep N add add n n enc w (w4.alloc (.mapIter (some m) 0 #[] 0)) := GKeep.below HH.out.text.row HH.out.text.blk hb5
 have hK2 : ∀ M, GKeep M add add n n enc (w4.alloc (.mapIter (some m) 0 #[] 0)) ((w4.alloc (.mapIter (some m) 0 #[] 0)).setCell ⟨gb, 6, none⟩ (.pointer (some ⟨w1.heap.size + 1, 0, none⟩))) := fun M => GKeep.far hF (fun k _ hk => hk ▸ Far2.blk hgb5 (by decide))
 have hsz : ((w4.alloc (.mapIter (some m) 0 #[] 0)).setCell ⟨gb, 6, none⟩ (.pointer (some ⟨w1.heap.size + 1, 0, none⟩))).heap.size = w4.heap.size + 1 := by simp [World.setCell]
 have hN0 := HH.out.nle
 have hs0 := hb4.size
 have hown : ∀ v' k ys, w.ownsRow B 177 1 v' k ys -> ((w4.alloc (.mapIter (some m) 0 #[] 0)).setCell ⟨gb, 6, none⟩ (.pointer (some ⟨w1.heap.size + 1, 0, none⟩))).ownsRow B 177 1 v' k ys := fun v' k ys ho =>
  own_fr' (own_bel ho hb5) hF (fun b cs hb hc => Blk.ne_ hc hgb5 (by decide) hb)
 have hpB : Blk ((w4.alloc (.mapIter (some m) 0 #[] 0)).setCell ⟨gb, 6, none⟩ (.pointer (some ⟨w1.heap.size + 1, 0, none⟩))) (w1.heap.size + 1) 196 _ := (HP4.out.alloc _).far (Blk.ne_ (HP4.out.alloc _) hgb5 (by decide)) _
 refine ⟨rfl, some ⟨w1.heap.size + 1, 0, none⟩, ⟨(hgb5.set_ 6 _).eq_ rfl, (HH.out.text.below hb5).far hF (fun k _ hk => hk ▸ Far.blk hgb5 (by decide)), HH.out.ats, HH.out.sz, HH.out.lim0, (hm4.alloc _).far (fun e => (hm4.alloc _).ne_blk hgb5 e) _, HH.out.undo.keep (hK1.trans (hK2 _)) (by omega) (hown _), HH.out.redo.keep (hK1.trans (hK2 _)) (by omega) (hown _), HH.out.sep, ?_, Nat.le_refl _, HH.out.nums, ⟨HH.out.low.1, HH.out.low.2.1, ?_, fun p hp => ?_⟩⟩, hFall⟩
 have hsnB : SnapB (w4.alloc (.mapIter (some m) 0 #[] 0)) (w4.heap.size + 1) g add n enc s st.ats := by
  have h1 := HSN.out.below htx4.row htx4.blk (balloc (Below.refl _ _) (o := .mapIter (some m) 0 #[] 0))
  refine ⟨?_, h1⟩
  obtain ⟨t', a', hs1, -⟩ := HSN.out
  exact Nat.lt_succ_of_lt hs1.lt
 refine ⟨w1.heap.size + 1, rfl, s, w1.heap.size, .slice none 0 0, [], hpB, (hE4.alloc _).far (fun e => (hE4.alloc _).ne_blk hgb5 e) _, ?_, World.ownsRow_nil _ _ _ _, ⟨rfl, fun i v mv hv => by simp at hv⟩, by simp⟩
 ·rw [hsz]
  exact hsnB.keep (hK2 _)
 ·rw [hsz]
  have := HH.out.text.base
  omega
 ·injection hp with hp
  injection hp with hp
  have := HH.out.text.base
  have := hb1.size
  omega
end Go.Proofs.YtgiihhikdoikgaaGreat
