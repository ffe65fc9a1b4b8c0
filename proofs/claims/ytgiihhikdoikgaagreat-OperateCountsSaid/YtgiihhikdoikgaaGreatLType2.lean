/-
  operate.Type on a desk whose book changes (no line end is typed, the cursor is in the text).
-/
import Derived.Test.YtgiihhikdoikgaaGreatLDel
import Derived.Test.YtgiihhikdoikgaaGreatLEnd3
import Derived.Test.YtgiihhikdoikgaaGreatLType
set_option linter.unusedSimpArgs false
set_option linter.unusedVariables false
set_option maxRecDepth 100000
set_option maxHeartbeats 32000000
namespace Go.Proofs.YtgiihhikdoikgaaGreat
open Go.RowKit
def pushU (us : List Gr) (d : Int) (G : Gr) : List Gr := if (us.length : Int) < d then us ++ [G] else (us ++ [G]).drop 1
section
variable {B gd gb g n : Nat} {enc lim : Int} {st : BkS} {dc : Array Value} {w : World}
def endF (st : BkS) (o : OpS) (x : Int) : BkS :=
 if o.changed = true then { st with now := none, undo := pushU st.undo st.depth ⟨o.before, st.ats, o.bgn, x, o.moves, o.old, st.last + 1⟩, redo := [], state := st.last + 1, last := st.last + 1 } else { st with now := none }
theorem end_deskF (h : DeskIs w B gd gb g enc lim n st dc) {o : OpS} (hn : st.now = some o) {x : Int} (hx : 0 <= x /\ x <= (st.ats.length : Int)) (hd : (st.undo.length : Int) <= st.depth) (hc : o.changed = true -> st.last < 1073741824) :
  Calls Tryz.prog 91 #[.pointer (some ⟨gb, 0, none⟩), .int .i64 x] w fun e w' => e = .returned (.int .i64 0) /\ DeskIs w' B gd gb g enc lim n (endF st o x) dc /\ BkFr B w w' := by
 obtain ⟨N, add, t, a, xs, m, vu, vr, now, n', hn', hk⟩ := h.book
 cases hch : o.changed with
 | false =>
  have e0 : endF st o x = { st with now := none } := by unfold endF; rw [if_neg (by rw [hch]; decide)]
  rw [e0]
  refine (end_none N B gb g enc lim n' add st t a xs m vu vr now o x w hk hn hx hch).mono ?_
  rintro e w' ⟨rfl, hk', hb⟩
  exact ⟨rfl, h.bk hb ⟨_, add, t, a, xs, m, vu, vr, _, n', hn', hk'⟩, hb⟩
 | true =>
  by_cases hlt : (st.undo.length : Int) < st.depth
  ·have e0 : endF st o x = { st with now := none, undo := st.undo ++ [⟨o.before, st.ats, o.bgn, x, o.moves, o.old, st.last + 1⟩], redo := [], state := st.last + 1, last := st.last + 1 } := by unfold endF pushU; rw [if_pos hch, if_pos hlt]
   rw [e0]
   refine (end_some N B gb g enc lim n' add st t a xs m vu vr now o x w hk hn hx hch hlt (hc hch)).mono ?_
   rintro e w' ⟨rfl, ⟨vu', hk'⟩, hb⟩
   exact ⟨rfl, h.bk hb ⟨_, add, t, a, xs, m, _, _, _, n', hn', hk'⟩, hb⟩
  ·have e0 : endF st o x = { st with now := none, undo := (st.undo ++ [(⟨o.before, st.ats, o.bgn, x, o.moves, o.old, st.last + 1⟩ : Gr)]).drop 1, redo := [], state := st.last + 1, last := st.last + 1 } := by unfold endF pushU; rw [if_pos hch, if_neg hlt]
   rw [e0]
   refine (end_full N B gb g enc lim n' add st t a xs m vu vr now o x w hk hn hx hch (by omega) (hc hch)).mono ?_
   rintro e w' ⟨rfl, ⟨vu', hk'⟩, hb⟩
   exact ⟨rfl, h.bk hb ⟨_, add, t, a, xs, m, _, _, _, n', hn', hk'⟩, hb⟩
theorem drop_desk (h : DeskIs w B gd gb g enc lim n st dc) {o : OpS} (hn : st.now = some o) :
  Calls Tryz.prog 92 #[.pointer (some ⟨gb, 0, none⟩)] w fun e w' => e = .returned (.tuple #[.int .i64 o.bgn, .int .i64 0]) /\ DeskIs w' B gd gb g enc lim n { st with ats := o.before, now := none } dc /\ BkFr B w w' := by
 obtain ⟨N, add, t, a, xs, m, vu, vr, now, n', hn', hk⟩ := h.book
 refine (drop_any N B gb g enc lim n' add st t a xs m vu vr now o w hk hn).mono ?_
 rintro e w' ⟨rfl, ⟨t', a', m', hk'⟩, hb⟩
 exact ⟨rfl, h.bk hb ⟨_, add, t', a', xs, m', _, _, _, n', hn', hk'⟩, hb⟩
end
theorem caught_any (fn : FuncId) (cap : Array Value) (w : World) (Q : World -> Prop) (R : Int -> World -> Prop) (hen : ∀ args w, (callFunc fn args).run Tryz.prog w = .ok (.enter fn args) w)
  (hact : Calls Tryz.prog fn cap (w.alloc (.cells #[.int .i64 0] 26)) fun e w' => (e = .returned (.tuple #[]) /\ Q w') \/ (∃ c, e = .panicked [errPanic c] /\ R c w')) (hQ : ∀ w', Q w' -> Blk w' w.heap.size 26 #[.int .i64 0]) (hR : ∀ c w', R c w' -> Blk w' w.heap.size 26 #[.int .i64 0]) :
  Calls Tryz.prog 25 #[.func (.func fn) #[] cap] w fun e w' => (e = .returned (.int .i64 0) /\ Q w') \/ (∃ c, e = .returned (.int .i64 c) /\ ∃ w1, R c w1 /\ w' = w1.setCell ⟨w.heap.size, 0, none⟩ (.int .i64 c)) := by
 have hmf : ∀ (fn : Fn) (first cap : Array Value) (w : World), (Instr.makeFunc fn first cap).run Tryz.prog w = .ok (.func fn first cap) w := fun _ _ _ _ => rfl
 have HA := Lib.hid hact
 clear hact
 go_enter_defers Tryz.func25, Tryz.ntmps25
 go_wp2_with fail
 refine (HA.out).mono ?_
 rintro e w1 (⟨rfl, hq⟩ | ⟨c, rfl, hq⟩)
 ·have hb := hQ w1 hq
  have hid : w1.setCell ⟨w.heap.size, 0, none⟩ (.int .i64 0) = w1 := setCell_id hb rfl
  have c0 := hb.cell 0
  have f0 := hb.frozen 0
  simp at c0
  go_wp2_with fail
  refine leaves_cons (f := 76) (args := #[.pointer (some ⟨w.heap.size, 0, none⟩)]) (by simp) (by simp [go_sem]) ?_
  refine (caught1_ret w.heap.size _).mono ?_
  rintro e u' w'' ⟨rfl, rfl, rfl⟩
  refine ⟨_, ?_, .inl ⟨rfl, hq⟩⟩
  simp [results, Tryz.results25, go_sem, c0]
 ·have hb := hR c w1 hq
  have c1 := ((hb.set_ 0 (.int .i64 c)).eq_ (show _ = #[.int .i64 c] by simp)).cell 0
  simp at c1
  go_wp2_with fail
  refine leaves_cons (f := 76) (args := #[.pointer (some ⟨w.heap.size, 0, none⟩)]) (by simp) (by simp [go_sem]) ?_
  refine (caught1_code w.heap.size c [] (.int .i64 0) _ (hb.cell 0) (hb.frozen 0)).mono ?_
  rintro e u' w'' ⟨rfl, rfl, rfl⟩
  simp only [Leaves, settle, errPanic, results, Tryz.results25, go_sem, c1]
  refine ⟨_, ?_, .inr ⟨c, rfl, w1, hq, rfl⟩⟩
  simp [results, Tryz.results25, go_sem, c1]
def ActBad (B gd gb g : Nat) (enc lim : Int) (st : BkS) (dc : Array Value) (X : Nat -> Prop) (Bad : Int -> Nat -> Prop) (c : Int) (w1 : World) (w2 : World) : Prop :=
 ∃ ats' o' n', Bad c n' /\ c ≠ 0 /\ o'.before = st.ats /\ DeskIs w2 B gd gb g enc lim n' { st with ats := ats', now := some o' } dc /\ DFr B X w1 w2
def ActAny (B gd gb g : Nat) (enc lim : Int) (st : BkS) (dc : Array Value) (X : Nat -> Prop) (Act : Int -> List (Int × Int) -> OpS -> Nat -> Prop) (Bad : Int -> Nat -> Prop) (w1 : World) (e : Ending) (w2 : World) : Prop :=
 ActPost B gd gb g enc lim st dc X Act w1 e w2 \/ ∃ c, e = .panicked [errPanic c] /\ ActBad B gd gb g enc lim st dc X Bad c w1 w2
def Work1F (B gd gb g b4 : Nat) (enc lim : Int) (st : BkS) (dc : Array Value) (X : Nat -> Prop) (Act : Int -> List (Int × Int) -> OpS -> Nat -> Prop) (w1 : World) (w2 : World) : Prop :=
 ∃ at' ats' o' n', Act at' ats' o' n' /\ DeskIs w2 B gd gb g enc lim n' (endF { st with ats := ats', now := some o' } o' at') dc /\ Blk w2 b4 3 #[.int .i64 at'] /\ DFr B (fun b => X b \/ b = b4) w1 w2
theorem work1_any (B gd gb g n b3 b4 b5 b7 : Nat) (enc lim x : Int) (st : BkS) (dc : Array Value) (fn : FuncId) (cap : Array Value) (X : Nat -> Prop) (Act : Int -> List (Int × Int) -> OpS -> Nat -> Prop) (Bad : Int -> Nat -> Prop) (w : World)
  (h : DeskIs w B gd gb g enc lim n st dc) (hn : st.now = none) (hx : 0 <= x /\ x <= (st.ats.length : Int))
  (h7 : Blk w b7 4 #[.bool true]) (h3 : Blk w b3 23 #[.pointer (some ⟨gd, 0, none⟩)]) (h4 : Blk w b4 3 #[.int .i64 x]) (h5 : Blk w b5 44 #[.func (.func fn) #[] cap])
  (hen : ∀ args w, (callFunc fn args).run Tryz.prog w = .ok (.enter fn args) w) (hX : ∀ b, X b -> b ≠ b3 /\ b ≠ b4 /\ b ≠ b5 /\ b ≠ b7)
  (hact : ∀ w1, DeskIs w1 B gd gb g enc lim n { st with now := some ⟨st.ats, x, [], st.state, false⟩ } dc -> BkFr B w w1 -> Calls Tryz.prog fn cap w1 (ActAny B gd gb g enc lim st dc X Act Bad w1))
  (hfin : ∀ at' ats' o' n', Act at' ats' o' n' -> (0 <= at' /\ at' <= (ats'.length : Int)) /\ (o'.changed = true -> st.last < 1073741824)) (hud : (st.undo.length : Int) <= st.depth) :
  Calls Tryz.prog 89 #[.pointer (some ⟨b7, 0, none⟩), .pointer (some ⟨b3, 0, none⟩), .pointer (some ⟨b4, 0, none⟩), .pointer (some ⟨b5, 0, none⟩)] w fun e w' => (e = .returned (.tuple #[]) /\ Work1F B gd gb g b4 enc lim st dc X Act w w') \/ (∃ c, e = .panicked [errPanic c] /\ ActBad B gd gb g enc lim st dc X Bad c w w') := by
 have hkB := fun (w' : World) (hb : BkFr B w w') => And.intro ((hb.blk h7 (by decide)).cell 0) (And.intro ((hb.blk h3 (by decide)).cell 0) (And.intro ((hb.blk h4 (by decide)).cell 0) (And.intro ((hb.blk h5 (by decide)).cell 0) (((hb.blk h.desk (by decide)).cell 0).trans h.c0))))
 have HKB := Lib.hid hkB
 obtain ⟨c7, c3, c4, c5, cd⟩ := hkB w (BkFr.refl _ _)
 have HH := Lib.hid h
 have HA := Lib.hid hact
 have HB := Lib.hid (fun w' (hb : Below w.heap.size w w') => begin_desk (h.below hb) hn hx)
 have HFIN := Lib.hid hfin
 have HXX := Lib.hid hX
 have H7 := Lib.hid h7
 have H3 := Lib.hid h3
 have H4 := Lib.hid h4
 clear hkB h hact hfin hX h7 h3 h4 h5
 go_enter Tryz.func89, Tryz.ntmps89
 go_upto_region 1 with fail
 refine wp_region_lin (fun w' => BkFr B w w') (fun w' => w' = w.drew) (fun k => k == 5 || k == 6) (fun k => k == 6) (fun _ => false) (by kernel_rfl) (by kernel_rfl) (rfl) (fun w' h => by subst h; exact BkFr.below (Below.refl _ _).drew) ?_
 repeat ((first
  | (refine wpL_read (v := ?_) (by rfl) (by rfl) (fun w6 hSw => ?_) ?_; rotate_left; (· (obtain ⟨y7, y3, y4, y5, yd⟩ := HKB.out _ hSw; go_simp; try with_reducible rfl)))
  | (refine wpL_free (v := ?_) (by rfl) (fun w6 => ?_) ?_; rotate_left; (· (go_simp; try with_reducible rfl)))
  | refine wpL_not (by rfl) ?_); (try simp only [Act.put, pA, pB, pC]))
 refine wpL_call (f := ?_) (args := ?_) (fun v w' => v = .int .i64 0 /\ DeskIs w' B gd gb g enc lim n { st with now := some ⟨st.ats, x, [], st.state, false⟩ } dc /\ BkFr B w w') (by rfl) (by rfl) (fun w6 hSw => ?_) (fun w6 hSw => ?_) (.inr (fun v6 w6 hT6 => ?_)) (fun v6 hv6 => ?_)
 rotate_left 2
 ·(skip; go_simp; first | done | (constructor <;> with_reducible rfl) | with_reducible rfl)
 ·(subst hSw; refine (HB.out _ (Below.refl _ _).drew).mono ?_; rintro e w' ⟨rfl, hd, hb⟩; exact ⟨_, rfl, rfl, hd, (BkFr.below (Below.refl _ _).drew).trans hb⟩)
 ·(exact hT6.2.2)
 obtain ⟨wz, rfl, -⟩ := hv6
 (try simp only [Act.put, pA, pB, pC])
 repeat ((first
  | (refine wpL_read (v := ?_) (by rfl) (by rfl) (fun w6 hSw => ?_) ?_; rotate_left; (· (obtain ⟨y7, y3, y4, y5, yd⟩ := HKB.out _ hSw; go_simp; try with_reducible rfl)))
  | (refine wpL_free (v := ?_) (by rfl) (fun w6 => ?_) ?_; rotate_left; (· (go_simp; try with_reducible rfl)))
  | refine wpL_not (by rfl) ?_); (try simp only [Act.put, pA, pB, pC]))
 refine wpL_call (f := ?_) (args := ?_) (fun v w' => DeskIs w' B gd gb g enc lim n { st with now := some ⟨st.ats, x, [], st.state, false⟩ } dc /\ BkFr B w w') (by rfl) (by rfl) (fun w6 hSw => ?_) (fun w6 hSw => ?_) (.inl (by rfl)) (fun v6 hv6 => ?_)
 rotate_left 2
 ·(skip; go_simp; first | done | (constructor <;> with_reducible rfl) | with_reducible rfl)
 ·(refine (must_ok _).mono ?_; rintro e w' ⟨rfl, rfl⟩; exact ⟨_, rfl, hSw.2⟩)
 skip
 (try simp only [Act.put, pA, pB, pC])
 refine wpL_nil ?_
 rintro w1 ⟨hd1, hb1⟩
 obtain ⟨c7, c3, c4, c5, cd⟩ := HKB.out _ hb1
 simp at c7 c3 c4 c5
 go_wp2_with fail
 refine (HA.out _ hd1 hb1).mono ?_
 rintro e w2 (⟨at', ats', o', n', hA, rfl, hd2, hf2⟩ | ⟨c, rfl, ats', o', n', hA, hc0, hbf, hd2, hf2⟩)
 case inr =>
  have hq : ActBad B gd gb g enc lim st dc X Bad c w w2 := ⟨ats', o', n', hA, hc0, hbf, hd2, (DFr.of_bk hb1).trans hf2⟩
  have HQ := Lib.hid hq
  clear hq
  go_wp2_with fail
  exact ⟨rfl, .inr ⟨c, rfl, HQ.out⟩⟩
 have X7 := HXX.out
 have k7 := hf2.blk (hb1.blk H7.out (by decide)) (by decide) (fun hx => (HXX.out b7 hx).2.2.2 rfl)
 have k3 := hf2.blk (hb1.blk H3.out (by decide)) (by decide) (fun hx => (HXX.out b3 hx).1 rfl)
 have k4 := hf2.blk (hb1.blk H4.out (by decide)) (by decide) (fun hx => (HXX.out b4 hx).2.1 rfl)
 have e4 := k4.cell 0
 have f4 := k4.frozen 0
 have n74 : b7 ≠ b4 := Blk.ne_ k7 k4 (by decide)
 have n34 : b3 ≠ b4 := Blk.ne_ k3 k4 (by decide)
 have g7 := (k7.far (p := ⟨b4, 0, none⟩) n74 (.int .i64 at')).cell 0
 have hd3 := hd2.alien (show Fr (· = b4) w2 (w2.setCell ⟨b4, 0, none⟩ (.int .i64 at')) from (Fr.refl _ _).set1 0 _) (fun k _ hk => ⟨fun e => Blk.ne_ k4 hd2.desk (by decide) (hk.symm.trans e), _, _, hk ▸ k4, by decide⟩)
 have k33 := k3.far (p := ⟨b4, 0, none⟩) n34 (.int .i64 at')
 have k43 := (k4.set_ 0 (.int .i64 at')).eq_ (show _ = #[.int .i64 at'] by simp)
 obtain ⟨hat, hch⟩ := HFIN.out _ _ _ _ hA
 have hF3 : DFr B (fun b => X b \/ b = b4) w (w2.setCell ⟨b4, 0, none⟩ (.int .i64 at')) := ((DFr.of_bk hb1).trans (hf2.wide (Nat.le_refl _) (fun _ _ h => .inl h))).trans (DFr.of_x ((Fr.refl _ _).setCell (p := ⟨b4, 0, none⟩) (.inl (.inr rfl)) _))
 simp at e4 g7
 have G7 := Lib.hid g7
 clear c7 c3 c4 c5 cd hd1 hf2 k7 k3 k4 n74 n34 hd2 g7
 go_upto_region 3 with fail
 obtain ⟨w3, hw3⟩ : ∃ x, w2.setCell ⟨b4, 0, none⟩ (.int .i64 at') = x := ⟨_, rfl⟩
 have g7 := G7.out
 rw [hw3] at g7 hd3 k33 k43 hF3 ⊢
 have hkE := fun (w' : World) (hb : BkFr B w3 w') => And.intro ((hb.blk k33 (by decide)).cell 0) (And.intro ((hb.blk k43 (by decide)).cell 0) (((hb.blk hd3.desk (by decide)).cell 0).trans hd3.c0))
 have HKE := Lib.hid hkE
 have HE := Lib.hid (fun w' (hb : Below w3.heap.size w3 w') => end_deskF (h := hd3.below hb) (o := o') rfl (x := at') hat hud hch)
 have HA2 := Lib.hid hA
 have HF3 := Lib.hid hF3
 have HK43 := Lib.hid k43
 clear hkE hA hF3 e4 f4 hat hch hd3 G7 k33 k43
 go_upto_region 4 with fail
 refine wp_region_lin (fun w' => BkFr B w3 w') (fun w' => w' = w3.drew) (fun k => k == 5 || k == 6) (fun k => k == 6) (fun _ => false) (by kernel_rfl) (by kernel_rfl) (rfl) (fun w' h => by subst h; exact BkFr.below (Below.refl _ _).drew) ?_
 repeat ((first
  | (refine wpL_read (v := ?_) (by rfl) (by rfl) (fun w6 hSw => ?_) ?_; rotate_left; (· (obtain ⟨y3, y4, yd⟩ := HKE.out _ hSw; go_simp; try with_reducible rfl)))
  | (refine wpL_free (v := ?_) (by rfl) (fun w6 => ?_) ?_; rotate_left; (· (go_simp; try with_reducible rfl)))
  | refine wpL_not (by rfl) ?_); (try simp only [Act.put, pA, pB, pC]))
 refine wpL_call (f := ?_) (args := ?_) (fun v w' => v = .int .i64 0 /\ DeskIs w' B gd gb g enc lim n' (endF { st with ats := ats', now := some o' } o' at') dc /\ BkFr B w3 w') (by rfl) (by rfl) (fun w6 hSw => ?_) (fun w6 hSw => ?_) (.inr (fun v6 w6 hT6 => ?_)) (fun v6 hv6 => ?_)
 rotate_left 2
 ·(skip; go_simp; first | done | (constructor <;> with_reducible rfl) | with_reducible rfl)
 ·(subst hSw; refine (HE.out _ (Below.refl _ _).drew).mono ?_; rintro e w' ⟨rfl, hd, hb⟩; exact ⟨_, rfl, rfl, hd, (BkFr.below (Below.refl _ _).drew).trans hb⟩)
 ·(exact hT6.2.2)
 obtain ⟨wz, rfl, -⟩ := hv6
 (try simp only [Act.put, pA, pB, pC])
 repeat ((first
  | (refine wpL_read (v := ?_) (by rfl) (by rfl) (fun w6 hSw => ?_) ?_; rotate_left; (· (obtain ⟨y3, y4, yd⟩ := HKE.out _ hSw; go_simp; try with_reducible rfl)))
  | (refine wpL_free (v := ?_) (by rfl) (fun w6 => ?_) ?_; rotate_left; (· (go_simp; try with_reducible rfl)))
  | refine wpL_not (by rfl) ?_); (try simp only [Act.put, pA, pB, pC]))
 refine wpL_call (f := ?_) (args := ?_) (fun v w' => DeskIs w' B gd gb g enc lim n' (endF { st with ats := ats', now := some o' } o' at') dc /\ BkFr B w3 w') (by rfl) (by rfl) (fun w6 hSw => ?_) (fun w6 hSw => ?_) (.inl (by rfl)) (fun v6 hv6 => ?_)
 rotate_left 2
 ·(skip; go_simp; first | done | (constructor <;> with_reducible rfl) | with_reducible rfl)
 ·(refine (must_ok _).mono ?_; rintro e w' ⟨rfl, rfl⟩; exact ⟨_, rfl, hSw.2⟩)
 skip
 (try simp only [Act.put, pA, pB, pC])
 refine wpL_nil ?_
 rintro w5 ⟨hd5, hb5⟩
 show bodyPost _ _ _ _ _ _
 refine bodyPost_end (results_none rfl _ _ _) rfl ?_
 exact .inl ⟨rfl, at', ats', o', n', HA2.out, hd5, hb5.blk HK43.out (by decide), HF3.out.trans (DFr.of_bk hb5)⟩
def WorkF (B gd gb g : Nat) (enc lim : Int) (st : BkS) (dc : Array Value) (X : Nat -> Prop) (Act : Int -> List (Int × Int) -> OpS -> Nat -> Prop) (Bad : Int -> Nat -> Prop) (w : World) (e : Ending) (w' : World) : Prop :=
 (e = .returned (.int .i64 0) /\ ∃ at' ats' o' n', Act at' ats' o' n' /\ DeskIs w' B gd gb g enc lim n' (endF { st with ats := ats', now := some o' } o' at') (dc.setIfInBounds 2 (.int .i64 at')) /\ DFr B (fun b => X b \/ b = gd) w w') \/
 (∃ c n', e = .returned (.int .i64 c) /\ c ≠ 0 /\ Bad c n' /\ DeskIs w' B gd gb g enc lim n' st dc /\ DFr B X w w')
theorem work_any (B gd gb g n : Nat) (enc lim x : Int) (st : BkS) (dc : Array Value) (fn : FuncId) (cap : Array Value) (X : Nat -> Prop) (Act : Int -> List (Int × Int) -> OpS -> Nat -> Prop) (Bad : Int -> Nat -> Prop) (w : World)
  (h : DeskIs w B gd gb g enc lim n st dc) (hn : st.now = none) (hx : 0 <= x /\ x <= (st.ats.length : Int)) (hdz : dc.size = 10)
  (hen : ∀ args w, (callFunc fn args).run Tryz.prog w = .ok (.enter fn args) w) (hX : ∀ b, X b -> b < w.heap.size /\ b ≠ gd)
  (hact : ∀ w1, DeskIs w1 B gd gb g enc lim n { st with now := some ⟨st.ats, x, [], st.state, false⟩ } dc -> DFr B (fun _ => False) w w1 -> Calls Tryz.prog fn cap w1 (ActAny B gd gb g enc lim st dc X Act Bad w1))
  (hfin : ∀ at' ats' o' n', Act at' ats' o' n' -> (0 <= at' /\ at' <= (ats'.length : Int)) /\ (o'.changed = true -> st.last < 1073741824)) (hud : (st.undo.length : Int) <= st.depth) :
  Calls Tryz.prog 36 #[.pointer (some ⟨gd, 0, none⟩), .int .i64 x, .func (.func fn) #[] cap] w (WorkF B gd gb g enc lim st dc X Act Bad w) := by
 have hmf : ∀ (fn : Fn) (first cap : Array Value) (w : World), (Instr.makeFunc fn first cap).run Tryz.prog w = .ok (.func fn first cap) w := fun _ _ _ _ => rfl
 have hw3 : Below w.heap.size w (((w.alloc (.cells #[.pointer (some ⟨gd, 0, none⟩)] 23)).alloc (.cells #[.int .i64 x] 3)).alloc (.cells #[.func (.func fn) #[] cap] 44)) := balloc (balloc (balloc (Below.refl _ _)))
 have b3 : Blk (((w.alloc (.cells #[.pointer (some ⟨gd, 0, none⟩)] 23)).alloc (.cells #[.int .i64 x] 3)).alloc (.cells #[.func (.func fn) #[] cap] 44)) w.heap.size 23 #[.pointer (some ⟨gd, 0, none⟩)] := ((Blk.new w _ _).alloc _).alloc _
 have b4 : Blk (((w.alloc (.cells #[.pointer (some ⟨gd, 0, none⟩)] 23)).alloc (.cells #[.int .i64 x] 3)).alloc (.cells #[.func (.func fn) #[] cap] 44)) (w.heap.size + 1) 3 #[.int .i64 x] := (Blk.new' (by simp)).alloc _
 have b5 : Blk (((w.alloc (.cells #[.pointer (some ⟨gd, 0, none⟩)] 23)).alloc (.cells #[.int .i64 x] 3)).alloc (.cells #[.func (.func fn) #[] cap] 44)) (w.heap.size + 1 + 1) 44 #[.func (.func fn) #[] cap] := Blk.new' (by simp)
 have hd0 := h.below hw3
 have cd := (hd0.desk.cell 0).trans hd0.c0
 have c3 := b3.cell 0
 have hsz : (((w.alloc (.cells #[.pointer (some ⟨gd, 0, none⟩)] 23)).alloc (.cells #[.int .i64 x] 3)).alloc (.cells #[.func (.func fn) #[] cap] 44)).heap.size = w.heap.size + 3 := by simp
 simp only [List.getElem?_toArray, List.getElem?_cons_zero] at c3
 have hio := isOpen_desk hd0
 rw [hn] at hio
 have HIO := Lib.hid hio
 have HH := Lib.hid h
 have HA := Lib.hid hact
 have HFIN := Lib.hid hfin
 have HXX := Lib.hid hX
 have HEN := Lib.hid hen
 clear h hact hfin hX hio hen
 go_enter Tryz.func36, Tryz.ntmps36
 go_wp2_with fail
 obtain ⟨w0, hw0⟩ : ∃ x', (((w.alloc (.cells #[.pointer (some ⟨gd, 0, none⟩)] 23)).alloc (.cells #[.int .i64 x] 3)).alloc (.cells #[.func (.func fn) #[] cap] 44)) = x' := ⟨_, rfl⟩
 rw [hw0] at HIO hw3 b3 b4 b5 hd0 cd c3 hsz ⊢
 refine (HIO.out).mono ?_
 rintro e wz ⟨rfl, rfl⟩
 go_wp2_with fail
 have hw7 : Below w.heap.size w (w0.alloc (.cells #[.bool true] 4)) := balloc hw3
 have b7 : Blk (w0.alloc (.cells #[.bool true] 4)) (w.heap.size + 3) 4 #[.bool true] := Blk.new' hsz
 have b31 := b3.alloc (.cells #[.bool true] 4)
 have b41 := b4.alloc (.cells #[.bool true] 4)
 have b51 := b5.alloc (.cells #[.bool true] 4)
 have hz7 : (w0.alloc (.cells #[.bool true] 4)).heap.size = w.heap.size + 4 := by simp [hsz]
 obtain ⟨w7, hw70⟩ : ∃ x', w0.alloc (.cells #[.bool true] 4) = x' := ⟨_, rfl⟩
 rw [hw70] at hw7 b7 b31 b41 b51 hz7 ⊢
 clear b3 b4 b5 cd c3 hd0 HIO hw0 hw70 hsz hw3
 have hw8 : Below w.heap.size w (w7.alloc (.cells #[.int .i64 0] 26)) := balloc hw7
 have be : Blk (w7.alloc (.cells #[.int .i64 0] 26)) w7.heap.size 26 #[.int .i64 0] := Blk.new w7 _ _
 have hcall := caught_any 89 #[.pointer (some ⟨w.heap.size + 3, 0, none⟩), .pointer (some ⟨w.heap.size, 0, none⟩), .pointer (some ⟨w.heap.size + 1, 0, none⟩), .pointer (some ⟨w.heap.size + 1 + 1, 0, none⟩)] w7
  (fun w' => Work1F B gd gb g (w.heap.size + 1) enc lim st dc X Act (w7.alloc (.cells #[.int .i64 0] 26)) w') (fun c w' => ActBad B gd gb g enc lim st dc X Bad c (w7.alloc (.cells #[.int .i64 0] 26)) w') Tryz.call89
  (work1_any B gd gb g n w.heap.size (w.heap.size + 1) (w.heap.size + 1 + 1) (w.heap.size + 3) enc lim x st dc fn cap X Act Bad _ (HH.out.below hw8) hn hx (b7.alloc _) (b31.alloc _) (b41.alloc _) (b51.alloc _) HEN.out (fun b hb => by have := (HXX.out b hb).1; omega)
   (fun w1 hd1 hb1 => HA.out w1 hd1 ((DFr.of_below hw8).trans (DFr.of_bk hb1))) HFIN.out hud)
  (fun w' hq => by
   obtain ⟨_, _, _, _, _, _, _, hf⟩ := hq
   exact hf.blk be (by decide) (fun hx => by
    rcases hx with hx | hx
    ·have := (HXX.out _ hx).1
     omega
    ·omega))
  (fun c w' hq => by
   obtain ⟨_, _, _, _, _, _, _, hf⟩ := hq
   exact hf.blk be (by decide) (fun hx => by
    have := (HXX.out _ hx).1
    omega))
 have HC := Lib.hid hcall
 clear hcall HA
 refine (HC.out).mono ?_
 rintro e w9 (⟨rfl, at', ats', o', n', hA, hd9, hb49, hf9⟩ | ⟨c, rfl, w8, ⟨ats', o', n', hA, hc0, hbf, hd8, hf8⟩, rfl⟩)
 case inl =>
  have b39 := hf9.blk (b31.alloc _) (by decide) (fun hx => by
   rcases hx with hx | hx
   ·have := (HXX.out _ hx).1
    omega
   ·omega)
  have e3 := b39.cell 0
  have e4 := hb49.cell 0
  have ed := hd9.desk.cell 2
  have fd := hd9.desk.frozen 2
  rw [Array.getElem?_eq_getElem (by omega)] at ed
  simp at e3 e4
  have hfin : WorkF B gd gb g enc lim st dc X Act Bad w (.returned (.int .i64 0)) (w9.setCell ⟨gd, 2, none⟩ (.int .i64 at')) := by
   refine .inl ⟨rfl, at', ats', o', n', hA, hd9.set (by decide) _, ?_⟩
   have h1 : DFr B (fun b => X b \/ b = gd) w w9 := DFr.call' hw8 hf9 (fun b hb h => by
    rcases h with h | h
    ·exact .inl h
    ·omega)
   exact h1.trans (DFr.of_x ((Fr.refl _ _).setCell (p := ⟨gd, 2, none⟩) (.inl (.inr rfl)) _))
  have HFN := Lib.hid hfin
  clear hfin hA hd9 hb49 hf9 b39 HC HH HXX HFIN HEN b7 b31 b41 b51 be
  go_wp2_with fail
  go_ret
  exact HFN.out
 case inr =>
  have hX8 : ∀ b, b < w.heap.size + 4 -> X b -> b < w.heap.size := fun b _ hx => (HXX.out b hx).1
  have b78 := hf8.blk (b7.alloc _) (by decide) (fun hx => by have := (HXX.out _ hx).1; omega)
  have b38 := hf8.blk (b31.alloc _) (by decide) (fun hx => by have := (HXX.out _ hx).1; omega)
  have be8 := hf8.blk be (by decide) (fun hx => by have := (HXX.out _ hx).1; omega)
  have hFe : Fr (· = w7.heap.size) w8 (w8.setCell ⟨w7.heap.size, 0, none⟩ (.int .i64 c)) := (Fr.refl _ _).set1 0 _
  have hd9 := hd8.alien hFe (fun k _ hk => ⟨fun e => Blk.ne_ be8 hd8.desk (by decide) (hk.symm.trans e), _, _, hk ▸ be8, by decide⟩)
  have b79 := b78.fr hFe (fun e => Blk.ne_ b78 be8 (by decide) e)
  have b39 := b38.fr hFe (fun e => Blk.ne_ b38 be8 (by decide) e)
  have hF9 : DFr B X w (w8.setCell ⟨w7.heap.size, 0, none⟩ (.int .i64 c)) := by
   have h1 : DFr B (fun b => X b \/ b = w7.heap.size) (w7.alloc (.cells #[.int .i64 0] 26)) (w8.setCell ⟨w7.heap.size, 0, none⟩ (.int .i64 c)) := (hf8.wide (Nat.le_refl _) (fun _ _ h => .inl h)).trans (DFr.of_x (hFe.more (fun _ _ h => .inr h)))
   refine DFr.call' hw8 h1 (fun b hb h => ?_)
   rcases h with h | h
   ·exact h
   ·omega
  obtain ⟨w9, hw9⟩ : ∃ x', w8.setCell ⟨w7.heap.size, 0, none⟩ (.int .i64 c) = x' := ⟨_, rfl⟩
  rw [hw9] at hd9 b79 b39 hF9 ⊢
  have hS : ∀ w', Below w9.heap.size w9 w' -> w'.cell? ⟨w.heap.size + 3, 0, none⟩ = some (.bool true) /\ w'.cell? ⟨w.heap.size, 0, none⟩ = some (.pointer (some ⟨gd, 0, none⟩)) /\ w'.cell? ⟨gd, 0, none⟩ = some (.pointer (some ⟨gb, 0, none⟩)) := fun w' hb => ⟨(b79.below hb).cell 0, (b39.below hb).cell 0, ((hd9.below hb).desk.cell 0).trans hd9.c0⟩
  have q0 : (c == 0) = false := by rw [beq_eq_false_iff_ne]; exact hc0
  have hio := isOpen_desk hd9
  have hsm : ({ st with ats := ats', now := some o' } : BkS).now.isSome = true := rfl
  rw [hsm] at hio
  have HIO := Lib.hid hio
  have hdr := drop_desk hd9 (o := o') rfl
  have hst0 : ({ { st with ats := ats', now := some o' } with ats := o'.before, now := none } : BkS) = st := by
   rw [hbf]
   cases st
   simp at hn ⊢
   exact hn.symm
  rw [hst0] at hdr
  have HDR := Lib.hid hdr
  have HF9 := Lib.hid hF9
  have HAA := Lib.hid hA
  obtain ⟨s7, s3, s0⟩ := hS w9 (Below.refl _ _)
  clear hS hio hdr hF9 hA hd8 hd9 hf8 be8 b78 b38 b79 b39 hFe hw9 hst0 hsm HC HH HXX HFIN HEN b7 b31 b41 b51 be hbf hc0
  go_wp2_with fail
  refine (HIO.out).mono ?_
  rintro e wz ⟨rfl, rfl⟩
  go_wp2_with fail
  refine (HDR.out).mono ?_
  rintro e w10 ⟨rfl, hd10, hb10⟩
  have HD := Lib.hid hd10
  have HB := Lib.hid hb10
  clear hd10 hb10
  go_wp2_with fail
  go_ret
  exact .inr ⟨c, n', rfl, by rw [beq_eq_false_iff_ne] at q0; exact q0, HAA.out, HD.out, HF9.out.trans (DFr.of_bk HB.out)⟩
section
variable {B gd gb g n : Nat} {enc lim : Int} {st : BkS} {dc : Array Value} {w : World}
theorem change_bad (h : DeskIs w B gd gb g enc lim n st dc) {o : OpS} (hn : st.now = some o) {D : Nat -> Prop} {A : Option Addr} {k c : Nat} {es : List Ed} (he : EdsAt w D A k es) (hD : ∀ b, D b -> b < w.heap.size -> ∃ T cs, Blk w b T cs /\ Alien T)
  (hp : putN es <= 268435456) (hnn : n + 131072 <= 1073741824) (hom : o.moves.length < 1048576) (hz : refF enc lim (sizedA enc st.ats) es ≠ 0) :
  Calls Tryz.prog 99 #[.pointer (some ⟨gb, 0, none⟩), .slice A k c] w fun e w' => e = .returned (.int .i64 (refF enc lim (sizedA enc st.ats) es)) /\ Below w.heap.size w w' := by
 obtain ⟨N, add, t, a, xs, m, vu, vr, now, n', hn', hk⟩ := h.book
 have he' : EdsAt w (fun b => D b /\ b < w.heap.size) A k es := he.more (fun b h1 h2 => ⟨h1, h2⟩)
 refine (bchange_any N B gb g enc lim n' add st t a xs m vu vr now o (fun b => D b /\ b < w.heap.size) A k c es w hk hn he' (fun b hb => ?_) hp (by omega) hom).mono ?_
 ·obtain ⟨T, cs, hT, hA⟩ := hD b hb.1 hb.2
  refine ⟨Blk.ne_ hT hk.text.blk hA.1.1, fun e0 => own_blk_ne hk.text.row hT (Ne.symm hA.1.2.2) e0, fun e0 => ?_⟩
  have ho := hk.open_
  rw [hn] at ho
  obtain ⟨p, e1, s, m2, vm, vs, h1, _⟩ := ho
  rw [e1] at e0
  injection e0 with e0
  injection e0 with e0
  exact Blk.ne_ hT h1 hA.2.2.2.1 e0.symm
 ·rintro e w' ⟨rfl, hb, -⟩
  exact ⟨rfl, hb hz⟩
def DChgPost (B gd gb g : Nat) (enc lim : Int) (n : Nat) (st : BkS) (o : OpS) (dc : Array Value) (es : List Ed) (w : World) (e : Ending) (w' : World) : Prop :=
 (refF enc lim (sizedA enc st.ats) es = 0 /\ e = .returned (.tuple #[]) /\ DeskIs w' B gd gb g enc lim (n + 131072) { st with ats := edA es st.ats, now := some { o with moves := o.moves ++ [es.map mvOf], changed := o.changed || es.any chg } } dc /\ BkFr B w w') \/
 (refF enc lim (sizedA enc st.ats) es ≠ 0 /\ e = .panicked [errPanic (refF enc lim (sizedA enc st.ats) es)] /\ Below w.heap.size w w')
theorem dchange_any (h : DeskIs w B gd gb g enc lim n st dc) {o : OpS} (hn : st.now = some o) {D : Nat -> Prop} {A : Option Addr} {k c : Nat} {es : List Ed} (he : EdsAt w D A k es) (hD : ∀ b, D b -> b < w.heap.size -> ∃ T cs, Blk w b T cs /\ Alien T)
  (hp : putN es <= 268435456) (hnn : n + 131072 <= 1073741824) (hom : o.moves.length < 1048576) :
  Calls Tryz.prog 43 #[.pointer (some ⟨gd, 0, none⟩), .slice A k c] w (DChgPost B gd gb g enc lim n st o dc es w) := by
 by_cases hz : refF enc lim (sizedA enc st.ats) es = 0
 ·refine (dchange_desk (c := c) h hn he hD hp hnn hom hz).mono ?_
  rintro e w' ⟨rfl, hd, hf⟩
  exact .inl ⟨hz, rfl, hd, hf⟩
 ·have hc := change_bad (c := c) h hn he hD hp hnn hom hz
  have cd := (h.desk.cell 0).trans h.c0
  unfold DChgPost
  obtain ⟨r, hr⟩ : ∃ r, refF enc lim (sizedA enc st.ats) es = r := ⟨_, rfl⟩
  rw [hr] at hc hz ⊢
  have HC := Lib.hid hc
  clear h he hD hc hr
  go_enter Tryz.func43, Tryz.ntmps43
  go_wp2_with fail
  refine (HC.out).mono ?_
  rintro e w1 ⟨rfl, hb⟩
  go_wp2_with fail
  refine (must_bad r hz _).mono ?_
  rintro e w2 ⟨rfl, rfl⟩
  go_wp2_with fail
  exact ⟨rfl, .inr ⟨hz, rfl, hb⟩⟩
end
end Go.Proofs.YtgiihhikdoikgaaGreat
