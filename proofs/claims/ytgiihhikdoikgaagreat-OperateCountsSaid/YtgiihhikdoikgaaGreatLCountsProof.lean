/-
  operate.Over, for an atom that fits and is no line end. The walk of inverse: it answers, and leaves what was (what it answers is of no account where there are no marks). The walk of Book.Undo (no marks). A desk that was just made is one whose book may change; its atoms and tags, as the statements read them. OperateCounts: rowOf, where it is true. Texts of letters and tabs: one line, each atom a cluster of its own. (Plain.) copyistlaw12.letters: a desk with a text of letters. operate.Yank, by characters. Put and Over, told to do it less than once. What Yank, Put, Over, Shift do to a text of letters. The walk of OperateCounts. OperateCounts answers true at every input, and writes nothing that was there. Conditions: none. (The frame of the row's proof goes back to the kit's proof-skeleton.mjs; the walk is counts_any of the text Counts.)
-/
import Derived.Test.YtgiihhikdoikgaaGreatLOver1
import Derived.Test.YtgiihhikdoikgaaGreatLUndoLaw
import Derived.Test.YtgiihhikdoikgaaGreatLEnd2
import Derived.Test.YtgiihhikdoikgaaGreatLType2
import Derived.Test.YtgiihhikdoikgaaGreatLOften
import Derived.Test.YtgiihhikdoikgaaGreatLPut3
import Derived.Test.YtgiihhikdoikgaaGreatLHeavy
import Derived.Test.YtgiihhikdoikgaaGreatLSums
import Derived.Test.YtgiihhikdoikgaaGreatRows
import Derived.WalkKit
import Derived.ProofKit
import Derived.OpenShut
import Derived.ShutString
import Derived.ChangeOld
import Derived.Below
set_option linter.unusedSimpArgs false
set_option linter.unusedVariables false
set_option maxRecDepth 100000
set_option maxHeartbeats 32000000
namespace Go.Proofs.YtgiihhikdoikgaaGreat
open Go.RowKit
def OverPost (B gd gb g : Nat) (enc lim : Int) (n : Nat) (st : BkS) (dc : Array Value) (x a : Int) (K : Nat) (w : World) (r : Int) (w' : World) : Prop :=
 (r = 0 /\ ∃ (es : List Ed) (j : Nat), K <= nC (restC (sizedA enc st.ats) x) /\ es.map abE = overL x (restC (sizedA enc st.ats) x) a K /\ refF enc lim (sizedA enc st.ats) es = 0 /\ ClampOk (sizedA enc (edA es st.ats)) (x + K - 1) j /\ j <= nC (cont (sizedA enc (edA es st.ats)) (rowIx (sizedA enc (edA es st.ats)) (x + K - 1) false)) /\
  DeskIs w' B gd gb g enc lim (n + 131072) (shiftS st es x (clampX (sizedA enc (edA es st.ats)) (x + K - 1) j)) (dc.setIfInBounds 2 (.int .i64 (clampX (sizedA enc (edA es st.ats)) (x + K - 1) j))) /\ DFr B (· = gd) w w') \/
 (r ≠ 0 /\ ((r = 120 /\ nC (restC (sizedA enc st.ats) x) < K) \/ (K <= nC (restC (sizedA enc st.ats) x) /\ ∃ es : List Ed, es.map abE = overL x (restC (sizedA enc st.ats) x) a K /\ r = refF enc lim (sizedA enc st.ats) es)) /\ DeskIs w' B gd gb g enc lim n st dc /\ DFr B (fun _ => False) w w')
theorem over_work (B gd gb g n b0 b1 b2 b3 : Nat) (enc lim x a cnt : Int) (K : Nat) (st : BkS) (dc : Array Value) (w0 w : World) (hw0 : Below w0.heap.size w0 w) (hba : w0.heap.size <= b3) (h : DeskIs w B gd gb g enc lim n st dc) (hn : st.now = none) (hdz : dc.size = 10)
  (k0 : Blk w b0 23 #[.pointer (some ⟨gd, 0, none⟩)]) (k1 : Blk w b1 3 #[.int .i64 a]) (k2 : Blk w b2 3 #[.int .i64 x]) (k3 : Blk w b3 3 #[.int .i64 cnt]) (h31 : b1 ≠ b3) (h32 : b2 ≠ b3)
  (ha : 0 < szA enc a) (ha10 : a ≠ 10) (hK : min cnt 9999 = (K : Int)) (hK1 : 1 <= K) (hnn : n + 131072 <= 1073741824) (hud : (st.undo.length : Int) <= st.depth) (hla : st.last < 1073741824) (hc : 0 <= x /\ x <= (st.ats.length : Int)) :
  Calls Tryz.prog 36 #[.pointer (some ⟨gd, 0, none⟩), .int .i64 x, .func (.func 45) #[] #[.pointer (some ⟨b0, 0, none⟩), .pointer (some ⟨b1, 0, none⟩), .pointer (some ⟨b2, 0, none⟩), .pointer (some ⟨b3, 0, none⟩)]] w fun e w' => ∃ r, e = .returned (.int .i64 r) /\ OverPost B gd gb g enc lim n st dc x a K w0 r w' := by
 refine (work_any B gd gb g n enc lim x st dc _ _ (· = b3) (fun y ats' o' n' => ∃ (es : List Ed) (j : Nat), K <= nC (restC (sizedA enc st.ats) x) /\ es.map abE = overL x (restC (sizedA enc st.ats) x) a K /\ refF enc lim (sizedA enc st.ats) es = 0 /\ ClampOk (sizedA enc (edA es st.ats)) (x + K - 1) j /\ j <= nC (cont (sizedA enc (edA es st.ats)) (rowIx (sizedA enc (edA es st.ats)) (x + K - 1) false)) /\ y = clampX (sizedA enc (edA es st.ats)) (x + K - 1) j /\ (0 <= y /\ y <= ((edA es st.ats).length : Int)) /\ ats' = edA es st.ats /\ o' = shiftO st es x /\ n' = n + 131072)
  (fun r n' => n' = n /\ ((r = 120 /\ nC (restC (sizedA enc st.ats) x) < K) \/ (K <= nC (restC (sizedA enc st.ats) x) /\ ∃ es : List Ed, es.map abE = overL x (restC (sizedA enc st.ats) x) a K /\ r = refF enc lim (sizedA enc st.ats) es))) w h hn hc hdz Tryz.call45 (fun q hq => ⟨hq ▸ k3.lt, fun e => Blk.ne_ k3 h.desk (by decide) (hq.symm.trans e)⟩) (fun w1 hd1 hf1 => ?_) (fun at' ats' o' n' ha' => ?_) hud).mono ?_
 ·refine (over1_any B gd gb g n b0 b1 b2 b3 enc lim x a cnt K { st with now := some ⟨st.ats, x, [], st.state, false⟩ } ⟨st.ats, x, [], st.state, false⟩ dc w1 hd1 rfl (by simp) (hf1.blk k0 (by decide) (fun hx => hx)) (hf1.blk k1 (by decide) (fun hx => hx)) (hf1.blk k2 (by decide) (fun hx => hx)) (hf1.blk k3 (by decide) (fun hx => hx)) h31 h32 ha ha10 hK hK1 hc hnn).mono ?_
  rintro e w2 (⟨es, j, h1, h2, h3, rfl, h4, h5, hd2, hf2⟩ | ⟨r, h1, h2, rfl, hd2, hf2⟩)
  ·have hx := clampX_bd hd2.pos h5
   rw [sizedA_len] at hx
   exact .inl ⟨_, edA es st.ats, shiftO st es x, n + 131072, ⟨es, j, h1, h2, h3, h4, h5, rfl, hx, rfl, rfl, rfl⟩, rfl, hd2, hf2⟩
  ·exact .inr ⟨r, rfl, st.ats, ⟨st.ats, x, [], st.state, false⟩, n, ⟨rfl, h2⟩, h1, rfl, hd2, hf2⟩
 ·obtain ⟨es, j, _, _, _, _, _, _, hx, rfl, rfl, rfl⟩ := ha'
  exact ⟨hx, fun _ => hla⟩
 ·have hlow : ∀ q, q < w0.heap.size -> q = b3 -> False := fun q h1 h2 => by omega
  rintro e w2 (⟨rfl, at', ats', o', n', ⟨es, j, h1, h2, h3, h4, h5, rfl, hx, rfl, rfl, rfl⟩, hd, hfr⟩ | ⟨r, n', rfl, hr0, ⟨rfl, h2⟩, hd, hfr⟩)
  ·exact ⟨0, rfl, .inl ⟨rfl, es, j, h1, h2, h3, h4, h5, hd, DFr.call' hw0 hfr (fun q hq hx => hx.resolve_left (fun e => hlow q hq e))⟩⟩
  ·exact ⟨r, rfl, .inr ⟨hr0, h2, hd, DFr.call' hw0 hfr (fun q hq hx => hlow q hq hx)⟩⟩
theorem dover_any (B gd gb g n K : Nat) (enc lim at_ a cnt : Int) (st : BkS) (dc : Array Value) (w : World) (h : DeskIs w B gd gb g enc lim n st dc) (hn : st.now = none) (hdz : dc.size = 10) (h2 : dc[2]? = some (.int .i64 at_)) (ha : 0 < szA enc a) (ha10 : a ≠ 10) (hcnt : 1 <= cnt) (hK : min cnt 9999 = (K : Int)) (hnn : n + 131072 <= 1073741824) (hud : (st.undo.length : Int) <= st.depth) (hla : st.last < 1073741824) :
  Calls Tryz.prog 9 #[.pointer (some ⟨gd, 0, none⟩), .int .i64 cnt, .int .i64 a] w fun e w' => ∃ (r : Int) (j : Nat), e = .returned (.int .i64 r) /\ ClampOk (sizedA enc st.ats) at_ j /\ j <= nC (cont (sizedA enc st.ats) (rowIx (sizedA enc st.ats) at_ false)) /\
   OverPost B gd gb g enc lim n st dc (clampX (sizedA enc st.ats) at_ j) a K w r w' := by
 have hmf : ∀ (fn : Fn) (first cap : Array Value) (w : World), (Instr.makeFunc fn first cap).run Tryz.prog w = .ok (.func fn first cap) w := fun _ _ _ _ => rfl
 obtain ⟨j, hj1, hj2, hcl⟩ := clamp_fix h at_
 have hcb := clampX_bd h.pos hj2
 rw [sizedA_len] at hcb
 obtain ⟨x, hx⟩ : ∃ x, clampX (sizedA enc st.ats) at_ j = x := ⟨_, rfl⟩
 rw [hx] at hcl hcb
 have hw3 : Below w.heap.size w (((w.alloc (.cells #[.pointer (some ⟨gd, 0, none⟩)] 23)).alloc (.cells #[.int .i64 cnt] 3)).alloc (.cells #[.int .i64 a] 3)) := balloc (balloc (balloc (Below.refl _ _)))
 have b0 : Blk (((w.alloc (.cells #[.pointer (some ⟨gd, 0, none⟩)] 23)).alloc (.cells #[.int .i64 cnt] 3)).alloc (.cells #[.int .i64 a] 3)) w.heap.size 23 #[.pointer (some ⟨gd, 0, none⟩)] := ((Blk.new w _ _).alloc _).alloc _
 have b1 : Blk (((w.alloc (.cells #[.pointer (some ⟨gd, 0, none⟩)] 23)).alloc (.cells #[.int .i64 cnt] 3)).alloc (.cells #[.int .i64 a] 3)) (w.heap.size + 1) 3 #[.int .i64 cnt] := (Blk.new' (by simp)).alloc _
 have b2 : Blk (((w.alloc (.cells #[.pointer (some ⟨gd, 0, none⟩)] 23)).alloc (.cells #[.int .i64 cnt] 3)).alloc (.cells #[.int .i64 a] 3)) (w.heap.size + 1 + 1) 3 #[.int .i64 a] := Blk.new' (by simp)
 have HH := Lib.hid h
 have H2 := Lib.hid h2
 have HCL := Lib.hid hcl
 have q0 : (cnt < 1) = False := by simp; omega
 have HX := Lib.hid hx
 clear h hcl hx h2
 go_enter Tryz.func9, Tryz.ntmps9
 go_upto_region 1 with fail
 obtain ⟨w5, hw50⟩ : ∃ x', (((w.alloc (.cells #[.pointer (some ⟨gd, 0, none⟩)] 23)).alloc (.cells #[.int .i64 cnt] 3)).alloc (.cells #[.int .i64 a] 3)) = x' := ⟨_, rfl⟩
 rw [hw50] at hw3 b0 b1 b2 ⊢
 clear hw50
 have c1 := b1.cell 0
 simp only [List.getElem?_toArray, List.getElem?_cons_zero] at c1
 have hz5 : w.heap.size + 1 + 1 < w5.heap.size := b2.lt
 go_upto_region 3 with fail
 have hBD : ∀ w', Below w5.heap.size w5 w' -> w'.cell? ⟨w.heap.size, 0, none⟩ = some (.pointer (some ⟨gd, 0, none⟩)) /\ w'.cell? ⟨gd, 2, none⟩ = some (.int .i64 at_) := fun w' hb =>
  ⟨(b0.below hb).cell 0, ((HH.out.below (bseq hw3 hb)).desk.cell 2).trans H2.out⟩
 have HBD := Lib.hid hBD
 have HB := Lib.hid (And.intro b0 (And.intro b1 b2))
 clear hBD b0 b1 b2 c1
 refine wp_region_lin3 (fun w' => Below w5.heap.size w5 w') (fun w' => Below w5.heap.size w5 w') (fun k => k == 6 || k == 7) (fun k => k == 7) (fun _ => false) (fun k => k == 5) (fun _ => .int .i64 x) (by kernel_rfl) (by kernel_rfl) (by kernel_rfl) (Below.drew (Below.refl _ _)) (fun _ h => h) (fun _ _ h hb => bseq h hb) ?_
 repeat ((first
  | (refine wpL3_read (v := ?_) (by rfl) (by rfl) (by rfl) (fun w6 hSw => ?_) ?_; rotate_left; (· (obtain ⟨y0, y2⟩ := HBD.out _ hSw; go_simp; try with_reducible rfl)))
  | (refine wpL3_free (v := ?_) (by rfl) (by rfl) (fun w6 => ?_) ?_; rotate_left; (· (go_simp; try with_reducible rfl)))
  | refine wpL3_not (by rfl) (by rfl) ?_); (try simp only [Act.put, pA, pB, pC]))
 refine wpL3_call (f := ?_) (args := ?_) (v := .int .i64 x) (by rfl) (by rfl) (by rfl) (fun w6 hSw => ?_) (fun w6 hSw => ?_) ?_
 rotate_left 2
 ·(skip; go_simp; first | done | (constructor <;> with_reducible rfl) | with_reducible rfl)
 ·(exact HCL.out _ (HH.out.below (bseq hw3 hSw)))
 (try simp only [Act.put, pA, pB, pC])
 refine wpL3_heavy (NewB w5 3 #[.int .i64 0]) (by rfl) (by rfl) (fun w6 hSw => ?_) (.inr ⟨fun v6 w6 hT6 => ?_, fun v6 w6 w7 hT6 hb7 => ?_⟩) (fun v6 hv6 => ?_)
 ·(go_simp; exact NewB.new _ _ hSw)
 ·(exact hT6.bel)
 ·(exact hT6.keep hb7)
 obtain ⟨wz, r, rfl, -⟩ := hv6
 (try simp only [Act.put, pA, pB, pC])
 refine wpL3_heavy (fun _ w' => NewB w5 3 #[.int .i64 x] (.pointer (some ⟨r, 0, none⟩)) w') (by rfl) (by rfl) (fun w6 hSw => ?_) (.inl (by rfl)) (fun v6 hv6 => ?_)
 ·(obtain ⟨hge, hb, hbl⟩ := hSw.at_; have e0 := hb.cell 0; have f0 := hb.frozen 0; simp at e0; go_simp; exact ⟨r, rfl, hge, (hb.set_ 0 _).eq_ (by simp), hbl.setCell (p := ⟨r, 0, none⟩) hge _⟩)
 skip
 (try simp only [Act.put, pA, pB, pC])
 repeat ((first
  | (refine wpL3_read (v := ?_) (by rfl) (by rfl) (by rfl) (fun w6 hSw => ?_) ?_; rotate_left; (· (obtain ⟨y0, y2⟩ := HBD.out _ hSw; go_simp; try with_reducible rfl)))
  | (refine wpL3_free (v := ?_) (by rfl) (by rfl) (fun w6 => ?_) ?_; rotate_left; (· (go_simp; try with_reducible rfl)))
  | refine wpL3_not (by rfl) (by rfl) ?_); (try simp only [Act.put, pA, pB, pC]))
 refine wpL3_nil ?_
 rintro w6 hN
 obtain ⟨hge, hbr, hb6⟩ := hN.at_
 have hw6 := bseq hw3 hb6
 obtain ⟨y0, y2⟩ := HBD.out w6 hb6
 have y3 := hbr.cell 0
 simp only [List.getElem?_toArray, List.getElem?_cons_zero] at y3
 have HWK := Lib.hid (over_work B gd gb g n w.heap.size (w.heap.size + 1 + 1) r (w.heap.size + 1) enc lim x a cnt K st dc w w6 hw6 (Nat.le_succ _) (HH.out.below hw6) hn hdz (HB.out.1.below hb6) (HB.out.2.2.below hb6) hbr (HB.out.2.1.below hb6) (by omega) (by omega) ha ha10 hK (by omega) hnn hud hla hcb)
 clear hN hbr hv6 HBD HB hK hud hla hn hdz hnn
 go_wp2_with fail
 refine (HWK.out).mono ?_
 rintro e w7 ⟨r', rfl, hp⟩
 have HP := Lib.hid hp
 clear hp
 go_wp2_with fail
 go_ret
 exact ⟨r', j, rfl, hj1, hj2, by rw [HX.out]; exact HP.out⟩
def newS (enc depth : Int) (l : List Int) (mk : Nat) : BkS := { ats := tagF 0 0 (dec enc l), undo := [], redo := [], now := none, state := 0, saved := 0, last := 0, depth := depth, mb := mk }
def deskC (gb gk : Nat) (native : Int) : Array Value := #[.pointer (some ⟨gb, 0, none⟩), .pointer (some ⟨gk, 0, none⟩), .int .i64 0, .slice none 0 0, .slice none 0 0, .slice none 0 0, .int .i64 0, .bool false, .bool false, .int .i64 native]
theorem NewDesk.is {B : Nat} {enc lim native depth : Int} {l : List Int} {w : World} {gd gb gt m gk mk : Nat} (h : NewDesk B enc lim native depth l w gd gb gt m gk mk) (hl : l.length <= 65536) (hlim : lim <= 65536) (hd : 1 <= depth /\ depth <= 200) :
  DeskIs w B gd gb gt enc lim 0 (newS enc depth l mk) (deskC gb gk (natF ((dec enc l).map Prod.fst) native)) := by
 have hsz : ((dec enc l).map Prod.snd).sum <= 65536 := by rw [sum_dec enc l.length l (Nat.le_refl _)]; omega
 obtain ⟨t, a, hT, hds, hats⟩ := h.text.textM hsz
 have hge := h.ge
 have hlt := h.book.1.lt
 have hT' : TextM w B gt enc lim 0 (.slice none 0 0) t a [] := ⟨hT.blk, World.ownsRow_nil _ _ _ _, hT.enc4, by omega, hT.tree⟩
 refine ⟨h.desk, rfl, hge.1, w.heap.size, .slice none 0 0, t, a, [], m, .slice none 0 0, .slice none 0 0, none, 0, Nat.le_refl _, ?_⟩
 refine ⟨h.book.1, hT', hats, by rw [hds]; exact hsz, hlim, ⟨h.book.2, hge.2.2.2.2.2.2, h.bank.2.lt⟩, ?_, ?_, fun b hb => (by cases hb), rfl, Nat.le_refl _, ⟨Int.le_refl 0, (show (0 : Int) <= 1073741824 by decide), hd.1, hd.2⟩, ⟨hge.2.1, hge.2.2.1, by omega, fun p hp => (by cases hp)⟩⟩
 ·exact ⟨[], World.ownsRow_nil _ _ _ _, rfl, fun i p G hi => by simp at hi, by simp [newS]⟩
 ·exact ⟨[], World.ownsRow_nil _ _ _ _, rfl, fun i p G hi => by simp at hi, by simp [newS]⟩
theorem seg_whole {α : Type} (l : List α) : seg 0 (l.length : Int) l = l := by unfold seg; simp
section
variable {B gd gb g n : Nat} {enc lim : Int} {st : BkS} {dc : Array Value} {w : World}
theorem btext_desk (h : DeskIs w B gd gb g enc lim n st dc) : Calls Tryz.prog 11 #[.pointer (some ⟨gb, 0, none⟩)] w fun e w' => e = .returned (.pointer (some ⟨g, 0, none⟩)) /\ w = w' := by
 obtain ⟨cs, hb, h0⟩ := h.blkB
 exact btext_any w gb g cs hb h0
end
def RowR1 (n : Nat) (w : World) (k : Nat) (q12 : Value) (wr : World) : Prop := ∃ i : Nat, q12 = .int .i64 (i : Int) /\ i <= n /\ n - i <= k /\ wr = w
def RowR2 (n T : Nat) (w : World) (k : Nat) (q13 : Value) (wr : World) : Prop := ∃ i : Nat, q13 = .int .i64 (i : Int) /\ n <= i /\ i <= T /\ T - i <= k /\ wr = w
theorem rep_left {x y : Int} {n m i : Nat} (h : i < n) : (List.replicate n x ++ List.replicate m y).getD i 0 = x := by
 rw [List.getD_eq_getElem?_getD, List.getElem?_append_left (by simpa using h), List.getElem?_replicate, if_pos h]
 rfl
theorem rep_right {x y : Int} {n m i : Nat} (h : n <= i) (h2 : i < n + m) : (List.replicate n x ++ List.replicate m y).getD i 0 = y := by
 rw [List.getD_eq_getElem?_getD, List.getElem?_append_right (by simpa using h), List.getElem?_replicate, if_pos (by simp; omega)]
 rfl
section
variable {B gd gb g N0 : Nat} {enc lim : Int} {st : BkS} {dc : Array Value} {w : World}
theorem rowOf_true (h : DeskIs w B gd gb g enc lim N0 st dc) (x y : Int) (n m : Nat) (hat : st.ats.map Prod.fst = List.replicate n x ++ List.replicate m y) :
  Calls Tryz.prog 10 #[.pointer (some ⟨gd, 0, none⟩), .int .i64 x, .int .i64 (n : Int), .int .i64 y, .int .i64 (m : Int)] w fun e w' => e = .returned (.bool true) /\ Below w.heap.size w w' := by
 have hlen := h.len
 have hln : st.ats.length = n + m := by
  have := congrArg List.length hat
  simpa using this
 obtain ⟨T, hT⟩ : ∃ T, n + m = T := ⟨_, rfl⟩
 rw [hT] at hln
 rw [hln] at hlen
 have HBT := Lib.hid (fun (w' : World) (hb : Below w.heap.size w w') => btext_desk (h.below hb))
 have HLE := Lib.hid (fun (w' : World) (hb : Below w.heap.size w w') => (by
  have := len_any Any g enc (sizedA enc st.ats) w' (h.below hb).at_
  rw [sizedA_len, hln] at this
  exact this : Calls Tryz.prog 12 #[.pointer (some ⟨g, 0, none⟩)] w' fun e w'' => e = .returned (.int .i64 (T : Int)) /\ Below w'.heap.size w' w''))
 obtain ⟨L, hL⟩ : ∃ L, st.ats.map Prod.fst = L := ⟨_, rfl⟩
 have hLl : L.length = T := by rw [<- hL, List.length_map, hln]
 have HAT := Lib.hid (fun (w' : World) (hb : Below w.heap.size w w') => (by
  have := tatoms_any Any g enc (sizedA enc st.ats) 0 ((T : Int) + 1) w' (h.below hb).at_ (by omega) (by omega)
  rw [sizedA_fst, hL] at this
  rw [show seg 0 ((T : Int) + 1) L = L by unfold seg; rw [show Int.toNat 0 = 0 from rfl, List.drop_zero]; exact List.take_of_length_le (by omega)] at this
  exact this : Calls Tryz.prog 42 #[.pointer (some ⟨g, 0, none⟩), .int .i64 0, .int .i64 ((T : Int) + 1)] w' (NewInts L w')))
 have hc0 := fun (w' : World) (hb : Below w.heap.size w w') => ((h.below hb).desk.cell 0).trans (h.below hb).c0
 have HC0 := Lib.hid hc0
 have d0 := hc0 w (Below.refl _ _)
 rw [hL] at hat
 have HL1 := Lib.hid (fun (i : Nat) (hi : i < n) => (by rw [hat]; exact rep_left hi : L.getD i 0 = x))
 have HL2 := Lib.hid (fun (i : Nat) (h1 : n <= i) (h2 : i < T) => (by rw [hat]; exact rep_right h1 (by omega) : L.getD i 0 = y))
 have wT : IntKind.i64.wrap ((n : Int) + (m : Int)) = (T : Int) := by rw [IntWalk.i64_in _ (by omega)]; omega
 have wT1 : IntKind.i64.wrap ((T : Int) + 1) = (T : Int) + 1 := IntWalk.i64_in _ (by omega)
 have hnT : n <= T := by omega
 have HLL := Lib.hid hLl
 clear h hat hln hc0 hL hLl hT
 go_enter Tryz.func10, Tryz.ntmps10
 go_wp2_with fail
 refine (HBT.out _ (Below.refl _ _)).mono ?_
 rintro e w1 ⟨rfl, rfl⟩
 go_wp2_with fail
 refine (HAT.out _ (Below.refl _ _)).mono ?_
 rintro e w1 ⟨v, rfl, ho, hb1⟩
 obtain ⟨A7, c7, rfl, hc7⟩ := own_slice ho
 have hI := (IntsI.of_own ho).any
 rw [HLL.out] at hI ⊢
 have HI := Lib.hid hI
 have d0 := HC0.out _ hb1
 have q1 : ((T : Int) == (T : Int)) = true := by simp
 clear ho hI
 go_wp2_with fail
 refine (HBT.out _ hb1).mono ?_
 rintro e w2 ⟨rfl, rfl⟩
 go_wp2_with fail
 refine (HLE.out _ hb1).mono ?_
 rintro e w2 ⟨rfl, hb2⟩
 have hb12 := bseq hb1 hb2
 have hI2 := Lib.hid (Reads.below HI.out hb2)
 go_wp2_with fail
 go_loopg [12] n (fun k q12 wr => RowR1 n w2 k q12 wr)
 case atStart => exact ⟨0, rfl, Nat.zero_le _, by omega, rfl⟩
 case round =>
  obtain ⟨i, rfl, hi, hk, rfl⟩ := hrel
  by_cases hgo : i < n
  ·have p1 : ((i : Int) < (n : Int)) = True := by simp; omega
   obtain ⟨ad, rfl, _, cx⟩ := Ints.at_ hI2.out (show i < T by omega)
   rw [HL1.out i hgo] at cx
   have hiT : i < T := by omega
   have wi : IntKind.i64.wrap ((i : Int) + 1) = ((i + 1 : Nat) : Int) := by rw [IntWalk.i64_in _ (by omega)]; omega
   go_wp2_with fail
   go_roundg (n - (i + 1))
   case measure => omega
   case rel => exact ⟨i + 1, by simp, by omega, by omega, rfl⟩
  ·have p1 : ((i : Int) < (n : Int)) = False := by simp; omega
   go_wp2_with fail
   go_loopg [13] T (fun k q13 wr' => RowR2 n T wr k q13 wr')
   case atStart => exact ⟨n, rfl, by omega, by omega, by omega, rfl⟩
   case round =>
    obtain ⟨i', rfl, hn', hi', hk', rfl⟩ := hrel
    by_cases hgo' : i' < T
    ·have p2 : ((i' : Int) < (T : Int)) = True := by simp; omega
     obtain ⟨ad, rfl, _, cx⟩ := Ints.at_ hI2.out hgo'
     rw [HL2.out i' hn' hgo'] at cx
     have wi : IntKind.i64.wrap ((i' : Int) + 1) = ((i' + 1 : Nat) : Int) := by rw [IntWalk.i64_in _ (by omega)]; omega
     go_wp2_with fail
     go_roundg (T - (i' + 1))
     case measure => omega
     case rel => exact ⟨i' + 1, by simp, by omega, by omega, by omega, rfl⟩
    ·have p2 : ((i' : Int) < (T : Int)) = False := by simp; omega
     go_wp2_with fail
     go_ret
     exact ⟨rfl, hb12⟩
end
def LtA (x : Int) : Prop := x = 97 \/ x = 120 \/ x = 9
theorem lt_join {a b : Int} (ha : LtA a) (hb : LtA b) : joinsF (beginF a) b = false := by
 rcases ha with rfl | rfl | rfl <;> rcases hb with rfl | rfl | rfl <;> kernel_rfl
theorem word9 : wordF 9 = 0 := by kernel_rfl
theorem word97 : wordF 97 = 2 := by kernel_rfl
theorem lt_no {x : Int} (h : LtA x) : x ≠ 10 /\ x ≠ 13 := by rcases h with rfl | rfl | rfl <;> exact ⟨by decide, by decide⟩
theorem lt_sz {x : Int} (h : LtA x) : szA 4 x = 1 := by rcases h with rfl | rfl | rfl <;> decide
section
variable {A : List Int} (h : ∀ x ∈ A, LtA x)
include h
theorem lt_getD {p : Nat} (hp : p < A.length) : LtA (A.getD p 0) := by
 rw [List.getD_eq_getElem?_getD, List.getElem?_eq_getElem hp]
 exact h _ (List.getElem_mem _)
theorem lt_nextB {p : Nat} (hp : p < A.length) : nextB A p = p + 1 := by
 unfold nextB
 rcases Nat.lt_or_ge (p + 1) A.length with h1 | h1
 ·rw [List.drop_eq_getElem_cons h1]
  unfold runF
  rw [lt_join (lt_getD h hp) (h _ (List.getElem_mem _)), if_neg (by decide)]
 ·rw [List.drop_eq_nil_of_le h1]
  rfl
theorem lt_mk : ∀ k, k <= A.length -> k <= nC A /\ mkb A k = k := by
 intro k
 induction k with
 | zero => intro _; exact ⟨Nat.zero_le _, mk_zero A⟩
 | succ k ih =>
  intro hk
  obtain ⟨h1, h2⟩ := ih (by omega)
  have h3 : k < nC A := by
   rcases Nat.lt_or_ge k (nC A) with h3 | h3
   ·exact h3
   ·have := mk_last A
    rw [show nC A = k by omega, h2] at this
    omega
  refine ⟨h3, ?_⟩
  rw [(mk_step h3).2, h2, lt_nextB h (by omega)]
theorem lt_nC : nC A = A.length := Nat.le_antisymm (nC_le A) (lt_mk h _ (Nat.le_refl _)).1
theorem lt_isE (p : Nat) : isE A p = false := by
 unfold isE
 rw [decide_eq_false_iff_not]
 rintro ⟨h1, h2, h3⟩
 have := lt_no (lt_getD h (p := p - 1) (by omega))
 rcases h3 with h3 | ⟨h3, _⟩
 ·exact this.1 h3
 ·exact this.2 h3
theorem lt_cnt (m : Nat) : cntE A m = 0 := by
 induction m with
 | zero => rfl
 | succ m ih => rw [cntE_succ, ih, lt_isE h, if_neg (by decide)]
theorem lt_sizes : szL_ 4 A = (A.length : Int) := by
 unfold szL_
 induction A with
 | nil => rfl
 | cons x r ih =>
  rw [List.map_cons, List.sum_cons, ih (fun y hy => h y (List.mem_cons_of_mem _ hy)), lt_sz (h x List.mem_cons_self), List.length_cons]
  omega
theorem lt_inC {r j : Nat} (hr : r <= A.length) (hj : InC A r j) : j = r := by
 refine hj.uniq ⟨by rw [lt_nC h]; exact hr, by rw [(lt_mk h r hr).2]; exact Nat.le_refl _, fun k h1 h2 => ?_⟩
 rw [lt_nC h] at h2
 rw [(lt_mk h k h2).2]
 exact h1
theorem lt_next {p : Nat} (hp : p < A.length) : nextF A p = p + 1 := by
 obtain ⟨j, hj⟩ := inC_ex (C := A) (r := p) (by omega)
 have e := lt_inC h (by omega) hj
 subst e
 rw [nextF_mk hj hp, (lt_mk h _ (by omega)).2]
end
section
variable {ds : List (Int × Int)} {A : List Int} (hd : ds.map Prod.fst = A) (h : ∀ x ∈ A, LtA x)
include hd h
omit h in
theorem lt_len : ds.length = A.length := by rw [<- hd, List.length_map]
theorem lt_ofF (x : Int) : ofF ds x = 0 := by unfold ofF; rw [hd]; exact lt_cnt h _
theorem lt_totE : totE ds = 0 := by unfold totE; rw [hd]; exact lt_cnt h _
theorem lt_row (x : Int) (b : Bool) : rowIx ds x b = 0 := by
 unfold rowIx
 rw [lt_ofF hd h]
 split
 ·rfl
 ·exact Nat.zero_min _
theorem lt_line : lineF ds 0 = ⟨0, (A.length : Int), (A.length : Int), 0⟩ := by
 unfold lineF
 rw [lt_totE hd h, if_neg (by omega), sk_zero, lt_len hd]
 rfl
theorem lt_cont : cont ds 0 = A := by
 unfold cont
 rw [lt_line hd h, hd]
 exact seg_whole A
theorem lt_clamp {x : Int} {j : Nat} (h0 : 0 <= x) (h1 : x < (A.length : Int)) (hj : ClampOk ds x j) : clampX ds x j = x := by
 unfold ClampOk at hj
 unfold clampX
 rw [lt_row hd h, lt_line hd h, lt_cont hd h] at hj
 rw [lt_row hd h, lt_line hd h, lt_cont hd h]
 dsimp only at hj ⊢
 rw [lt_len hd] at hj
 rw [if_neg (by omega)] at hj
 have e := lt_inC h (by omega) hj
 rw [(lt_mk h j (by omega)).2]
 omega
theorem lt_putX (h1 : 0 < A.length) : putX ds false 0 = 1 := by
 unfold putX
 rw [lt_ofF hd h, lt_line hd h, lt_cont hd h]
 dsimp only
 rw [if_pos ⟨rfl, by omega⟩, show ((0 : Int) - 0).toNat = 0 from rfl, lt_next h h1]
 rfl
theorem lt_rest : restC ds 0 = A := by
 unfold restC
 rw [lt_ofF hd h, lt_line hd h, hd]
 exact seg_whole A
end
theorem lt_szS {ats : List (Int × Int)} {A : List Int} (hd : ats.map Prod.fst = A) (h : ∀ x ∈ A, LtA x) : szS (sizedA 4 ats) = (A.length : Int) := by
 rw [<- lt_sizes h, <- hd]
 unfold szS sizedA withSz szL_
 rw [List.map_map]
 rfl
theorem lt_bytes {ats : List (Int × Int)} {A : List Int} (hp : PosD (sizedA 4 ats)) (hd : ats.map Prod.fst = A) (h : ∀ x ∈ A, LtA x) : (sumsOf (sizedA 4 ats)).bytes = (A.length : Int) := by
 have := szS_bytes hp (sizedA 4 ats).length
 rw [List.take_length] at this
 rw [this, lt_szS hd h]
theorem lt_fit {P : List Int} (h : ∀ x ∈ P, LtA x) : fitP 4 P = true := by
 unfold fitP
 rw [List.all_eq_true]
 intro x hx
 rw [lt_sz (h x hx)]
 rfl
theorem rem1_pos {ds : List (Int × Int)} (hp : PosD ds) (e : Ed) : 0 <= rem1 ds e := by
 unfold rem1
 split
 ·rw [szS_bytes hp, szS_bytes hp]
  have := szS_mono hp e.f.toNat e.t.toNat (by omega)
  omega
 ·exact Int.le_refl 0
theorem remB_pos {ds : List (Int × Int)} (hp : PosD ds) (es : List Ed) : 0 <= remB ds es := by
 unfold remB
 induction es with
 | nil => exact Int.le_refl 0
 | cons e r ih =>
  rw [List.map_cons, List.sum_cons]
  have := rem1_pos hp e
  omega
theorem lt_ref {ats : List (Int × Int)} {A : List Int} (hp : PosD (sizedA 4 ats)) (hd : ats.map Prod.fst = A) (h : ∀ x ∈ A, LtA x) {es : List Ed} {lim : Int} (h1 : es.length <= 70000) (h2 : ordF 0 A.length es = true) (h3 : ∀ e ∈ es, ∀ x ∈ e.put, LtA x) (h4 : (A.length : Int) + putN es <= lim) : refF 4 lim (sizedA 4 ats) es = 0 := by
 have hl : (sizedA 4 ats).length = A.length := by rw [sizedA_len, <- hd, List.length_map]
 have hfit : fitF 4 es = true := by
  unfold fitF
  rw [List.all_eq_true]
  exact fun e he => lt_fit (h3 e he)
 have hput : putB 4 es = (putN es : Int) := by
  unfold putB putN
  clear h1 h2 h4 hfit
  induction es with
  | nil => rfl
  | cons e r ih =>
   rw [List.map_cons, List.sum_cons, List.map_cons, List.sum_cons, ih (fun x hx => h3 x (List.mem_cons_of_mem _ hx)), lt_sizes (h3 e List.mem_cons_self)]
   omega
 have hrem := remB_pos hp es
 unfold refF
 rw [if_neg (by omega), hl, h2, if_neg (by decide), hfit, if_neg (by decide), lt_bytes hp hd h, hput, if_neg (by omega)]
theorem rep_app (x : Int) (n m : Nat) : List.replicate n x ++ List.replicate m x = List.replicate (n + m) x := List.replicate_append_replicate ..
theorem repeat_one (x : Int) (K : Nat) : repeatL [x] K = List.replicate K x := by
 induction K with
 | zero => rfl
 | succ K ih =>
  unfold repeatL
  rw [ih, <- List.replicate_succ']
theorem lt_rep {x : Int} (hx : LtA x) {n : Nat} : ∀ y ∈ List.replicate n x, LtA y := fun y hy => by rw [List.eq_of_mem_replicate hy]; exact hx
theorem lt_reps {x y : Int} (hx : LtA x) (hy : LtA y) {n m : Nat} : ∀ z ∈ List.replicate n x ++ List.replicate m y, LtA z := fun z hz => by
 rcases List.mem_append.1 hz with h | h
 ·exact lt_rep hx z h
 ·exact lt_rep hy z h
theorem lt97 : LtA 97 := .inl rfl
theorem lt120 : LtA 120 := .inr (.inl rfl)
theorem lt9 : LtA 9 := .inr (.inr rfl)
theorem cshift_ats (st : BkS) (es : List Ed) (c x : Int) : (shiftS st es c x).ats = edA es st.ats := by
 unfold shiftS endF
 split <;> rfl
theorem edA_one {ats : List (Int × Int)} {L : List Int} (hd : ats.map Prod.fst = L) (x : Nat) (P : List Int) (A : Option Addr) (k : Nat) : (edA [typeE (x : Int) P A k] ats).map Prod.fst = L.take x ++ P ++ L.drop x := by
 unfold edA
 rw [edL_map, hd]
 show List.take _ _ ++ List.map _ _ ++ List.drop _ _ = _
 simp [typeE, edL]
theorem put_cnt {B gd gb g n N K : Nat} {st : BkS} {dc : Array Value} {c r : Int} {w w' : World} (hp : PutsPost B gd gb g 4 65536 n st dc [97] (repeatL [97] K) K 1 c w r w') (hd : st.ats.map Prod.fst = List.replicate N 97) (hN : 1 <= N /\ N <= 30000) (hK : 1 <= K /\ K <= 9999) (hpos : PosD (sizedA 4 st.ats)) :
  r = 0 /\ ∃ st', DeskIs w' B gd gb g 4 65536 (n + 131072) st' (dc.setIfInBounds 2 (.int .i64 (K : Int))) /\ st'.ats.map Prod.fst = List.replicate (N + K) 97 /\ DFr B (· = gd) w w' := by
 rw [repeat_one] at hp
 have href : ∀ A k, refF 4 65536 (sizedA 4 st.ats) [typeE 1 (List.replicate K 97) A k] = 0 := fun A k => by
  refine lt_ref hpos hd (lt_rep lt97) (by simp) ?_ (fun e he x hx => ?_) ?_
  ·simp only [List.length_replicate]
   unfold ordF typeE
   dsimp only
   rw [if_neg (by omega)]
   rfl
  ·rw [List.mem_singleton.1 he] at hx
   exact lt_rep lt97 x hx
  ·simp [putN, typeE]
   omega
 have hbr : brokenF (List.replicate K 97) = false := by
  unfold brokenF
  rw [List.any_eq_false]
  intro x hx
  rw [List.eq_of_mem_replicate hx]
  decide
 rcases hp with ⟨rfl, A, k, j, T, hT, _, hj, _, hdk, hf⟩ | ⟨h0, h1, _⟩
 ·rw [hbr, if_neg (by decide), List.length_replicate] at hT
  have hT' : T = (K : Int) := by omega
  subst hT'
  have hfst : (edA [typeE 1 (List.replicate K 97) A k] st.ats).map Prod.fst = List.replicate (N + K) 97 := by
   have := edA_one hd 1 (List.replicate K 97) A k
   rw [List.take_replicate, List.drop_replicate, rep_app, rep_app] at this
   rw [show ((1 : Nat) : Int) = 1 from rfl] at this
   rw [this]
   congr 1
   omega
  have hcl := lt_clamp (ds := sizedA 4 (edA [typeE 1 (List.replicate K 97) A k] st.ats)) ((sizedA_fst _ _).trans hfst) (lt_rep lt97) (x := (K : Int)) (by omega) (by rw [List.length_replicate]; omega) hj
  rw [hcl] at hdk
  exact ⟨rfl, _, hdk, by rw [cshift_ats]; exact hfst, hf⟩
 ·exfalso
  rcases h1 with h1 | ⟨A, k, h1⟩
  ·apply h0
   rw [h1]
   unfold oftE
   have e1 : szL_ 4 [97] = 1 := by decide
   rw [if_neg (by decide), e1, if_neg (by omega)]
  ·exact h0 (h1.trans (href A k))
theorem edL_over {α : Type} (f : Int -> α) (a : Int) : ∀ (m s : Nat) (es : List Ed) (l : List α), es.map abE = (List.range' s m).map (fun i : Nat => ((i : Int), ((i + 1 : Nat) : Int), [a])) -> s + m <= l.length -> edL f es l = l.take s ++ List.replicate m (f a) ++ l.drop (s + m) := by
 intro m
 induction m with
 | zero =>
  intro s es l he _
  have : es = [] := by simpa using he
  subst this
  simp [edL]
 | succ m ih =>
  intro s es l he hs
  cases es with
  | nil => cases he
  | cons e es =>
   rw [List.range'_succ, List.map_cons, List.map_cons] at he
   injection he with he1 he2
   unfold abE at he1
   injection he1 with e1 he1
   injection he1 with e2 e3
   rw [edL_cons, ih (s + 1) es l he2 (by omega), List.append_assoc]
   unfold ed1
   rw [e1, e2, e3, Int.toNat_natCast, Int.toNat_natCast, List.take_append_of_le_length (by rw [List.length_take]; omega), List.take_take, Nat.min_eq_left (by omega), List.drop_left' (by rw [List.length_take]; omega),
    List.map_cons, List.map_nil, List.replicate_succ, show s + 1 + m = s + (m + 1) by omega]
   simp
theorem overL_lt {A : List Int} (h : ∀ x ∈ A, LtA x) {a : Int} {K : Nat} (hK : K <= A.length) : overL 0 A a K = (List.range' 0 K).map (fun i : Nat => ((i : Int), ((i + 1 : Nat) : Int), [a])) := by
 unfold overL
 rw [List.range_eq_range']
 refine List.map_congr_left fun i hi => ?_
 have := List.mem_range'_1.1 hi
 rw [(lt_mk h i (by omega)).2, (lt_mk h (i + 1) (by omega)).2, Int.zero_add, Int.zero_add]
theorem over_cnt {B gd gb g n N K : Nat} {st : BkS} {dc : Array Value} {r : Int} {w w' : World} (hp : OverPost B gd gb g 4 65536 n st dc 0 120 K w r w') (hd : st.ats.map Prod.fst = List.replicate N 97) (hN : 1 <= N /\ N <= 30000) (hK : 1 <= K /\ K <= 9999) (hpos : PosD (sizedA 4 st.ats)) :
  (K <= N /\ r = 0 /\ ∃ st', DeskIs w' B gd gb g 4 65536 (n + 131072) st' (dc.setIfInBounds 2 (.int .i64 ((K : Int) - 1))) /\ st'.ats.map Prod.fst = List.replicate K 120 ++ List.replicate (N - K) 97 /\ DFr B (· = gd) w w') \/
  (N < K /\ r ≠ 0 /\ DeskIs w' B gd gb g 4 65536 n st dc /\ DFr B (fun _ => False) w w') := by
 have hdz : (sizedA 4 st.ats).map Prod.fst = List.replicate N 97 := (sizedA_fst _ _).trans hd
 have hlt := lt_rep lt97 (n := N)
 unfold OverPost at hp
 rw [lt_rest hdz hlt, lt_nC hlt, List.length_replicate] at hp
 have hfacts : K <= N -> ∀ es : List Ed, es.map abE = overL 0 (List.replicate N 97) 120 K -> refF 4 65536 (sizedA 4 st.ats) es = 0 /\ (edA es st.ats).map Prod.fst = List.replicate K 120 ++ List.replicate (N - K) 97 := fun hKN es he => by
  have hl := over_len he
  rw [overL_lt hlt (by rw [List.length_replicate]; exact hKN)] at he
  refine ⟨lt_ref hpos hd hlt (by omega) ?_ (fun e hin x hx => ?_) (by rw [List.length_replicate, hl.2]; omega), ?_⟩
  ·refine ordF_of (fun i => (i : Int)) (fun i => ((i + 1 : Nat) : Int)) (fun _ => [120]) _ _ es 0 he ?_ (fun p hp => ?_)
   ·refine (List.pairwise_lt_range' (s := 0) (n := K)).imp ?_
    intro a b hab
    omega
   ·have := List.mem_range'_1.1 hp
    rw [List.length_replicate]
    omega
  ·have h1 : abE e ∈ es.map abE := List.mem_map_of_mem hin
   rw [he] at h1
   obtain ⟨i, _, hi⟩ := List.mem_map.1 h1
   unfold abE at hi
   injection hi with _ hi
   injection hi with _ hi
   rw [<- hi] at hx
   rw [List.mem_singleton.1 hx]
   exact lt120
  ·unfold edA
   rw [edL_map, hd, edL_over (fun x : Int => x) 120 K 0 es _ he (by rw [List.length_replicate]; omega)]
   simp
 rcases hp with ⟨rfl, es, j, h1, h2, h3, h4, h5, hdk, hf⟩ | ⟨h0, h1, hdk, hf⟩
 ·obtain ⟨_, hfst⟩ := hfacts h1 es h2
  have hcl := lt_clamp (ds := sizedA 4 (edA es st.ats)) ((sizedA_fst _ _).trans hfst) (lt_reps lt120 lt97) (x := 0 + (K : Int) - 1) (by omega) (by rw [List.length_append, List.length_replicate, List.length_replicate]; omega) h4
  rw [hcl, Int.zero_add] at hdk
  exact .inl ⟨h1, rfl, _, hdk, by rw [cshift_ats]; exact hfst, hf⟩
 ·rcases h1 with ⟨_, h1⟩ | ⟨h1, es, h2, h3⟩
  ·exact .inr ⟨h1, h0, hdk, hf⟩
  ·exact absurd (h3.trans (hfacts h1 es h2).1) h0
theorem sign_cnt {N K j : Nat} (hN : 1 <= N) (h : SignOk (List.replicate K 9 ++ List.replicate N 97) j) : j = K := by
 have hlt := lt_reps lt9 lt97 (n := K) (m := N)
 obtain ⟨h1, h2, h3⟩ := h
 rw [lt_nC hlt] at h2 h3
 have hl : (List.replicate K (9 : Int) ++ List.replicate N 97).length = K + N := by simp
 rw [hl] at h2 h3
 have kdL : ∀ i, i < K -> kd (List.replicate K 9 ++ List.replicate N 97) i = 0 := fun i hi => by
  unfold kd
  rw [(lt_mk hlt i (by rw [hl]; omega)).2, rep_left hi, word9]
 have kdR : kd (List.replicate K 9 ++ List.replicate N 97) K = 2 := by
  unfold kd
  rw [(lt_mk hlt K (by rw [hl]; omega)).2, rep_right (Nat.le_refl _) (by omega), word97]
 rcases Nat.lt_trichotomy j K with h4 | h4 | h4
 ·have := h3 (by omega)
  rw [kdL j h4] at this
  exact absurd rfl this
 ·exact h4
 ·have := h1 K h4
  rw [kdR] at this
  exact absurd this (by decide)
theorem shift_cnt {B gd gb g n N : Nat} {st : BkS} {dc : Array Value} {r k : Int} {w w' : World} (hp : ShiftPost B gd gb g 4 65536 n st dc k 0 0 w r w') (hd : st.ats.map Prod.fst = List.replicate N 97) (hN : 1 <= N /\ N <= 30000) (hk : k <= 9999) (hpos : PosD (sizedA 4 st.ats)) :
  r = 0 /\ ∃ st', DeskIs w' B gd gb g 4 65536 (n + 131072) st' (dc.setIfInBounds 2 (.int .i64 (k.toNat : Int))) /\ st'.ats.map Prod.fst = List.replicate k.toNat 9 ++ List.replicate N 97 /\ DFr B (· = gd) w w' := by
 have hdz : (sizedA 4 st.ats).map Prod.fst = List.replicate N 97 := (sizedA_fst _ _).trans hd
 have hlt := lt_rep lt97 (n := N)
 have hline := lt_line hdz hlt
 have hcont := lt_cont hdz hlt
 have hpsF : (psF (sizedA 4 st.ats) 0 (0 + 1 - 0)).length = 1 := by
  unfold psF
  show (List.flatMap _ [0]).length = 1
  rw [List.flatMap_cons, List.flatMap_nil, List.append_nil, hline, if_pos (by simp; omega)]
  rfl
 have hshL : shL (sizedA 4 st.ats) k 0 (0 + 1 - 0) = if k < 0 then [] else [(0, 0, tabs k.toNat)] := by
  rw [show 0 + 1 - 0 = 0 + 1 from rfl, shL_cons, show shL (sizedA 4 st.ats) k (0 + 1) 0 = [] from rfl, List.append_nil]
  unfold shE
  by_cases h0 : k < 0
  ·rw [if_pos h0, if_pos h0, hcont]
   have hld : ldF (List.replicate N 97) (-k).toNat 0 = 0 := by
    cases hm : (-k).toNat with
    | zero => rfl
    | succ m =>
     have g0 : (List.replicate N (97 : Int)).getD 0 0 = 97 := by
      cases N with
      | zero => omega
      | succ N => rfl
     have e0 : ldStep (List.replicate N 97) 0 = 0 := by
      unfold ldStep
      rw [g0, if_neg (fun hh => absurd hh.2 (by decide))]
      unfold spc
      rw [g0, if_neg (fun hh => absurd hh.2 (by decide))]
     unfold ldF
     rw [if_pos e0]
   rw [hld, if_neg (by omega)]
  ·rw [if_neg h0, if_neg h0, hline]
   dsimp only
   rw [List.length_replicate, if_pos (by omega)]
 rcases hp with ⟨rfl, es, c, x, h1, h2, ⟨i, ⟨j, _, _, hi⟩, j', hs, hx⟩, h4, hdk, hf⟩ | ⟨_, h1, h2, _⟩
 ·have hfst : (edA es st.ats).map Prod.fst = List.replicate k.toNat 9 ++ List.replicate N 97 := by
   rw [hshL] at h1
   by_cases h0 : k < 0
   ·rw [if_pos h0] at h1
    have : es = [] := by simpa using h1
    subst this
    rw [show k.toNat = 0 by omega]
    exact hd
   ·rw [if_neg h0] at h1
    cases es with
    | nil => cases h1
    | cons e es =>
     rw [List.map_cons] at h1
     injection h1 with h1 h5
     have : es = [] := by simpa using h5
     subst this
     unfold abE at h1
     injection h1 with e1 h1
     injection h1 with e2 e3
     unfold edA
     rw [edL_map, hd]
     show ed1 _ e (List.replicate N 97) = _
     unfold ed1
     rw [e1, e2, e3]
     simp [tabs]
  have hlt2 := lt_reps lt9 lt97 (n := k.toNat) (m := N)
  have hdz2 : (sizedA 4 (edA es st.ats)).map Prod.fst = _ := (sizedA_fst _ _).trans hfst
  rw [lt_row hdz2 hlt2] at hi
  subst hi
  rw [lt_cont hdz2 hlt2] at hs hx
  rw [lt_line hdz2 hlt2] at hx
  have hj := sign_cnt hN.1 hs
  subst hj
  rw [(lt_mk hlt2 _ (by simp)).2] at hx
  dsimp only at hx
  rw [Int.zero_add] at hx
  rw [hx] at hdk
  exact ⟨rfl, _, hdk, by rw [cshift_ats]; exact hfst, hf⟩
 ·exfalso
  rw [hpsF, lt_szS hd hlt, List.length_replicate, lt_sz lt9] at h2
  omega
theorem BankIs.of_new {w : World} {B gk mk : Nat} (h : BankAt w gk mk) (h1 : B <= gk) (h2 : B <= mk) : BankIs w B gk mk (fun _ => none) 0 :=
 ⟨h.1, ⟨h1, h2⟩, [], MapIs.of_empty h.2, List.nodup_nil, fun _ => rfl⟩
theorem put4 (xs : List Int) : putL 4 xs = xs := by
 induction xs with
 | nil => rfl
 | cons a r ih => rw [putL_cons, ih]; rfl
theorem dec_lt {xs : List Int} (h : ∀ x ∈ xs, LtA x) : dec 4 xs = withSz 4 xs := by
 have := dec_putL 4 (.inr (.inr (.inr rfl))) xs (fun a ha => by rw [lt_sz (h a ha)]; decide) (fun a ha => by rcases h a ha with rfl | rfl | rfl <;> exact ⟨by decide, by omega⟩)
 rwa [put4] at this
theorem lt_byt {xs : List Int} (h : ∀ x ∈ xs, LtA x) : Byt xs := fun x hx => by rcases h x hx with rfl | rfl | rfl <;> omega
theorem newS_lt {xs : List Int} (h : ∀ x ∈ xs, LtA x) (depth : Int) (mk : Nat) : (newS 4 depth xs mk).ats.map Prod.fst = xs := by
 unfold newS
 dsimp only
 rw [tagF_fst, dec_lt h]
 unfold withSz
 rw [List.map_map]
 exact List.map_id' _
def LetPost (N : Nat) (w : World) (e : Ending) (w' : World) : Prop :=
 ∃ B gd gb gt gk nv st, w.heap.size <= B /\ e = .returned (.tuple #[.pointer (some ⟨gd, 0, none⟩), .bool true]) /\ DeskIs w' B gd gb gt 4 65536 0 st (deskC gb gk nv) /\ BankIs w' B gk st.mb (fun _ => none) 0 /\ st.ats.map Prod.fst = List.replicate N 97 /\ st.now = none /\ (st.undo.length : Int) <= st.depth /\ st.last < 1073741824 /\ Below w.heap.size w w'
def LetR (N : Nat) (w0 : World) (k : Nat) (q4 q5 : Value) (wr : World) : Prop :=
 ∃ i : Nat, q5 = .int .i64 (i : Int) /\ i <= N /\ N - i <= k /\ Hid (wr.ownsRow w0.heap.size 5 1 q4 i ((List.replicate i (97 : Int)).map (Value.int .u8))) /\ Below w0.heap.size w0 wr
theorem letters_any (N : Nat) (w : World) (hN : N <= 30000) :
  Calls Tryz.prog 6 #[.int .i64 (N : Int)] w (LetPost N w) := by
 have hlt := lt_rep lt97 (n := N)
 obtain ⟨ib, hib, hb0, hb1', hb2'⟩ := info_parts byte_info
 have n2 : ∀ (w' : World) (A' : Option Addr) (c' : Nat) (hI : Bts w' Any A' N (List.replicate N 97)) (hc : N <= c'), Calls Tryz.prog 24 #[.int .i64 4, .slice A' N c', .int .i64 65536, .int .i64 1, .int .i64 2] w' fun e w'' => NewPost 4 65536 1 2 (List.replicate N 97) w' e w'' := fun w' A' c' hI hc =>
  onew_any 4 65536 1 2 Any A' N c' (List.replicate N 97) w' hI (lt_byt hlt) hc (by unfold newErr bookErr openErr; rw [if_neg (by omega), if_neg (by omega), if_neg (by omega), if_neg (by omega), if_neg (by omega)])
 have N2 := Lib.hid n2
 have hw0 : Below w.heap.size w w := Below.refl _ _
 clear n2 hlt
 go_enter Tryz.func6, Tryz.ntmps6
 go_wp2_with fail
 go_loopg [4, 5] N (fun k q4 q5 wr => LetR N w k q4 q5 wr)
 case atStart => exact ⟨0, rfl, Nat.zero_le _, by omega, Lib.hid (World.ownsRow_nil _ _ _ _), Below.refl _ _⟩
 case round =>
  obtain ⟨i, rfl, hi, hk, hown, hb⟩ := hrel
  have hs0 := hb.size
  by_cases hgo : i < N
  ·have hx : ((i : Int) < (N : Int)) = True := by simp; omega
   go_wp2_with (at_builtin; (refine wpList_append_own_at _ rfl (.tmp 13) (.tmp 14) 47 rfl w.heap.size 5 ib (.int .u8 0) 1 1 Tryz.underlying47 hib hb0 hb1' hb2' rfl (by decide) u4 i _ rfl (hown.out.alloc _) ⟨wr.heap.size, 0, none⟩ 1 1 [.int .u8 97] rfl rfl (cell_one_new _ _ _) (by simp [Value.oneCell']) (by unfold maxLen; omega) (by omega) (by simp; omega) ?_))
   intro v1 w1 hown1 hgr _ _
   have hb1 : Below w.heap.size w w1 := below_grown2 (balloc hb) hgr (fun k hk => own_ge hown.out hk)
   have HO := Lib.hid hown1
   clear hown1 hgr hib hb0 hb1' hb2'
   go_wp2_with fail
   go_roundg (N - (i + 1))
   case measure => omega
   case rel =>
    refine ⟨i + 1, by go_num, by omega, by omega, Lib.hid ?_, hb1⟩
    rw [List.replicate_succ', List.map_append, List.map_replicate]
    exact HO.out
  ·have hiN : i = N := by omega
   subst hiN
   have hx : ((i : Int) < (i : Int)) = False := by simp
   have ho := hown.out
   obtain ⟨A4, k4, rfl, hk4⟩ := own_slice ho
   have hI : Bts wr Any A4 i (List.replicate i 97) := Reads.more (Reads.of_own ho) (fun _ _ _ => trivial) (by decide)
   have HI := Lib.hid hI
   clear ho hown hI hgo
   go_wp2_with fail
   refine (N2.out _ _ _ HI.out hk4).mono ?_
   rintro e w2 ⟨gd, gb, gt, m, gk, mk, rfl, hD, hb2⟩
   have hlt := lt_rep lt97 (n := i)
   have hd := hD.is (by rw [List.length_replicate]; omega) (by decide) (by decide)
   have hbk := BankIs.of_new hD.bank hD.ge.2.2.2.2.1 hD.ge.2.2.2.2.2.1
   have hats := newS_lt hlt 2 mk
   obtain ⟨st, hst⟩ : ∃ st, newS 4 2 (List.replicate i 97) mk = st := ⟨_, rfl⟩
   have hfacts : st.now = none /\ (st.undo.length : Int) <= st.depth /\ st.last < 1073741824 /\ mk = st.mb := by
    rw [<- hst]
    exact ⟨rfl, (by decide : ((0 : Nat) : Int) <= 2), (by decide : (0 : Int) < 1073741824), rfl⟩
   rw [hst] at hd hats
   rw [dec_lt hlt, show (withSz 4 (List.replicate i 97)).map Prod.fst = List.replicate i 97 by unfold withSz; rw [List.map_map]; exact List.map_id' _] at hd
   rw [hfacts.2.2.2] at hbk
   obtain ⟨nv, hnv⟩ : ∃ nv, natF (List.replicate i 97) 1 = nv := ⟨_, rfl⟩
   rw [hnv] at hd
   have hw2 := bseq hb hb2
   have hs := hb.size
   have hln := hats
   replace hln : st.ats.length = i := by
    have := congrArg List.length hln
    simpa using this
   have hF : ∀ w', Below w2.heap.size w2 w' -> w'.cell? ⟨gd, 0, none⟩ = some (.pointer (some ⟨gb, 0, none⟩)) /\ w'.cell? ⟨gd, 1, none⟩ = some (.pointer (some ⟨gk, 0, none⟩)) /\ w'.cell? ⟨gd, 2, none⟩ = some (.int .i64 0) := fun w' hb => ⟨(hd.below hb).desk.cell 0, (hd.below hb).desk.cell 1, (hd.below hb).desk.cell 2⟩
   obtain ⟨d0, d1, d2⟩ := hF w2 (Below.refl _ _)
   have HF := Lib.hid hF
   have HT := Lib.hid (fun (w' : World) (hb : Below w2.heap.size w2 w') => btext_desk (hd.below hb))
   have HL := Lib.hid (fun (w' : World) (hb : Below w2.heap.size w2 w') => (by
    have := len_any Any gt 4 (sizedA 4 st.ats) w' (hd.below hb).at_
    rw [sizedA_len, hln] at this
    exact this : Calls Tryz.prog 12 #[.pointer (some ⟨gt, 0, none⟩)] w' fun e w'' => e = .returned (.int .i64 (i : Int)) /\ Below w'.heap.size w' w''))
   have HD := Lib.hid hd
   have HBK := Lib.hid hbk
   have HA := Lib.hid hats
   have HFA := Lib.hid hfacts
   clear hd hbk hats hfacts hst hD hln hF hlt hnv HI
   go_wp2_with fail
   refine (HT.out _ (Below.refl _ _)).mono ?_
   rintro e w3 ⟨rfl, rfl⟩
   go_upto_region 9 with fail
   clear d0 d1 d2
   refine wp_region_steady (fun w' => Below w2.heap.size w2 w') (by kernel_rfl) (by kernel_rfl) (Below.drew (Below.refl _ _)) ?_
   repeat ((first
    | (refine wpSt_read (v := ?_) (by rfl) (fun w6 hSw => ?_) ?_; rotate_left; (· (obtain ⟨d0, d1, d2⟩ := HF.out _ hSw; go_simp; try with_reducible rfl)))
    | refine wpSt_not (by rfl) ?_
    | (refine wpSt_call (f := ?_) (args := ?_) (v := .pointer (some ⟨gt, 0, none⟩)) (by rfl) (fun w6 hSw => ?_) (fun w6 hSw => ?_) ?_; rotate_left 2; (· (obtain ⟨d0, d1, d2⟩ := HF.out _ hSw; go_simp; first | done | (constructor <;> with_reducible rfl) | with_reducible rfl)); (· ((with_reducible refine (HT.out _ hSw).mono ?_); rintro e w5 ⟨rfl, rfl⟩; exact ⟨rfl, hSw⟩)))
    | (refine wpSt_call (f := ?_) (args := ?_) (v := .int .i64 (i : Int)) (by rfl) (fun w6 hSw => ?_) (fun w6 hSw => ?_) ?_; rotate_left 2; (· (obtain ⟨d0, d1, d2⟩ := HF.out _ hSw; go_simp; first | done | (constructor <;> with_reducible rfl) | with_reducible rfl)); (· ((with_reducible refine (HL.out _ hSw).mono ?_); rintro e w5 ⟨rfl, hb5⟩; exact ⟨rfl, bseq hSw hb5⟩)))); (try simp only [Act.put, pA, pB, pC]))
   refine wpSt_nil ?_
   intro w3 hb3
   go_wp2_with fail
   go_ret2
   have hD3 := HD.out.below hb3
   have hB3 := HBK.out.below hb3
   exact ⟨_, gd, gb, gt, gk, nv, st, hs, rfl, hD3, hB3, HA.out, HFA.out.1, HFA.out.2.1, HFA.out.2.2.1, bseq hw2 hb3⟩
theorem dyank_chars (B gd gb g gk n : Nat) (enc lim a b nm k tu at_ : Int) (st : BkS) (dc : Array Value) (R : Int -> Option (Int × List Int)) (w : World) (h : DeskIs w B gd gb g enc lim n st dc) (hk : BankIs w B gk st.mb R tu) (h1 : dc[1]? = some (.pointer (some ⟨gk, 0, none⟩))) (h2 : dc[2]? = some (.int .i64 at_))
  (ha : 0 <= a /\ a < b /\ b <= (st.ats.length : Int)) (hnm : findR nm = ((k, false), true)) (hkk : k ≠ 46 /\ k ≠ 58 /\ k ≠ 47 /\ k ≠ 95) :
  Calls Tryz.prog 7 #[.pointer (some ⟨gd, 0, none⟩), .int .i64 nm, .agg #[.int .i64 a, .int .i64 b, .int .i64 0]] w fun e w' => e = .returned (.int .i64 0) /\ Yank1Post B gd gb g gk n enc lim st dc (putR R (ykF k) 0 (seg a b (st.ats.map Prod.fst))) (ykF k) a w w' := by
 have hmf : ∀ (fn : Fn) (first cap : Array Value) (w : World), (Instr.makeFunc fn first cap).run Tryz.prog w = .ok (.func fn first cap) w := fun _ _ _ _ => rfl
 have hw3 : Below w.heap.size w (((w.alloc (.cells #[.pointer (some ⟨gd, 0, none⟩)] 23)).alloc (.cells #[.int .i64 nm] 3)).alloc (.cells #[.int .i64 a, .int .i64 b, .int .i64 0] 29)) := balloc (balloc (balloc (Below.refl _ _)))
 have b0 : Blk (((w.alloc (.cells #[.pointer (some ⟨gd, 0, none⟩)] 23)).alloc (.cells #[.int .i64 nm] 3)).alloc (.cells #[.int .i64 a, .int .i64 b, .int .i64 0] 29)) w.heap.size 23 #[.pointer (some ⟨gd, 0, none⟩)] := ((Blk.new w _ _).alloc _).alloc _
 have b1 : Blk (((w.alloc (.cells #[.pointer (some ⟨gd, 0, none⟩)] 23)).alloc (.cells #[.int .i64 nm] 3)).alloc (.cells #[.int .i64 a, .int .i64 b, .int .i64 0] 29)) (w.heap.size + 1) 3 #[.int .i64 nm] := (Blk.new' (by simp)).alloc _
 have b2 : Blk (((w.alloc (.cells #[.pointer (some ⟨gd, 0, none⟩)] 23)).alloc (.cells #[.int .i64 nm] 3)).alloc (.cells #[.int .i64 a, .int .i64 b, .int .i64 0] 29)) (w.heap.size + 1 + 1) 29 #[.int .i64 a, .int .i64 b, .int .i64 0] := Blk.new' (by simp)
 have HH := Lib.hid h
 have HK := Lib.hid hk
 have hlts : gd < w.heap.size /\ gk < w.heap.size /\ st.mb < w.heap.size := ⟨h.desk.lt, hk.blk.lt, (mk_no_blk hk).1⟩
 obtain ⟨xs, hxs⟩ : ∃ xs, seg a b (st.ats.map Prod.fst) = xs := ⟨_, rfl⟩
 have hY := fun (w' : World) (hd : DeskIs w' B gd gb g enc lim n st dc) (hb : BankIs w' B gk st.mb R tu) (b0 b1 b2 : Nat) k0 k1 k2 => yank1_chars B gd gb g gk n b0 b1 b2 enc lim a b nm k tu at_ st dc R w' hd hb h1 h2 k0 k1 k2 ha hnm hkk
 rw [hxs] at hY ⊢
 have HY := Lib.hid hY
 clear h hk h1 h2 hY hxs ha hnm hkk
 go_enter Tryz.func7, Tryz.ntmps7
 go_upto_region 1 with fail
 obtain ⟨w3, hw30⟩ : ∃ x', (((w.alloc (.cells #[.pointer (some ⟨gd, 0, none⟩)] 23)).alloc (.cells #[.int .i64 nm] 3)).alloc (.cells #[.int .i64 a, .int .i64 b, .int .i64 0] 29)) = x' := ⟨_, rfl⟩
 rw [hw30] at hw3 b0 b1 b2 ⊢
 clear hw30
 have hw4 : Below w3.heap.size w3 (w3.alloc (.cells #[.int .i64 0] 26)) := balloc (Below.refl _ _)
 have hE := Blk.new w3 26 #[.int .i64 0]
 have hsz := hw3.size
 have HCT := Lib.hid (caught_any 26 #[.pointer (some ⟨w.heap.size, 0, none⟩), .pointer (some ⟨w.heap.size + 1 + 1, 0, none⟩), .pointer (some ⟨w.heap.size + 1, 0, none⟩)] w3
  (fun w' => Yank1Post B gd gb g gk n enc lim st dc (putR R (ykF k) 0 xs) (ykF k) a (w3.alloc (.cells #[.int .i64 0] 26)) w') (fun _ _ => False) Tryz.call26
  ((HY.out _ (HH.out.below (bseq hw3 hw4)) (HK.out.below (bseq hw3 hw4)) _ _ _ (b0.below hw4) (b2.below hw4) (b1.below hw4)).mono (fun _ _ hp => .inl hp))
  (fun w' ⟨j, _, _, _, _, hf⟩ => hE.fr hf (fun hs => by rcases hs with e | e | e <;> omega)) (fun _ _ hf => hf.elim))
 clear b0 b1 b2 hE HY HK HH
 go_wp2_with fail
 refine (HCT.out).mono ?_
 rintro e w5 (⟨rfl, hq⟩ | ⟨_, _, _, hf, _⟩)
 ·have HQ := Lib.hid hq
  clear hq
  go_wp2_with fail
  go_ret
  obtain ⟨j, h1, h2, h3, h4, h5⟩ := HQ.out
  exact ⟨rfl, j, h1, h2, h3, h4, (Fr.of_below (bseq hw3 hw4)).call h5 (fun _ _ hs => hs)⟩
 ·exact hf.elim
theorem dput_zero (gd : Nat) (nm cnt : Int) (up : Bool) (w : World) (hc : cnt < 1) : Calls Tryz.prog 8 #[.pointer (some ⟨gd, 0, none⟩), .int .i64 nm, .bool up, .int .i64 cnt] w fun e w' => e = .returned (.int .i64 1) /\ Below w.heap.size w w' := by
 have q0 : (cnt < 1) = True := by simp; omega
 have hb : Below w.heap.size w (((w.alloc (.cells #[.pointer (some ⟨gd, 0, none⟩)] 23)).alloc (.cells #[.bool up] 4)).alloc (.cells #[.int .i64 cnt] 3)) := balloc (balloc (balloc (Below.refl _ _)))
 clear hc
 go_enter Tryz.func8, Tryz.ntmps8
 go_wp2_with fail
 go_ret
 exact ⟨rfl, hb⟩
theorem dover_zero (gd : Nat) (cnt a : Int) (w : World) (hc : cnt < 1) : Calls Tryz.prog 9 #[.pointer (some ⟨gd, 0, none⟩), .int .i64 cnt, .int .i64 a] w fun e w' => e = .returned (.int .i64 1) /\ Below w.heap.size w w' := by
 have q0 : (cnt < 1) = True := by simp; omega
 have hb : Below w.heap.size w (((w.alloc (.cells #[.pointer (some ⟨gd, 0, none⟩)] 23)).alloc (.cells #[.int .i64 cnt] 3)).alloc (.cells #[.int .i64 a] 3)) := balloc (balloc (balloc (Below.refl _ _)))
 clear hc
 go_enter Tryz.func9, Tryz.ntmps9
 go_wp2_with fail
 go_ret
 exact ⟨rfl, hb⟩
theorem DFr.bel {B gd : Nat} {W w w' : World} {X : Nat -> Prop} (h : Below W.heap.size W w) (hf : DFr B X w w') (hB : W.heap.size <= B) (hX : ∀ b, X b -> W.heap.size <= b) : Below W.heap.size W w' :=
 bfr h hf (fun b hs => by
  rcases hs with ⟨h1, _⟩ | h1
  ·omega
  ·exact hX b h1)
theorem set2 {dc : Array Value} {v u : Value} (h : dc[2]? = some u) : (dc.setIfInBounds 2 v)[2]? = some v := by
 have : 2 < dc.size := (Array.getElem?_eq_some_iff.1 h).1
 simp [Array.getElem?_setIfInBounds, this]
theorem set2_1 {dc : Array Value} {v : Value} : (dc.setIfInBounds 2 v)[1]? = dc[1]? := by simp [Array.getElem?_setIfInBounds]
theorem set2_size {dc : Array Value} {v : Value} : (dc.setIfInBounds 2 v).size = dc.size := by simp
section
variable {B gd gb gt gk N : Nat} {st : BkS} {dc : Array Value} {W w : World}
theorem yank_let (hW : Below W.heap.size W w) (hB : W.heap.size <= B) (h : DeskIs w B gd gb gt 4 65536 0 st dc) (hk : BankIs w B gk st.mb (fun _ => none) 0) (h1 : dc[1]? = some (.pointer (some ⟨gk, 0, none⟩))) (h2 : dc[2]? = some (.int .i64 0)) (hd : st.ats.map Prod.fst = List.replicate N 97) (hN : 1 <= N) :
  Calls Tryz.prog 7 #[.pointer (some ⟨gd, 0, none⟩), .int .i64 0, .agg #[.int .i64 0, .int .i64 1, .int .i64 0]] w fun e w' => e = .returned (.int .i64 0) /\ ∃ dc' R, DeskIs w' B gd gb gt 4 65536 0 st dc' /\ BankIs w' B gk st.mb R 48 /\ R 48 = some (0, [97]) /\ dc'[1]? = some (.pointer (some ⟨gk, 0, none⟩)) /\ dc'[2]? = some (.int .i64 0) /\ dc'.size = dc.size /\ Below W.heap.size W w' := by
 have hl : st.ats.length = N := by
  have := congrArg List.length hd
  simpa using this
 refine (dyank_chars B gd gb gt gk 0 4 65536 0 1 0 34 0 0 st dc _ w h hk h1 h2 (by omega) rfl (by decide)).mono ?_
 rintro e w' ⟨rfl, j, hj, _, hdk, hbk, hf⟩
 have hlt := lt_rep lt97 (n := N)
 rw [lt_clamp ((sizedA_fst _ _).trans hd) hlt (by omega) (by rw [List.length_replicate]; omega) hj] at hdk
 refine ⟨rfl, _, _, hdk, hbk, ?_, set2_1.trans h1, set2 h2, set2_size, bfr hW hf (fun b hs => ?_)⟩
 ·rw [hd]
  unfold putR
  rw [if_pos (by decide)]
  cases N with
  | zero => omega
  | succ N => rfl
 ·have := h.low
  have := hk.low
  rcases hs with rfl | rfl | rfl <;> omega
theorem put_let (count : Int) (K : Nat) {R : Int -> Option (Int × List Int)} (hW : Below W.heap.size W w) (hB : W.heap.size <= B) (h : DeskIs w B gd gb gt 4 65536 0 st dc) (hk : BankIs w B gk st.mb R 48) (hR : R 48 = some (0, [97])) (h1 : dc[1]? = some (.pointer (some ⟨gk, 0, none⟩))) (h2 : dc[2]? = some (.int .i64 0)) (hdz : dc.size = 10) (hd : st.ats.map Prod.fst = List.replicate N 97) (hN : 1 <= N /\ N <= 30000)
  (hn : st.now = none) (hud : (st.undo.length : Int) <= st.depth) (hla : st.last < 1073741824) (hK : 1 <= count -> min count 9999 = (K : Int)) :
  Calls Tryz.prog 8 #[.pointer (some ⟨gd, 0, none⟩), .int .i64 0, .bool false, .int .i64 count] w fun e w' => ∃ (r : Int) (n' : Nat) (st' : BkS) (dc' : Array Value) (T : Nat) (p : Int), e = .returned (.int .i64 r) /\ DeskIs w' B gd gb gt 4 65536 n' st' dc' /\ dc'[2]? = some (.int .i64 p) /\ st'.ats.map Prod.fst = List.replicate T 97 /\
   ((count < 1 /\ r = 1 /\ T = N) \/ (1 <= count /\ r = 0 /\ T = N + K /\ p = K)) /\ Below W.heap.size W w' := by
 by_cases hc : count < 1
 ·refine (dput_zero gd 0 count false w hc).mono ?_
  rintro e w' ⟨rfl, hb⟩
  exact ⟨1, 0, st, dc, N, 0, rfl, h.below hb, h2, hd, .inl ⟨hc, rfl, rfl⟩, bseq hW hb⟩
 ·have hK' := hK (by omega)
  have hlt := lt_rep lt97 (n := N)
  have hdz' := (sizedA_fst 4 st.ats).trans hd
  refine (dput_chars B gd gb gt gk 0 K 4 65536 0 0 34 48 count false false st dc R [97] w h hk hn hdz h1 h2 rfl hR (by decide) (by omega) hK' (by decide) hud hla).mono ?_
  rintro e w' ⟨r, j, rfl, hj, _, hp⟩
  rw [lt_clamp hdz' hlt (by omega) (by rw [List.length_replicate]; omega) hj, lt_putX hdz' hlt (by rw [List.length_replicate]; omega)] at hp
  obtain ⟨rfl, st', hdk, hats, hf⟩ := put_cnt hp hd hN (by omega) h.pos
  have := h.low
  exact ⟨0, _, st', _, N + K, (K : Int), rfl, hdk, set2 h2, hats, .inr ⟨by omega, rfl, rfl, rfl⟩, DFr.bel (gd := gd) hW hf hB (fun b hb => by omega)⟩
theorem over_let (count : Int) (K : Nat) (hW : Below W.heap.size W w) (hB : W.heap.size <= B) (h : DeskIs w B gd gb gt 4 65536 0 st dc) (h2 : dc[2]? = some (.int .i64 0)) (hdz : dc.size = 10) (hd : st.ats.map Prod.fst = List.replicate N 97) (hN : 1 <= N /\ N <= 30000)
  (hn : st.now = none) (hud : (st.undo.length : Int) <= st.depth) (hla : st.last < 1073741824) (hK : 1 <= count -> min count 9999 = (K : Int)) :
  Calls Tryz.prog 9 #[.pointer (some ⟨gd, 0, none⟩), .int .i64 count, .int .i64 120] w fun e w' => ∃ (r : Int) (n' : Nat) (st' : BkS) (dc' : Array Value) (q1 q2 : Nat) (p : Int), e = .returned (.int .i64 r) /\ DeskIs w' B gd gb gt 4 65536 n' st' dc' /\ dc'[2]? = some (.int .i64 p) /\ st'.ats.map Prod.fst = List.replicate q1 120 ++ List.replicate q2 97 /\
   ((count < 1 /\ r = 1 /\ q1 = 0 /\ q2 = N) \/ (1 <= count /\ N < K /\ r ≠ 0 /\ q1 = 0 /\ q2 = N /\ p = 0) \/ (1 <= count /\ K <= N /\ r = 0 /\ q1 = K /\ q2 = N - K /\ p = (K : Int) - 1)) /\ Below W.heap.size W w' := by
 by_cases hc : count < 1
 ·refine (dover_zero gd count 120 w hc).mono ?_
  rintro e w' ⟨rfl, hb⟩
  exact ⟨1, 0, st, dc, 0, N, 0, rfl, h.below hb, h2, hd, .inl ⟨hc, rfl, rfl, rfl⟩, bseq hW hb⟩
 ·have hK' := hK (by omega)
  have hlt := lt_rep lt97 (n := N)
  have hdz' := (sizedA_fst 4 st.ats).trans hd
  refine (dover_any B gd gb gt 0 K 4 65536 0 120 count st dc w h hn hdz h2 (by decide) (by decide) (by omega) hK' (by decide) hud hla).mono ?_
  rintro e w' ⟨r, j, rfl, hj, _, hp⟩
  rw [lt_clamp hdz' hlt (by omega) (by rw [List.length_replicate]; omega) hj] at hp
  have := h.low
  rcases over_cnt hp hd hN (by omega) h.pos with ⟨hKN, rfl, st', hdk, hats, hf⟩ | ⟨hKN, hr, hdk, hf⟩
  ·exact ⟨0, _, st', _, K, N - K, (K : Int) - 1, rfl, hdk, set2 h2, hats, .inr (.inr ⟨by omega, hKN, rfl, rfl, rfl, rfl⟩), DFr.bel (gd := gd) hW hf hB (fun b hb => by omega)⟩
  ·exact ⟨r, _, st, dc, 0, N, 0, rfl, hdk, h2, hd, .inr (.inl ⟨by omega, hKN, hr, rfl, rfl, rfl⟩), DFr.bel (gd := gd) hW hf hB (fun b hb => hb.elim)⟩
theorem dshift_zero (gd : Nat) (s0 s1 s2 : Int) (w : World) : Calls Tryz.prog 13 #[.pointer (some ⟨gd, 0, none⟩), .agg #[.int .i64 s0, .int .i64 s1, .int .i64 s2], .int .i64 0] w fun e w' => e = .returned (.int .i64 1) /\ Below w.heap.size w w' := by
 have hb : Below w.heap.size w (((w.alloc (.cells #[.pointer (some ⟨gd, 0, none⟩)] 23)).alloc (.cells #[.int .i64 s0, .int .i64 s1, .int .i64 s2] 29)).alloc (.cells #[.int .i64 0] 3)) := balloc (balloc (balloc (Below.refl _ _)))
 go_enter Tryz.func13, Tryz.ntmps13
 go_wp2_with fail
 go_ret
 exact ⟨rfl, hb⟩
theorem shift_let (count : Int) (K : Nat) (hW : Below W.heap.size W w) (hB : W.heap.size <= B) (h : DeskIs w B gd gb gt 4 65536 0 st dc) (h2 : dc[2]? = some (.int .i64 0)) (hdz : dc.size = 10) (hd : st.ats.map Prod.fst = List.replicate N 97) (hN : 1 <= N /\ N <= 30000)
  (hn : st.now = none) (hud : (st.undo.length : Int) <= st.depth) (hla : st.last < 1073741824) (hK : 1 <= count -> min count 9999 = (K : Int)) :
  Calls Tryz.prog 13 #[.pointer (some ⟨gd, 0, none⟩), .agg #[.int .i64 0, .int .i64 0, .int .i64 0], .int .i64 count] w fun e w' => ∃ (r : Int) (n' : Nat) (st' : BkS) (dc' : Array Value) (q : Nat) (p : Int), e = .returned (.int .i64 r) /\ DeskIs w' B gd gb gt 4 65536 n' st' dc' /\ dc'[2]? = some (.int .i64 p) /\ st'.ats.map Prod.fst = List.replicate q 9 ++ List.replicate N 97 /\
   ((count = 0 /\ r = 1 /\ q = 0) \/ (count < 0 /\ r = 0 /\ q = 0 /\ p = 0) \/ (1 <= count /\ r = 0 /\ q = K /\ p = K)) /\ Below W.heap.size W w' := by
 by_cases hc : count = 0
 ·subst hc
  refine (dshift_zero gd 0 0 0 w).mono ?_
  rintro e w' ⟨rfl, hb⟩
  exact ⟨1, 0, st, dc, 0, 0, rfl, h.below hb, h2, hd, .inl ⟨rfl, rfl, rfl⟩, bseq hW hb⟩
 ·have hlt := lt_rep lt97 (n := N)
  have hdz' := (sizedA_fst 4 st.ats).trans hd
  refine (dshift_any B gd gb gt 0 4 65536 0 0 0 0 count st dc w h hn hdz h2 (.inl rfl) (by omega) hc (by rw [lt_szS hd hlt, List.length_replicate]; omega) (by decide) hud hla).mono ?_
  rintro e w' ⟨r, rfl, hp⟩
  rw [lt_row hdz' hlt, lt_row hdz' hlt] at hp
  obtain ⟨rfl, st', hdk, hats, hf⟩ := shift_cnt hp hd hN (by unfold stepsF; omega) h.pos
  have := h.low
  refine ⟨0, _, st', _, (stepsF count).toNat, ((stepsF count).toNat : Int), rfl, hdk, set2 h2, hats, ?_, DFr.bel (gd := gd) hW hf hB (fun b hb => by omega)⟩
  unfold stepsF
  rcases Int.lt_or_le count 0 with h0 | h0
  ·exact .inr (.inl ⟨h0, rfl, by omega, by omega⟩)
  ·have := hK (by omega)
   exact .inr (.inr ⟨by omega, rfl, by omega, by omega⟩)
end
theorem rep0 (x : Int) (n : Nat) (L : List Int) (h : L = List.replicate n x) (y : Int) : L = List.replicate n x ++ List.replicate 0 y := by rw [h]; simp
theorem rowOf_one {B gd gb g N0 : Nat} {enc lim : Int} {st : BkS} {dc : Array Value} {w : World} (h : DeskIs w B gd gb g enc lim N0 st dc) (x : Int) (n : Nat) (hat : st.ats.map Prod.fst = List.replicate n x) :
  Calls Tryz.prog 10 #[.pointer (some ⟨gd, 0, none⟩), .int .i64 x, .int .i64 (n : Int), .int .i64 0, .int .i64 0] w fun e w' => e = .returned (.bool true) /\ Below w.heap.size w w' :=
 rowOf_true h x 0 n 0 (rep0 x n _ hat 0)
theorem len_row {B gd gb g N0 : Nat} {enc lim : Int} {st : BkS} {dc : Array Value} {w : World} (h : DeskIs w B gd gb g enc lim N0 st dc) (L : List Int) (hat : st.ats.map Prod.fst = L) :
  Calls Tryz.prog 12 #[.pointer (some ⟨g, 0, none⟩)] w fun e w' => e = .returned (.int .i64 (L.length : Int)) /\ Below w.heap.size w w' := by
 have := len_any Any g enc (sizedA enc st.ats) w h.at_
 rw [sizedA_len] at this
 rw [<- hat, List.length_map]
 exact this
theorem counts_any (n0 count : Int) (w : World) (h1 : FitsI n0) (h2 : FitsI count) :
  Calls Tryz.prog 3 #[.int .i64 n0, .int .i64 count] w fun e w' => e = .returned (.bool true) /\ Below w.heap.size w w' := by
 have hwb := withinF_bd n0 29999 (by decide)
 have hwi := within_any n0 29999 w h1 (by decide) (by decide)
 obtain ⟨X, hX⟩ : ∃ X, withinF n0 29999 = X := ⟨_, rfl⟩
 rw [hX] at hwb hwi
 obtain ⟨N, hN⟩ : ∃ N : Nat, 1 + X = (N : Int) := ⟨(1 + X).toNat, by omega⟩
 have hNb : 1 <= N /\ N <= 30000 := by omega
 have wN : IntKind.i64.wrap (1 + X) = (N : Int) := by rw [IntWalk.i64_in _ (by omega)]; exact hN
 obtain ⟨kk, hkk⟩ : ∃ kk, min count 9999 = kk := ⟨_, rfl⟩
 obtain ⟨K, hK⟩ : ∃ K : Nat, K = kk.toNat := ⟨_, rfl⟩
 have hK1 : 1 <= count -> min count 9999 = (K : Int) := fun h => by omega
 have hK2 : 1 <= count -> kk = (K : Int) := fun h => by omega
 have hKb : K <= 9999 := by omega
 have HWI := Lib.hid hwi
 have HK1 := Lib.hid hK1
 have HK2 := Lib.hid hK2
 have HKK := Lib.hid hkk
 have HLE := Lib.hid (fun w' => letters_any N w' hNb.2)
 clear hwi hX hN hK1 hK2 hkk hK hwb h1
 go_enter Tryz.func3, Tryz.ntmps3
 go_wp2_with fail
 refine (HWI.out).mono ?_
 rintro e w1 ⟨rfl, rfl⟩
 go_upto_region 3 with fail
 clear wN
 go_upto_if 18 with fail
 go_cut [5] (fun s5 wx => s5 = .int .i64 kk /\ wx = w)
 case first =>
  have hkk := HKK.out
  by_cases hq : 9999 < count
  ·have q : (9999 < count) = True := by simp; exact hq
   have e : kk = 9999 := by omega
   subst e
   clear hkk
   go_wp2_with fail
   go_meet
   exact ⟨rfl, rfl⟩
  ·have q : (9999 < count) = False := by simp; omega
   have e : kk = count := by omega
   subst e
   clear hkk
   go_wp2_with fail
   go_meet
   exact ⟨rfl, rfl⟩
 case rest =>
  obtain ⟨rfl, hwe⟩ := hcut
  rw [hwe]
  clear hwe
  go_wp2_with fail
  refine (HLE.out w).mono ?_
  rintro e w1 ⟨B1, gd1, gb1, gt1, gk1, nv1, st1, hB1, rfl, hd1, hk1, hat1, hnow1, hud1, hla1, hb1⟩
  have HY := Lib.hid (yank_let hb1 hB1 hd1 hk1 rfl rfl hat1 hNb.1)
  have HF1 := Lib.hid (And.intro hat1 (And.intro hnow1 (And.intro hud1 hla1)))
  clear hd1 hk1 hat1 hnow1 hud1 hla1 hb1
  go_wp2_with fail
  refine (HY.out).mono ?_
  rintro e w2 ⟨rfl, dc2, R2, hd2, hk2, hR2, h21, h22, hz2, hb2⟩
  have HP := Lib.hid (put_let count K hb2 hB1 hd2 hk2 hR2 h21 h22 hz2 HF1.out.1 hNb HF1.out.2.1 HF1.out.2.2.1 HF1.out.2.2.2 HK1.out)
  clear hd2 hk2 hR2 h21 h22 hz2 HY
  go_wp2_with fail
  refine (HP.out).mono ?_
  rintro e w3 ⟨r3, n3, st3, dc3, T3, p3, rfl, hd3, h32, hat3, hc3, hb3⟩
  have HD3 := Lib.hid (And.intro hd3 (And.intro h32 hat3))
  have HC3 := Lib.hid hc3
  clear hd3 h32 hat3 hc3 HP HF1 hb2
  go_wp2_with fail
  refine (HLE.out w3).mono ?_
  rintro e w4 ⟨B4, gd4, gb4, gt4, gk4, nv4, st4, hB4, rfl, hd4, hk4, hat4, hnow4, hud4, hla4, hb4⟩
  have HO := Lib.hid (over_let count K hb4 hB4 hd4 rfl rfl hat4 hNb hnow4 hud4 hla4 HK1.out)
  clear hd4 hk4 hat4 hnow4 hud4 hla4 hb4
  go_wp2_with fail
  refine (HO.out).mono ?_
  rintro e w5 ⟨r5, n5, st5, dc5, a5, b5, p5, rfl, hd5, h52, hat5, hc5, hb5⟩
  have hd35 := HD3.out.1.below hb5
  have HD35 := Lib.hid hd35
  have HD5 := Lib.hid (And.intro hd5 (And.intro h52 hat5))
  have HC5 := Lib.hid hc5
  clear hd5 h52 hat5 hc5 HO hd35
  have hw5 := bseq hb3 hb5
  go_upto_block 0 with fail
  go_cut [] (fun wx => Below w.heap.size w wx)
  case first =>
   have hF : ∀ w', Below w5.heap.size w5 w' -> w'.cell? ⟨gd1, 2, none⟩ = some (.int .i64 p3) /\ w'.cell? ⟨gd4, 0, none⟩ = some (.pointer (some ⟨gb4, 0, none⟩)) /\ w'.cell? ⟨gd4, 2, none⟩ = some (.int .i64 p5) := fun w' hb =>
    ⟨((HD35.out.below hb).desk.cell 2).trans HD3.out.2.1, ((HD5.out.1.below hb).desk.cell 0).trans (HD5.out.1.below hb).c0, ((HD5.out.1.below hb).desk.cell 2).trans HD5.out.2.1⟩
   have HF := Lib.hid hF
   have HR1 := Lib.hid (fun (w' : World) (hb : Below w5.heap.size w5 w') => rowOf_one (HD35.out.below hb) 97 T3 HD3.out.2.2)
   clear hF
   rcases Int.lt_or_le count 1 with hcl | hcl
   ·have q : (count < 1) = True := by simp; omega
    obtain ⟨hc3, hT3⟩ : r3 = 1 /\ T3 = N := by rcases HC3.out with ⟨_, h1, h2⟩ | ⟨h, _⟩; exact ⟨h1, h2⟩; omega
    obtain ⟨hc5, ha5, hb5'⟩ : r5 = 1 /\ a5 = 0 /\ b5 = N := by rcases HC5.out with ⟨_, h1, h2, h3⟩ | ⟨h, _⟩ | ⟨h, _⟩; exact ⟨h1, h2, h3⟩; omega; omega
    have HR2 := Lib.hid (fun (w' : World) (hb : Below w5.heap.size w5 w') => rowOf_one (HD5.out.1.below hb) 97 N (by rw [HD5.out.2.2, ha5, hb5']; rfl))
    subst hc3 hT3 hc5
    clear ha5 hb5' hcl
    go_wp2_with fail
    refine (HR1.out _ (Below.refl _ _)).mono ?_
    rintro e w6 ⟨rfl, hb6⟩
    go_wp2_with fail
    refine (HR2.out _ hb6).mono ?_
    rintro e w7 ⟨rfl, hb7⟩
    go_wp2_with fail
    go_meet
    exact bseq hw5 (bseq hb6 hb7)
   ·have q : (count < 1) = False := by simp; omega
    have hkk := HK2.out hcl
    obtain ⟨hc3, hT3, hp3⟩ : r3 = 0 /\ T3 = N + K /\ p3 = (K : Int) := by rcases HC3.out with ⟨h, _⟩ | ⟨_, h1, h2, h3⟩; omega; exact ⟨h1, h2, h3⟩
    subst hkk hc3 hp3
    have wT : IntKind.i64.wrap ((N : Int) + (K : Int)) = (T3 : Int) := by rw [IntWalk.i64_in _ (by omega)]; omega
    clear hT3
    rcases Nat.lt_or_ge N K with hKN | hKN
    ·have q2 : ((N : Int) < (K : Int)) = True := by simp; omega
     obtain ⟨hc5, ha5, hb5', hp5⟩ : r5 ≠ 0 /\ a5 = 0 /\ b5 = N /\ p5 = 0 := by rcases HC5.out with ⟨h, _⟩ | ⟨_, _, h1, h2, h3, h4⟩ | ⟨_, h, _⟩; omega; exact ⟨h1, h2, h3, h4⟩; omega
     have hat : st5.ats.map Prod.fst = List.replicate N 97 := by rw [HD5.out.2.2, ha5, hb5']; rfl
     have HR2 := Lib.hid (fun (w' : World) (hb : Below w5.heap.size w5 w') => rowOf_one (HD5.out.1.below hb) 97 N hat)
     have HLN := Lib.hid (fun (w' : World) (hb : Below w5.heap.size w5 w') => (by
      have := len_row (HD5.out.1.below hb) _ hat
      rw [List.length_replicate] at this
      exact this : Calls Tryz.prog 12 #[.pointer (some ⟨gt4, 0, none⟩)] w' fun e w'' => e = .returned (.int .i64 (N : Int)) /\ Below w'.heap.size w' w''))
     have HTX := Lib.hid (fun (w' : World) (hb : Below w5.heap.size w5 w') => btext_desk (HD5.out.1.below hb))
     have q5 : (r5 == 0) = false := by rw [beq_eq_false_iff_ne]; exact hc5
     have q6 : ((N : Int) == (N : Int)) = true := by simp
     have q7 : ((K : Int) == (K : Int)) = true := by simp
     subst hp5
     obtain ⟨c1, c2, c3⟩ := HF.out w5 (Below.refl _ _)
     clear ha5 hb5' hat hc5 hcl hKN
     go_wp2_with fail
     refine (HTX.out _ (Below.refl _ _)).mono ?_
     rintro e w6 ⟨rfl, rfl⟩
     go_wp2_with fail
     refine (HLN.out _ (Below.refl _ _)).mono ?_
     rintro e w6 ⟨rfl, hb6⟩
     obtain ⟨c1, c2, c3⟩ := HF.out w6 hb6
     go_wp2_with fail
     refine (HR1.out _ hb6).mono ?_
     rintro e w7 ⟨rfl, hb7⟩
     have hb67 := bseq hb6 hb7
     obtain ⟨c1, c2, c3⟩ := HF.out w7 hb67
     go_wp2_with fail
     refine (HR2.out _ hb67).mono ?_
     rintro e w8 ⟨rfl, hb8⟩
     obtain ⟨c1, c2, c3⟩ := HF.out w8 (bseq hb67 hb8)
     go_wp2_with fail
     go_meet
     exact bseq hw5 (bseq hb67 hb8)
    ·have q2 : ((N : Int) < (K : Int)) = False := by simp; omega
     obtain ⟨hc5, ha5, hb5', hp5⟩ : r5 = 0 /\ a5 = K /\ b5 = N - K /\ p5 = (K : Int) - 1 := by rcases HC5.out with ⟨h, _⟩ | ⟨_, h, _⟩ | ⟨_, _, h1, h2, h3, h4⟩; omega; omega; exact ⟨h1, h2, h3, h4⟩
     have wD : IntKind.i64.wrap ((N : Int) - (K : Int)) = (b5 : Int) := by rw [IntWalk.i64_in _ (by omega)]; omega
     have wE : IntKind.i64.wrap ((K : Int) - 1) = p5 := by rw [IntWalk.i64_in _ (by omega)]; omega
     have HR2 := Lib.hid (fun (w' : World) (hb : Below w5.heap.size w5 w') => rowOf_true (HD5.out.1.below hb) 120 97 K b5 (by rw [HD5.out.2.2, ha5]))
     have q6 : (p5 == p5) = true := by simp
     have q7 : ((K : Int) == (K : Int)) = true := by simp
     subst hc5
     obtain ⟨c1, c2, c3⟩ := HF.out w5 (Below.refl _ _)
     clear ha5 hb5' hp5 hcl hKN
     go_wp2_with fail
     refine (HR1.out _ (Below.refl _ _)).mono ?_
     rintro e w7 ⟨rfl, hb67⟩
     obtain ⟨c1, c2, c3⟩ := HF.out w7 hb67
     go_wp2_with fail
     refine (HR2.out _ hb67).mono ?_
     rintro e w8 ⟨rfl, hb8⟩
     obtain ⟨c1, c2, c3⟩ := HF.out w8 (bseq hb67 hb8)
     go_wp2_with fail
     go_meet
     exact bseq hw5 (bseq hb67 hb8)
  case rest =>
   have hw6 := hcut
   clear hcut hb3 hb5 hw5 HD35 HD5 HC5 HD3 HC3
   go_wp2_with fail
   refine (HLE.out wc).mono ?_
   rintro e w7 ⟨B7, gd7, gb7, gt7, gk7, nv7, st7, hB7, rfl, hd7, hk7, hat7, hnow7, hud7, hla7, hb7⟩
   have HS := Lib.hid (shift_let count K hb7 hB7 hd7 rfl rfl hat7 hNb hnow7 hud7 hla7 HK1.out)
   clear hd7 hk7 hat7 hnow7 hud7 hla7 hb7
   go_wp2_with fail
   refine (HS.out).mono ?_
   rintro e w8 ⟨r8, n8, st8, dc8, a8, p8, rfl, hd8, h82, hat8, hc8, hb8⟩
   have hw8 := bseq hw6 hb8
   have HR := Lib.hid (rowOf_true hd8 9 97 a8 N hat8)
   have hF : ∀ w', Below w8.heap.size w8 w' -> w'.cell? ⟨gd7, 2, none⟩ = some (.int .i64 p8) := fun w' hb => ((hd8.below hb).desk.cell 2).trans h82
   have HF := Lib.hid hF
   have HC := Lib.hid hc8
   have HR0 := Lib.hid (fun (e0 : a8 = 0) => rowOf_one hd8 97 N (by rw [hat8, e0]; rfl))
   clear hd8 h82 hat8 hc8 hF HS hw6 hb8
   rcases Int.lt_trichotomy count 0 with hcl | hcl | hcl
   ·obtain ⟨h1, h2, h3⟩ : r8 = 0 /\ a8 = 0 /\ p8 = 0 := by rcases HC.out with ⟨h, _⟩ | ⟨_, h1, h2, h3⟩ | ⟨h, _⟩; omega; exact ⟨h1, h2, h3⟩; omega
    have q1 : (count == 0) = false := by rw [beq_eq_false_iff_ne]; omega
    have q2 : (count < 0) = True := by simp; omega
    have HRR := Lib.hid (HR0.out h2)
    subst h1 h3
    clear h2 hcl
    go_wp2_with fail
    refine (HRR.out).mono ?_
    rintro e w9 ⟨rfl, hb9⟩
    have c1 := HF.out w9 hb9
    go_wp2_with fail
    go_ret
    exact ⟨rfl, bseq hw8 hb9⟩
   ·obtain ⟨h1, h2⟩ : r8 = 1 /\ a8 = 0 := by rcases HC.out with ⟨_, h1, h2⟩ | ⟨h, _⟩ | ⟨h, _⟩; exact ⟨h1, h2⟩; omega; omega
    have HRR := Lib.hid (HR0.out h2)
    subst h1 hcl
    clear h2
    go_wp2_with fail
    refine (HRR.out).mono ?_
    rintro e w9 ⟨rfl, hb9⟩
    go_wp2_with fail
    go_ret
    exact ⟨rfl, bseq hw8 hb9⟩
   ·obtain ⟨h1, h2, h3⟩ : r8 = 0 /\ a8 = K /\ p8 = (K : Int) := by rcases HC.out with ⟨h, _⟩ | ⟨h, _⟩ | ⟨_, h1, h2, h3⟩; omega; omega; exact ⟨h1, h2, h3⟩
    have q1 : (count == 0) = false := by rw [beq_eq_false_iff_ne]; omega
    have q2 : (count < 0) = False := by simp; omega
    have q7 : ((K : Int) == (K : Int)) = true := by simp
    have hkk := HK2.out (by omega)
    subst h1 h2 h3 hkk
    clear hcl
    go_wp2_with fail
    refine (HR.out).mono ?_
    rintro e w9 ⟨rfl, hb9⟩
    have c1 := HF.out w9 hb9
    go_wp2_with fail
    go_ret
    exact ⟨rfl, bseq hw8 hb9⟩
end Go.Proofs.YtgiihhikdoikgaaGreat
namespace Go.Proofs.YtgiihhikdoikgaaGreat.operateCounts
open Go.ChangeShapes Go.WideShapes Go.ChangeAt Go.RowKit
open Go.ChangeMaps (open_string shut_string)
set_option linter.unusedVariables false

theorem own : ownKnob Tryz.prog.godebug = none := by kernel_rfl
theorem laidOut : laidOutB Tryz.prog = true := by kernel_rfl
theorem fits_of {x : Int} (h : (Lit.int .i64 x).wf = true) : FitsI x := by
 have e1 : IntKind.i64.min = -9223372036854775808 := by decide
 have e2 : IntKind.i64.max = 9223372036854775807 := by decide
 unfold Lit.wf at h
 dsimp only at h
 rw [e1, e2, Bool.and_eq_true, decide_eq_true_eq, decide_eq_true_eq] at h
 exact h
theorem walk (a0 a1 : Int) (w : World) (w0 : (Lit.int .i64 a0).wf = true) (w1 : (Lit.int .i64 a1).wf = true) :
  Calls Tryz.prog 3 #[.int .i64 a0, .int .i64 a1] w fun e w' => e = .returned (.bool true) /\ Below w.heap.size w w' := counts_any a0 a1 w (fits_of w0) (fits_of w1)

theorem lifted (os : Os) (started : os.Started) (H : Type) (enc : TypeId × Value -> H) :
  ReturnsInHanded {} Tryz.checked os 3 .any (Rows.operateCountsSpec.pre6 enc Tryz.prog Tryz.f3 Rows.operateCountsRow.domain false) (Rows.operateCountsSpec.post enc Tryz.prog Tryz.f3 false true false false) := by
 refine returnsInHanded_of_change (C := Tryz.checked) own started (by kernel_rfl) Tryz.func3
  (ChangeSpec.witness6 (enc := enc) (C := Tryz.checked) false ⟨#[], #[.int .i64 0, .int .i64 0], []⟩ 8 (by kernel_rfl) (by kernel_rfl) (by kernel_rfl) (by kernel_rfl)) ?_
 intro W base args ds gs before hval0 hW hcnd _
 have hval : ∀ (j : Nat) t v, Tryz.f3.params[j]? = some t -> args[j]? = some v -> Value.okWide Tryz.prog W .any base t v := hval0
 have hW' := hW
 obtain ⟨p, q, hA0, hV, rfl, hfz, hnd⟩ := hW
 have hA : DataW.TrodAll enc Tryz.prog W 0 (fun _ => true) true Tryz.f3.params.toList args.toList ds p := hA0
 rw [Tryz.params3] at hA hval
 obtain ⟨v0, vs0, d0, ds0, p0, q0, hargs, rfl, rfl, h0, r0⟩ := trodAll_cons hA
 obtain ⟨v1, vs1, d1, ds1, p1, q1, rfl, rfl, rfl, h1, r1⟩ := trodAll_cons r0
 obtain ⟨rfl, rfl, rfl⟩ := trodAll_nil r1
 obtain rfl : args = #[v0, v1] := by cases args; simp_all
 obtain ⟨rfl, rfl⟩ := trodVars_none hV
 obtain ⟨a, rfl, rfl, rfl, wa⟩ := open_int Tryz.underlying3 (hval 0 3 v0 rfl rfl) h0
 obtain ⟨b, rfl, rfl, rfl, wb⟩ := open_int Tryz.underlying3 (hval 1 3 v1 rfl rfl) h1
 clear hA0 hval0
 refine (walk a b W wa wb).mono fun e W' ⟨he, bel⟩ => ?_
 subst he
 exact ⟨_, rfl, _, _, _, [], _, [], hW', trodAll_mk1 (shut_bool Tryz.underlying4 _), (trodAll_cons_mk (shut_int Tryz.underlying3 wa) (trodAll_cons_mk (shut_int Tryz.underlying3 wb) trodAll_mk0)), rfl, bel.frame _, fun h => by cases h⟩

theorem over : Rows.operateCountsRow.holds Tryz.pinned (OpenSpec.ofChange Rows.operateCountsSpec) :=
 OpenClaim.holds_of_wide 3 Tryz.f3 rfl rfl rfl rfl rfl rfl rfl ⟨rfl, rfl, rfl, rfl, rfl⟩ rfl rfl rfl rfl rfl (by kernel_rfl) Tryz.func3 (by kernel_rfl)
  (of_decide_eq_true (by kernel_rfl)) (by unfold Func.isWrapper; first | (rw [if_pos (by decide +kernel)]; kernel_rfl) | (rw [if_neg (by decide +kernel)]; exact ⟨rfl, rfl⟩))
  (fun os started H enc _ => lifted os started H enc)

theorem proved : Rows.OperateCountsSaid := over
end Go.Proofs.YtgiihhikdoikgaaGreat.operateCounts
