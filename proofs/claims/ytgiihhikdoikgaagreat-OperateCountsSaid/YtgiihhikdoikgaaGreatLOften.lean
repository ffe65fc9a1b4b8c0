/-
  Package operate: broken, often.
-/
import Derived.Test.YtgiihhikdoikgaaGreatLShift2
import Derived.Test.YtgiihhikdoikgaaGreatLReg8
import Derived.Test.YtgiihhikdoikgaaGreatLDel
import Derived.Test.YtgiihhikdoikgaaGreatLReg4
set_option linter.unusedSimpArgs false
set_option linter.unusedVariables false
set_option maxRecDepth 100000
set_option maxHeartbeats 32000000
namespace Go.Proofs.YtgiihhikdoikgaaGreat
open Go.RowKit
def shiftO (st : BkS) (es : List Ed) (c : Int) : OpS := ⟨st.ats, c, [es.map mvOf], st.state, es.any chg⟩
def shiftS (st : BkS) (es : List Ed) (c x : Int) : BkS := endF { st with ats := edA es st.ats, now := some (shiftO st es c) } (shiftO st es c) x
def ShiftPost (B gd gb g : Nat) (enc lim : Int) (n : Nat) (st : BkS) (dc : Array Value) (k : Int) (f l : Nat) (w : World) (r : Int) (w' : World) : Prop :=
 (r = 0 /\ ∃ (es : List Ed) (c x : Int), es.map abE = shL (sizedA enc st.ats) k f (l + 1 - f) /\ refF enc lim (sizedA enc st.ats) es = 0 /\ (∃ i, HereAt (sizedA enc (edA es st.ats)) (lineF (sizedA enc st.ats) f).from_ i /\ SignAt (sizedA enc (edA es st.ats)) i x) /\ (0 <= x /\ x <= ((edA es st.ats).length : Int)) /\
  DeskIs w' B gd gb g enc lim (n + 131072) (shiftS st es c x) (dc.setIfInBounds 2 (.int .i64 x)) /\ DFr B (· = gd) w w') \/
 (r = 50 /\ 0 < k /\ lim < szS (sizedA enc st.ats) + ((psF (sizedA enc st.ats) f (l + 1 - f)).length : Int) * (k * szA enc 9) /\ DeskIs w' B gd gb g enc lim n st dc /\ DFr B (fun _ => False) w w')
theorem shift_work (B gd gb g n b0 b1 b2 : Nat) (enc lim a b kd steps c : Int) (st : BkS) (dc : Array Value) (w0 w : World) (hw0 : Below w0.heap.size w0 w) (hb2 : w0.heap.size <= b2) (h : DeskIs w B gd gb g enc lim n st dc) (hn : st.now = none) (hdz : dc.size = 10)
  (k0 : Blk w b0 23 #[.pointer (some ⟨gd, 0, none⟩)]) (k1 : Blk w b1 29 #[.int .i64 a, .int .i64 b, .int .i64 kd]) (k2 : Blk w b2 3 #[.int .i64 steps])
  (hk : kd = 0 \/ kd = 1) (ha : 0 <= a /\ a <= b /\ b <= (st.ats.length : Int)) (hst : steps ≠ 0) (hsz : szS (sizedA enc st.ats) <= lim) (hnn : n + 131072 <= 1073741824) (hud : (st.undo.length : Int) <= st.depth) (hla : st.last < 1073741824) (hc : 0 <= c /\ c <= (st.ats.length : Int)) :
  Calls Tryz.prog 36 #[.pointer (some ⟨gd, 0, none⟩), .int .i64 c, .func (.func 52) #[] #[.pointer (some ⟨b0, 0, none⟩), .pointer (some ⟨b1, 0, none⟩), .pointer (some ⟨b2, 0, none⟩)]] w fun e w' => ∃ r, e = .returned (.int .i64 r) /\ ShiftPost B gd gb g enc lim n st dc (stepsF steps) (rowIx (sizedA enc st.ats) a false) (rowIx (sizedA enc st.ats) (max a (b - 1)) false) w0 r w' := by
 obtain ⟨f, hf⟩ : ∃ f, rowIx (sizedA enc st.ats) a false = f := ⟨_, rfl⟩
 obtain ⟨l, hl⟩ : ∃ l, rowIx (sizedA enc st.ats) (max a (b - 1)) false = l := ⟨_, rfl⟩
 refine (work_any B gd gb g n enc lim c st dc _ _ (· = b2) (fun x ats' o' n' => ∃ es : List Ed, es.map abE = shL (sizedA enc st.ats) (stepsF steps) f (l + 1 - f) /\ refF enc lim (sizedA enc st.ats) es = 0 /\ (∃ i, HereAt (sizedA enc (edA es st.ats)) (lineF (sizedA enc st.ats) f).from_ i /\ SignAt (sizedA enc (edA es st.ats)) i x) /\ (0 <= x /\ x <= ((edA es st.ats).length : Int)) /\ ats' = edA es st.ats /\ o' = shiftO st es c /\ n' = n + 131072)
  (fun r n' => r = 50 /\ n' = n /\ 0 < stepsF steps /\ lim < szS (sizedA enc st.ats) + ((psF (sizedA enc st.ats) f (l + 1 - f)).length : Int) * (stepsF steps * szA enc 9)) w h hn hc hdz Tryz.call52 (fun q hq => ⟨hq ▸ k2.lt, fun e => Blk.ne_ k2 h.desk (by decide) (hq.symm.trans e)⟩) (fun w1 hd1 hf1 => ?_) (fun at' ats' o' n' ha' => ?_) hud).mono ?_
 ·refine (shift1_any B gd gb g n b0 b1 b2 enc lim a b kd steps { st with now := some ⟨st.ats, c, [], st.state, false⟩ } ⟨st.ats, c, [], st.state, false⟩ dc w1 hd1 rfl (by simp) (hf1.blk k0 (by decide) (fun hx => hx)) (hf1.blk k1 (by decide) (fun hx => hx)) (hf1.blk k2 (by decide) (fun hx => hx)) hk ha hst hsz hnn).mono ?_
  rintro e w2 (⟨es, x, h1, h2, h3, rfl, hd2, hf2⟩ | ⟨h1, h2, rfl, hd2, hf2⟩)
  ·dsimp only at h1 h2 h3 hd2
   rw [hf, hl] at h1
   rw [hf] at h3
   have hx : 0 <= x /\ x <= ((edA es st.ats).length : Int) := by
    obtain ⟨i, hi1, hi2⟩ := h3
    have := hi2.bd hd2.pos hi1.le
    rwa [sizedA_len] at this
   exact .inl ⟨x, edA es st.ats, shiftO st es c, n + 131072, ⟨es, h1, h2, h3, hx, rfl, rfl, rfl⟩, rfl, hd2, hf2⟩
  ·dsimp only at h2
   rw [hf, hl] at h2
   exact .inr ⟨50, rfl, st.ats, ⟨st.ats, c, [], st.state, false⟩, n, ⟨rfl, rfl, h1, h2⟩, by decide, rfl, hd2, hf2⟩
 ·obtain ⟨es, _, _, _, hx, rfl, rfl, rfl⟩ := ha'
  exact ⟨hx, fun _ => hla⟩
 ·rw [hf, hl]
  have hlow : ∀ q, q < w0.heap.size -> q = b2 -> False := fun q h1 h2 => by omega
  rintro e w2 (⟨rfl, at', ats', o', n', ⟨es, h1, h2, h3, hx, rfl, rfl, rfl⟩, hd, hfr⟩ | ⟨r, n', rfl, hr0, ⟨rfl, rfl, h1, h2⟩, hd, hfr⟩)
  ·exact ⟨0, rfl, .inl ⟨rfl, es, c, at', h1, h2, h3, hx, hd, DFr.call' hw0 hfr (fun q hq hx => hx.resolve_left (fun e => hlow q hq e))⟩⟩
  ·exact ⟨50, rfl, .inr ⟨rfl, h1, h2, hd, DFr.call' hw0 hfr (fun q hq hx => hlow q hq hx)⟩⟩
theorem dshift_any (B gd gb g n : Nat) (enc lim at_ a b kd steps : Int) (st : BkS) (dc : Array Value) (w : World) (h : DeskIs w B gd gb g enc lim n st dc) (hn : st.now = none) (hdz : dc.size = 10) (h2 : dc[2]? = some (.int .i64 at_))
  (hk : kd = 0 \/ kd = 1) (ha : 0 <= a /\ a <= b /\ b <= (st.ats.length : Int)) (hst : steps ≠ 0) (hsz : szS (sizedA enc st.ats) <= lim) (hnn : n + 131072 <= 1073741824) (hud : (st.undo.length : Int) <= st.depth) (hla : st.last < 1073741824) :
  Calls Tryz.prog 13 #[.pointer (some ⟨gd, 0, none⟩), .agg #[.int .i64 a, .int .i64 b, .int .i64 kd], .int .i64 steps] w fun e w' => ∃ r, e = .returned (.int .i64 r) /\ ShiftPost B gd gb g enc lim n st dc (stepsF steps) (rowIx (sizedA enc st.ats) a false) (rowIx (sizedA enc st.ats) (max a (b - 1)) false) w r w' := by
 have hmf : ∀ (fn : Fn) (first cap : Array Value) (w : World), (Instr.makeFunc fn first cap).run Tryz.prog w = .ok (.func fn first cap) w := fun _ _ _ _ => rfl
 have hw3 : Below w.heap.size w (((w.alloc (.cells #[.pointer (some ⟨gd, 0, none⟩)] 23)).alloc (.cells #[.int .i64 a, .int .i64 b, .int .i64 kd] 29)).alloc (.cells #[.int .i64 steps] 3)) := balloc (balloc (balloc (Below.refl _ _)))
 have b0 : Blk (((w.alloc (.cells #[.pointer (some ⟨gd, 0, none⟩)] 23)).alloc (.cells #[.int .i64 a, .int .i64 b, .int .i64 kd] 29)).alloc (.cells #[.int .i64 steps] 3)) w.heap.size 23 #[.pointer (some ⟨gd, 0, none⟩)] := ((Blk.new w _ _).alloc _).alloc _
 have b1 : Blk (((w.alloc (.cells #[.pointer (some ⟨gd, 0, none⟩)] 23)).alloc (.cells #[.int .i64 a, .int .i64 b, .int .i64 kd] 29)).alloc (.cells #[.int .i64 steps] 3)) (w.heap.size + 1) 29 #[.int .i64 a, .int .i64 b, .int .i64 kd] := (Blk.new' (by simp)).alloc _
 have b2 : Blk (((w.alloc (.cells #[.pointer (some ⟨gd, 0, none⟩)] 23)).alloc (.cells #[.int .i64 a, .int .i64 b, .int .i64 kd] 29)).alloc (.cells #[.int .i64 steps] 3)) (w.heap.size + 1 + 1) 3 #[.int .i64 steps] := Blk.new' (by simp)
 have c0 := b0.cell 0
 have c2 := b2.cell 0
 simp only [List.getElem?_toArray, List.getElem?_cons_zero] at c0 c2
 have HH := Lib.hid h
 have q0 : (steps == 0) = false := by rw [beq_eq_false_iff_ne]; exact hst
 go_enter Tryz.func13, Tryz.ntmps13
 go_upto_region 1 with fail
 obtain ⟨w3, hw30⟩ : ∃ x', (((w.alloc (.cells #[.pointer (some ⟨gd, 0, none⟩)] 23)).alloc (.cells #[.int .i64 a, .int .i64 b, .int .i64 kd] 29)).alloc (.cells #[.int .i64 steps] 3)) = x' := ⟨_, rfl⟩
 rw [hw30] at hw3 b0 b1 b2 c0 c2 ⊢
 clear hw30 h
 go_upto_region 3 with fail
 clear c0 c2 q0
 have hBD : ∀ w', Below w3.heap.size w3 w' -> w'.cell? ⟨w.heap.size, 0, none⟩ = some (.pointer (some ⟨gd, 0, none⟩)) /\ w'.cell? ⟨gd, 2, none⟩ = some (.int .i64 at_) := fun w' hb =>
  ⟨(b0.below hb).cell 0, ((HH.out.below (bseq hw3 hb)).desk.cell 2).trans h2⟩
 have HBD := Lib.hid hBD
 have HCL := Lib.hid (fun (w' : World) (hb : Below w3.heap.size w3 w') => clamp_desk (HH.out.below (bseq hw3 hb)) at_)
 have HPOS := Lib.hid HH.out.pos
 have HWK := Lib.hid (fun (w' : World) (hb : Below w3.heap.size w3 w') (c : Int) (hc : 0 <= c /\ c <= (st.ats.length : Int)) =>
  shift_work B gd gb g n w.heap.size (w.heap.size + 1) (w.heap.size + 1 + 1) enc lim a b kd steps c st dc w w' (bseq hw3 hb) (by omega) (HH.out.below (bseq hw3 hb)) hn hdz (b0.below hb) (b1.below hb) (b2.below hb) hk ha hst hsz hnn hud hla hc)
 clear hBD b0 b1 b2 hn h2 hdz
 refine wp_region_lin (fun w' => Below w3.heap.size w3 w') (fun w' => Below w3.heap.size w3 w') (fun k => k == 6 || k == 8) (fun k => k == 8) (fun k => k == 9) (by kernel_rfl) (by kernel_rfl) (Below.drew (Below.refl _ _)) (fun _ h => h) ?_
 repeat ((first
  | (refine wpL_read (v := ?_) (by rfl) (by rfl) (fun w6 hSw => ?_) ?_; rotate_left; (· (obtain ⟨y0, y2⟩ := HBD.out _ hSw; go_simp; try with_reducible rfl)))
  | (refine wpL_free (v := ?_) (by rfl) (fun w6 => ?_) ?_; rotate_left; (· (go_simp; try with_reducible rfl)))
  | refine wpL_not (by rfl) ?_); (try simp only [Act.put, pA, pB, pC]))
 refine wpL_call (f := ?_) (args := ?_) (fun v w' => (∃ x : Int, v = .int .i64 x /\ 0 <= x /\ x <= (st.ats.length : Int)) /\ Below w3.heap.size w3 w') (by rfl) (by rfl) (fun w6 hSw => ?_) (fun w6 hSw => ?_) (.inr (fun v6 w6 hT6 => ?_)) (fun v6 hv6 => ?_)
 rotate_left 2
 ·(skip; go_simp; first | done | (constructor <;> with_reducible rfl) | with_reducible rfl)
 ·(refine (HCL.out _ hSw).mono ?_; rintro e w' ⟨jc, rfl, -, hjc, hb⟩; have hbd := clampV_bd HPOS.out hjc; rw [sizedA_len] at hbd; exact ⟨_, rfl, ⟨_, rfl, hbd.1, hbd.2⟩, bseq hSw hb⟩)
 ·(exact hT6.2)
 obtain ⟨wz, ⟨x, rfl, hx0, hx1⟩, -⟩ := hv6
 (try simp only [Act.put, pA, pB, pC])
 repeat ((first
  | (refine wpL_read (v := ?_) (by rfl) (by rfl) (fun w6 hSw => ?_) ?_; rotate_left; (· (obtain ⟨y0, y2⟩ := HBD.out _ hSw; go_simp; try with_reducible rfl)))
  | (refine wpL_free (v := ?_) (by rfl) (fun w6 => ?_) ?_; rotate_left; (· (go_simp; try with_reducible rfl)))
  | refine wpL_not (by rfl) ?_); (try simp only [Act.put, pA, pB, pC]))
 refine wpL_call (f := ?_) (args := ?_) (fun v w' => ∃ r, v = .int .i64 r /\ ShiftPost B gd gb g enc lim n st dc (stepsF steps) (rowIx (sizedA enc st.ats) a false) (rowIx (sizedA enc st.ats) (max a (b - 1)) false) w r w') (by rfl) (by rfl) (fun w6 hSw => ?_) (fun w6 hSw => ?_) (.inl (by rfl)) (fun v6 hv6 => ?_)
 rotate_left 2
 ·(skip; go_simp; first | done | (constructor <;> with_reducible rfl) | with_reducible rfl)
 ·(refine (HWK.out _ hSw.2 x ⟨hx0, hx1⟩).mono ?_; rintro e w' ⟨r, rfl, hp⟩; exact ⟨_, rfl, r, rfl, hp⟩)
 obtain ⟨wz, r, rfl, -⟩ := hv6
 (try simp only [Act.put, pA, pB, pC])
 repeat ((first
  | (refine wpL_read (v := ?_) (by rfl) (by rfl) (fun w6 hSw => ?_) ?_; rotate_left; (· (obtain ⟨y0, y2⟩ := HBD.out _ hSw; go_simp; try with_reducible rfl)))
  | (refine wpL_free (v := ?_) (by rfl) (fun w6 => ?_) ?_; rotate_left; (· (go_simp; try with_reducible rfl)))
  | refine wpL_not (by rfl) ?_); (try simp only [Act.put, pA, pB, pC]))
 refine wpL_nil ?_
 rintro w7 ⟨r', hr', hp⟩
 obtain rfl : r = r' := by injection hr'
 have HP := Lib.hid hp
 clear hp hr'
 go_wp2_with fail
 go_ret
 exact ⟨r, rfl, HP.out⟩
theorem own_lit (w : World) (T : TypeId) (l : List Value) (h : l.length <= 1000) : (w.alloc (.cells l.toArray T)).ownsRow w.heap.size T 1 (.slice (some ⟨w.heap.size, 0, none⟩) l.length l.length) l.length l :=
 ⟨by simp, .inr ⟨w.heap.size, l.length, l.toArray, rfl, Nat.le_refl _, heap_alloc_new w _, Nat.le_refl _, by unfold maxLen; omega, by simp, by simp⟩⟩
def IntsV (w : World) (v : Value) (l : List Int) : Prop := ∃ A c, v = .slice A l.length c /\ l.length <= c /\ IntsI w A l.length l
theorem IntsV.at_ {w : World} {A : Option Addr} {n c : Nat} {l : List Int} (h : IntsV w (.slice A n c) l) : n = l.length /\ l.length <= c /\ IntsI w A l.length l := by
 obtain ⟨A', c', e, h1, h2⟩ := h
 injection e with e1 e2 e3
 subst e1
 subst e3
 exact ⟨e2, h1, h2⟩
def TakenPost (kd : Int) (xs : List Int) (w : World) (e : Ending) (w' : World) : Prop := ∃ A n c, e = .returned (.agg #[.int .i64 kd, .slice A n c]) /\ IntsI w' A n xs /\ n <= c /\ Below w.heap.size w w'
section
variable {B gd gb g n : Nat} {enc lim : Int} {st : BkS} {dc : Array Value} {w : World}
theorem taken_chars (h : DeskIs w B gd gb g enc lim n st dc) (a b : Int) (ha : 0 <= a /\ a <= b /\ b <= (st.ats.length : Int)) :
  Calls Tryz.prog 30 #[.pointer (some ⟨gd, 0, none⟩), .agg #[.int .i64 a, .int .i64 b, .int .i64 0]] w fun e w' => TakenPost 0 (seg a b (st.ats.map Prod.fst)) w e w' := by
 have hlen := h.len
 have hat := fun (w' : World) (hb : Below w.heap.size w w') => tatoms_any Any g enc (sizedA enc st.ats) a b w' (h.below hb).at_ (by omega) (by omega)
 rw [sizedA_fst] at hat
 obtain ⟨C, hC⟩ : ∃ C, seg a b (st.ats.map Prod.fst) = C := ⟨_, rfl⟩
 rw [hC] at hat ⊢
 have HAT := Lib.hid hat
 have HT := Lib.hid (fun (w' : World) (hb : Below w.heap.size w w') => text_desk (h.below hb))
 have hb1 : Below w.heap.size w ((w.alloc (.cells #[.int .i64 a, .int .i64 b, .int .i64 0] 29)).alloc (.cells #[.int .i64 0, .slice none 0 0] 66)) := balloc (balloc (Below.refl _ _))
 have k1 : Blk ((w.alloc (.cells #[.int .i64 a, .int .i64 b, .int .i64 0] 29)).alloc (.cells #[.int .i64 0, .slice none 0 0] 66)) w.heap.size 29 #[.int .i64 a, .int .i64 b, .int .i64 0] := (Blk.new w _ _).alloc _
 have k2 : Blk ((w.alloc (.cells #[.int .i64 a, .int .i64 b, .int .i64 0] 29)).alloc (.cells #[.int .i64 0, .slice none 0 0] 66)) (w.heap.size + 1) 66 #[.int .i64 0, .slice none 0 0] := Blk.new' (by simp)
 clear h hat hC hlen
 go_enter Tryz.func30, Tryz.ntmps30
 go_upto_region 1 with fail
 obtain ⟨w1, hw1⟩ : ∃ x, (w.alloc (.cells #[.int .i64 a, .int .i64 b, .int .i64 0] 29)).alloc (.cells #[.int .i64 0, .slice none 0 0] 66) = x := ⟨_, rfl⟩
 rw [hw1] at hb1 k1 k2 ⊢
 clear hw1
 obtain ⟨c0, c1, c2⟩ := cells3 k1
 have HK1 := Lib.hid k1
 have HK2 := Lib.hid k2
 clear k1 k2
 go_upto_region 2 with fail
 have hS : ∀ w', Below w1.heap.size w1 w' -> w'.cell? ⟨w.heap.size, 0, none⟩ = some (.int .i64 a) /\ w'.cell? ⟨w.heap.size, 1, none⟩ = some (.int .i64 b) := fun w' hb => ⟨(HK1.out.below hb).cell 0, (HK1.out.below hb).cell 1⟩
 have HS := Lib.hid hS
 clear hS
 refine wp_region_lin (fun w' => Below w1.heap.size w1 w') (fun w' => Below w1.heap.size w1 w') (fun k => k == 1 || k == 6 || k == 8) (fun k => k == 8) (fun _ => false) (by kernel_rfl) (by kernel_rfl) (Below.drew (Below.refl _ _)) (fun _ h => h) ?_
 repeat ((first
  | (refine wpL_read (v := ?_) (by rfl) (by rfl) (fun w6 hSw => ?_) ?_; rotate_left; (· (obtain ⟨y0, y1⟩ := HS.out _ hSw; go_simp; try with_reducible rfl)))
  | (refine wpL_free (v := ?_) (by rfl) (fun w6 => ?_) ?_; rotate_left; (· (go_simp; try with_reducible rfl)))
  | refine wpL_not (by rfl) ?_); (try simp only [Act.put, pA, pB, pC]))
 refine wpL_call (f := ?_) (args := ?_) (fun v w' => v = .pointer (some ⟨g, 0, none⟩) /\ Below w1.heap.size w1 w') (by rfl) (by rfl) (fun w6 hSw => ?_) (fun w6 hSw => ?_) (.inr (fun v6 w6 hT6 => ?_)) (fun v6 hv6 => ?_)
 rotate_left 2
 ·(skip; go_simp; first | done | (constructor <;> with_reducible rfl) | with_reducible rfl)
 ·(refine (HT.out _ (bseq hb1 hSw)).mono ?_; rintro e w' ⟨rfl, rfl⟩; exact ⟨_, rfl, rfl, hSw⟩)
 ·(exact hT6.2)
 obtain ⟨wz, rfl, -⟩ := hv6
 (try simp only [Act.put, pA, pB, pC])
 repeat ((first
  | (refine wpL_read (v := ?_) (by rfl) (by rfl) (fun w6 hSw => ?_) ?_; rotate_left; (· (obtain ⟨y0, y1⟩ := HS.out _ hSw; go_simp; try with_reducible rfl)))
  | (refine wpL_free (v := ?_) (by rfl) (fun w6 => ?_) ?_; rotate_left; (· (go_simp; try with_reducible rfl)))
  | refine wpL_not (by rfl) ?_); (try simp only [Act.put, pA, pB, pC]))
 refine wpL_call (f := ?_) (args := ?_) (fun v w' => IntsV w' v C /\ Below w1.heap.size w1 w') (by rfl) (by rfl) (fun w6 hSw => ?_) (fun w6 hSw => ?_) (.inr (fun v6 w6 hT6 => ?_)) (fun v6 hv6 => ?_)
 rotate_left 2
 ·(skip; go_simp; first | done | (constructor <;> with_reducible rfl) | with_reducible rfl)
 ·(refine (HAT.out _ (bseq hb1 hSw.2)).mono ?_; rintro e w' ⟨v, rfl, hown, hb'⟩; obtain ⟨A7, k7, rfl, hk7⟩ := own_slice hown; exact ⟨_, rfl, ⟨A7, k7, rfl, hk7, IntsI.of_own hown⟩, bseq hSw.2 hb'⟩)
 ·(exact hT6.2)
 obtain ⟨wz, ⟨A7, c7, rfl, hc7, -⟩, -⟩ := hv6
 (try simp only [Act.put, pA, pB, pC])
 repeat ((first
  | (refine wpL_read (v := ?_) (by rfl) (by rfl) (fun w6 hSw => ?_) ?_; rotate_left; (· (obtain ⟨y0, y1⟩ := HS.out _ hSw; go_simp; try with_reducible rfl)))
  | (refine wpL_free (v := ?_) (by rfl) (fun w6 => ?_) ?_; rotate_left; (· (go_simp; try with_reducible rfl)))
  | refine wpL_not (by rfl) ?_); (try simp only [Act.put, pA, pB, pC]))
 refine wpL_heavy (fun _ w'' => ∃ w', (IntsV w' (.slice A7 C.length c7) C /\ Below w1.heap.size w1 w') /\ w'' = (w'.setCell ⟨w.heap.size + 1, 0, none⟩ (.int .i64 0)).setCell ⟨w.heap.size + 1, 1, none⟩ (.slice A7 C.length c7)) (by rfl) (by rfl) (fun w6 hSw => ?_) (.inl (by rfl)) (fun v6 hv6 => ?_)
 ·(have hbx := HK2.out.below hSw.2; have e0 := hbx.cell 0; have e1 := hbx.cell 1; have e2 := hbx.frozen 0; have e3 := hbx.frozen 1; simp at e0 e1; go_simp; exact ⟨w6, hSw, rfl⟩)
 skip
 (try simp only [Act.put, pA, pB, pC])
 repeat ((first
  | (refine wpL_read (v := ?_) (by rfl) (by rfl) (fun w6 hSw => ?_) ?_; rotate_left; (· (obtain ⟨y0, y1⟩ := HS.out _ hSw; go_simp; try with_reducible rfl)))
  | (refine wpL_free (v := ?_) (by rfl) (fun w6 => ?_) ?_; rotate_left; (· (go_simp; try with_reducible rfl)))
  | refine wpL_not (by rfl) ?_); (try simp only [Act.put, pA, pB, pC]))
 refine wpL_nil ?_
 rintro w4 ⟨w3, ⟨hV, hb3⟩, rfl⟩
 obtain ⟨-, hcc, hI⟩ := hV.at_
 have k3 := HK2.out.below hb3
 have hr := (cells2_of (((k3.set_ 0 (.int .i64 0)).set_ 1 (.slice A7 C.length c7)).eq_ (show _ = #[.int .i64 0, .slice A7 C.length c7] by simp))).1
 have hfr : Fr (· = w.heap.size + 1) w3 ((w3.setCell ⟨w.heap.size + 1, 0, none⟩ (.int .i64 0)).setCell ⟨w.heap.size + 1, 1, none⟩ (.slice A7 C.length c7)) := ((Fr.refl _ _).set1 0 _).set1 1 _
 have hI' := hI.fr hfr (fun b hb hs ⟨cs, hc⟩ => Blk.ne_ hc k3 (by decide) hs)
 have hfin : Below w.heap.size w ((w3.setCell ⟨w.heap.size + 1, 0, none⟩ (.int .i64 0)).setCell ⟨w.heap.size + 1, 1, none⟩ (.slice A7 C.length c7)) := ((bseq hb1 hb3).setCell (p := ⟨w.heap.size + 1, 0, none⟩) (Nat.le_succ _) _).setCell (p := ⟨w.heap.size + 1, 1, none⟩) (Nat.le_succ _) _
 have HR := Lib.hid hr
 have HI := Lib.hid hI'
 have HFIN := Lib.hid hfin
 clear hr hI' hfin hfr k3 hI
 go_wp2_with fail
 exact bodyPost_ret (v := .agg #[.int .i64 0, .slice A7 C.length c7]) (by simp [results, Tryz.results30, go_sem, HR.out.1, HR.out.2]) rfl ⟨A7, C.length, c7, rfl, HI.out, hcc, HFIN.out⟩
end
theorem DeskIs.bank {w w' : World} {B gd gb g gk n : Nat} {enc lim tu : Int} {st : BkS} {dc : Array Value} {R : Int -> Option (Int × List Int)} (h : DeskIs w B gd gb g enc lim n st dc) (hk : BankIs w B gk st.mb R tu) (hf : Fr (fun b => b = st.mb \/ b = gk) w w') : DeskIs w' B gd gb g enc lim n st dc :=
 h.alien2 hf (fun k _ hs => by
  obtain ⟨l, h1, _⟩ := hk.map
  have hne := h1.ne_blk h.desk
  obtain ⟨es, y, he, _⟩ := h1
  rcases hs with rfl | rfl
  ·exact ⟨hne, .inr ⟨rfl, es, y, he⟩⟩
  ·exact ⟨Blk.ne_ hk.blk h.desk (by decide), .inl ⟨_, _, hk.blk, by decide⟩⟩)
theorem BankIs.dfr {w w' : World} {B gk mk gd : Nat} {tu : Int} {dc : Array Value} {R : Int -> Option (Int × List Int)} (h : BankIs w B gk mk R tu) (hf : DFr B (· = gd) w w') (hd : Blk w gd 42 dc) : BankIs w' B gk mk R tu := h.fr hf (fun b _ hs => by
 rcases hs with ⟨_, T, cs, hc, hT⟩ | rfl
 ·exact ⟨Blk.ne_ hc h.blk (fun e => by subst e; revert hT; decide), T, cs, hc, fun e => by subst e; revert hT; decide⟩
 ·exact ⟨Blk.ne_ hd h.blk (by decide), _, _, hd, by decide⟩)
theorem BankIs.set {w : World} {B gk mk gd i : Nat} {tu : Int} {dc : Array Value} {R : Int -> Option (Int × List Int)} (h : BankIs w B gk mk R tu) (hd : Blk w gd 42 dc) (u : Value) : BankIs (w.setCell ⟨gd, i, none⟩ u) B gk mk R tu :=
 h.dfr (DFr.of_x (X := (· = gd)) ((Fr.refl _ _).set1 i u)) hd
theorem BankIs.keep {w w' : World} {B gk mk b : Nat} {tu : Int} {R : Int -> Option (Int × List Int)} {T : TypeId} {cs : Array Value} (h : BankIs w B gk mk R tu) (hf : Fr (fun b => b = mk \/ b = gk) w w') (hb : Blk w b T cs) (hT : T ≠ 125) : Blk w' b T cs := hb.fr hf (fun hs => by
 rcases hs with rfl | rfl
 ·exact (mk_no_blk h).2 _ _ hb
 ·exact Blk.ne_ hb h.blk hT rfl)
def RegV (w : World) (kd : Int) (v : Value) (l : List Int) : Prop := ∃ A m c, v = .agg #[.int .i64 kd, .slice A m c] /\ IntsI w A m l
theorem RegV.at_ {w : World} {kd : Int} {A : Option Addr} {m c : Nat} {l : List Int} (h : RegV w kd (.agg #[.int .i64 kd, .slice A m c]) l) : IntsI w A m l := by
 obtain ⟨A', m', c', e, h1⟩ := h
 injection e with e
 have e' := congrArg (fun a : Array Value => a[1]?) e
 simp at e'
 obtain ⟨rfl, rfl, rfl⟩ := e'
 exact h1
noncomputable def clampX (ds : List (Int × Int)) (x : Int) (j : Nat) : Int := (lineF ds (rowIx ds x false)).from_ + (mkb (cont ds (rowIx ds x false)) j : Int)
def Yank1Post (B gd gb g gk n : Nat) (enc lim : Int) (st : BkS) (dc : Array Value) (R : Int -> Option (Int × List Int)) (tu a : Int) (w : World) (w' : World) : Prop :=
 ∃ j : Nat, ClampOk (sizedA enc st.ats) a j /\ j <= nC (cont (sizedA enc st.ats) (rowIx (sizedA enc st.ats) a false)) /\ DeskIs w' B gd gb g enc lim n st (dc.setIfInBounds 2 (.int .i64 (clampX (sizedA enc st.ats) a j))) /\ BankIs w' B gk st.mb R tu /\ Fr (fun b => b = gd \/ b = st.mb \/ b = gk) w w'
theorem yank1_chars (B gd gb g gk n b0 b1 b2 : Nat) (enc lim a b nm k tu at_ : Int) (st : BkS) (dc : Array Value) (R : Int -> Option (Int × List Int)) (w : World) (h : DeskIs w B gd gb g enc lim n st dc) (hk : BankIs w B gk st.mb R tu) (h1 : dc[1]? = some (.pointer (some ⟨gk, 0, none⟩))) (h2 : dc[2]? = some (.int .i64 at_))
  (k0 : Blk w b0 23 #[.pointer (some ⟨gd, 0, none⟩)]) (k1 : Blk w b1 29 #[.int .i64 a, .int .i64 b, .int .i64 0]) (k2 : Blk w b2 3 #[.int .i64 nm])
  (ha : 0 <= a /\ a < b /\ b <= (st.ats.length : Int)) (hnm : findR nm = ((k, false), true)) (hkk : k ≠ 46 /\ k ≠ 58 /\ k ≠ 47 /\ k ≠ 95) :
  Calls Tryz.prog 26 #[.pointer (some ⟨b0, 0, none⟩), .pointer (some ⟨b1, 0, none⟩), .pointer (some ⟨b2, 0, none⟩)] w fun e w' => e = .returned (.tuple #[]) /\ Yank1Post B gd gb g gk n enc lim st dc (putR R (ykF k) 0 (seg a b (st.ats.map Prod.fst))) (ykF k) a w w' := by
 have hlen := h.len
 have hsl := seg_len (st.ats.map Prod.fst) a b ha.1 (by omega) (by rw [List.length_map]; exact ha.2.2)
 unfold Yank1Post
 have HCK := Lib.hid (checked_ok h a b 0 (.inl rfl) ⟨ha.1, by omega, ha.2.2⟩)
 have HTK := Lib.hid (fun (w' : World) (hb : Below w.heap.size w w') => taken_chars (h.below hb) a b ⟨ha.1, by omega, ha.2.2⟩)
 obtain ⟨xs, hxs⟩ : ∃ xs, seg a b (st.ats.map Prod.fst) = xs := ⟨_, rfl⟩
 rw [hxs] at HTK hsl ⊢
 have HYK := Lib.hid (fun (w' : World) (hb : Below w.heap.size w w') (A : Option Addr) (m c : Nat) (hI : IntsI w' A m xs) => byank_any B gk st.mb R tu nm k 0 A m c xs w' (hk.below hb) hI (by have := hI.any.len; omega) hnm hkk (.inl rfl) (by have := hI.any.len; omega))
 rw [show wrF 0 xs = xs from if_neg (fun hh => by cases hh.1)] at HYK
 have q0 : (a == b) = false := by rw [beq_eq_false_iff_ne]; omega
 have HH := Lib.hid h
 have HK := Lib.hid hk
 have hF : ∀ w' w'', Below w.heap.size w w' -> Fr (fun b => b = st.mb \/ b = gk) w' w'' -> w''.cell? ⟨b0, 0, none⟩ = some (.pointer (some ⟨gd, 0, none⟩)) /\ w''.cell? ⟨gd, 1, none⟩ = some (.pointer (some ⟨gk, 0, none⟩)) /\ w''.cell? ⟨b2, 0, none⟩ = some (.int .i64 nm) /\ w''.cell? ⟨b1, 0, none⟩ = some (.int .i64 a) /\ w''.cell? ⟨b1, 1, none⟩ = some (.int .i64 b) /\ w''.cell? ⟨b1, 2, none⟩ = some (.int .i64 0) := fun w' w'' hb hf => by
  have hk' := HK.out.below hb
  exact ⟨(hk'.keep hf (k0.below hb) (by decide)).cell 0, ((hk'.keep hf (HH.out.below hb).desk (by decide)).cell 1).trans h1, (hk'.keep hf (k2.below hb) (by decide)).cell 0, (hk'.keep hf (k1.below hb) (by decide)).cell 0, (hk'.keep hf (k1.below hb) (by decide)).cell 1, (hk'.keep hf (k1.below hb) (by decide)).cell 2⟩
 have HF := Lib.hid hF
 have HB := Lib.hid (And.intro k0 k1)
 have H2 := Lib.hid h2
 obtain ⟨y0, y1, y2, y3, y4, y5⟩ := hF w w (Below.refl _ _) (Fr.refl _ _)
 clear h hk h1 h2 k0 k1 k2 hF hxs hsl hlen hnm hkk ha
 go_enter Tryz.func26, Tryz.ntmps26
 go_wp2_with fail
 refine (HCK.out).mono ?_
 rintro e w1 ⟨rfl, hb1⟩
 obtain ⟨y0, y1, y2, y3, y4, y5⟩ := HF.out w1 w1 hb1 (Fr.refl _ _)
 go_upto_region 3 with fail
 clear y0 y1 y2 y3 y4 y5 q0
 refine wp_region_lin (fun w' => w'.cell? ⟨b0, 0, none⟩ = some (.pointer (some ⟨gd, 0, none⟩)) /\ w'.cell? ⟨gd, 1, none⟩ = some (.pointer (some ⟨gk, 0, none⟩)) /\ w'.cell? ⟨b2, 0, none⟩ = some (.int .i64 nm) /\ w'.cell? ⟨b1, 0, none⟩ = some (.int .i64 a) /\ w'.cell? ⟨b1, 1, none⟩ = some (.int .i64 b) /\ w'.cell? ⟨b1, 2, none⟩ = some (.int .i64 0)) (fun w' => Below w1.heap.size w1 w') (fun k => k == 7 || k == 8 || k == 9) (fun k => k == 9) (fun _ => false) (by kernel_rfl) (by kernel_rfl) (Below.drew (Below.refl _ _)) (fun w' hb => HF.out w' w' (bseq hb1 hb) (Fr.refl _ _)) ?_
 repeat ((first
  | (refine wpL_read (v := ?_) (by rfl) (by rfl) (fun w6 hSw => ?_) ?_; rotate_left; (· (obtain ⟨y0, y1, y2, y3, y4, y5⟩ := hSw; go_simp; try with_reducible rfl)))
  | (refine wpL_free (v := ?_) (by rfl) (fun w6 => ?_) ?_; rotate_left; (· (go_simp; try with_reducible rfl)))
  | refine wpL_not (by rfl) ?_); (try simp only [Act.put, pA, pB, pC]))
 refine wpL_call (f := ?_) (args := ?_) (fun v w' => RegV w' 0 v xs /\ Below w1.heap.size w1 w') (by rfl) (by rfl) (fun w6 hSw => ?_) (fun w6 hSw => ?_) (.inr (fun v6 w6 hT6 => ?_)) (fun v6 hv6 => ?_)
 rotate_left 2
 ·(skip; go_simp; first | done | (constructor <;> with_reducible rfl) | with_reducible rfl)
 ·(refine (HTK.out _ (bseq hb1 hSw)).mono ?_; rintro e w' ⟨A7, m7, c7, rfl, hI, -, hb'⟩; exact ⟨_, rfl, ⟨A7, m7, c7, rfl, hI⟩, bseq hSw hb'⟩)
 ·(exact HF.out _ _ (bseq hb1 hT6.2) (Fr.refl _ _))
 obtain ⟨wz, ⟨A7, m7, c7, rfl, -⟩, -⟩ := hv6
 (try simp only [Act.put, pA, pB, pC])
 repeat ((first
  | (refine wpL_read (v := ?_) (by rfl) (by rfl) (fun w6 hSw => ?_) ?_; rotate_left; (· (obtain ⟨y0, y1, y2, y3, y4, y5⟩ := hSw; go_simp; try with_reducible rfl)))
  | (refine wpL_free (v := ?_) (by rfl) (fun w6 => ?_) ?_; rotate_left; (· (go_simp; try with_reducible rfl)))
  | refine wpL_not (by rfl) ?_); (try simp only [Act.put, pA, pB, pC]))
 refine wpL_call (f := ?_) (args := ?_) (fun v w' => v = .int .i64 0 /\ ∃ wq, Below w1.heap.size w1 wq /\ BankIs w' B gk st.mb (putR R (ykF k) 0 xs) (ykF k) /\ Fr (fun b => b = st.mb \/ b = gk) wq w') (by rfl) (by rfl) (fun w6 hSw => ?_) (fun w6 hSw => ?_) (.inr (fun v6 w6 hT6 => ?_)) (fun v6 hv6 => ?_)
 rotate_left 2
 ·(skip; go_simp; first | done | (constructor <;> with_reducible rfl) | with_reducible rfl)
 ·(refine (HYK.out _ (bseq hb1 hSw.2) A7 m7 c7 hSw.1.at_).mono ?_; rintro e w' ⟨rfl, hb', hf'⟩; exact ⟨_, rfl, rfl, w6, hSw.2, hb', hf'⟩)
 ·(obtain ⟨-, wq, hq, -, hf⟩ := hT6; exact HF.out _ _ (bseq hb1 hq) hf)
 obtain ⟨wz, rfl, -⟩ := hv6
 (try simp only [Act.put, pA, pB, pC])
 repeat ((first
  | (refine wpL_read (v := ?_) (by rfl) (by rfl) (fun w6 hSw => ?_) ?_; rotate_left; (· (obtain ⟨y0, y1, y2, y3, y4, y5⟩ := hSw; go_simp; try with_reducible rfl)))
  | (refine wpL_free (v := ?_) (by rfl) (fun w6 => ?_) ?_; rotate_left; (· (go_simp; try with_reducible rfl)))
  | refine wpL_not (by rfl) ?_); (try simp only [Act.put, pA, pB, pC]))
 refine wpL_call (f := ?_) (args := ?_) (fun v w' => v = .tuple #[] /\ ∃ wq, Below w1.heap.size w1 wq /\ BankIs w' B gk st.mb (putR R (ykF k) 0 xs) (ykF k) /\ Fr (fun b => b = st.mb \/ b = gk) wq w') (by rfl) (by rfl) (fun w6 hSw => ?_) (fun w6 hSw => ?_) (.inl (by rfl)) (fun v6 hv6 => ?_)
 rotate_left 2
 ·(skip; go_simp; first | done | (constructor <;> with_reducible rfl) | with_reducible rfl)
 ·(refine (must_ok _).mono ?_; rintro e w' ⟨rfl, rfl⟩; exact ⟨_, rfl, rfl, hSw.2⟩)
 obtain ⟨wz, rfl, -⟩ := hv6
 (try simp only [Act.put, pA, pB, pC])
 repeat ((first
  | (refine wpL_read (v := ?_) (by rfl) (by rfl) (fun w6 hSw => ?_) ?_; rotate_left; (· (obtain ⟨y0, y1, y2, y3, y4, y5⟩ := hSw; go_simp; try with_reducible rfl)))
  | (refine wpL_free (v := ?_) (by rfl) (fun w6 => ?_) ?_; rotate_left; (· (go_simp; try with_reducible rfl)))
  | refine wpL_not (by rfl) ?_); (try simp only [Act.put, pA, pB, pC]))
 refine wpL_nil ?_
 rintro w4 ⟨-, wq, hq, hbk, hf⟩
 have hbq := bseq hb1 hq
 have hd4 := (HH.out.below hbq).bank (HK.out.below hbq) hf
 have k04 := (HK.out.below hbq).keep hf (HB.out.1.below hbq) (by decide)
 have k14 := (HK.out.below hbq).keep hf (HB.out.2.below hbq) (by decide)
 have hf4 : Fr (fun b => b = gd \/ b = st.mb \/ b = gk) w w4 := (Fr.of_below hbq).call hf (fun i _ hs => .inr hs)
 have c2 := k14.cell 2
 simp at c2
 have HCL := Lib.hid (fun (w' : World) (hb : Below w4.heap.size w4 w') => clamp_desk (hd4.below hb) a)
 have hG : ∀ w', Below w4.heap.size w4 w' -> w'.cell? ⟨b0, 0, none⟩ = some (.pointer (some ⟨gd, 0, none⟩)) /\ w'.cell? ⟨b1, 0, none⟩ = some (.int .i64 a) /\ w'.cell? ⟨gd, 2, none⟩ = some (.int .i64 at_) /\ w'.frozen? ⟨gd, 2, none⟩ = false := fun w' hb => ⟨(k04.below hb).cell 0, (k14.below hb).cell 0, ((hd4.below hb).desk.cell 2).trans H2.out, (hd4.below hb).desk.frozen 2⟩
 have HG := Lib.hid hG
 have HD4 := Lib.hid hd4
 have HBK := Lib.hid hbk
 have HF4 := Lib.hid hf4
 clear hG hd4 hbk hf4 k04 k14 hf hq hbq HF HB HCK HTK HYK hb1
 go_upto_region 5 with fail
 refine wp_region_lin (fun w' => w'.cell? ⟨b0, 0, none⟩ = some (.pointer (some ⟨gd, 0, none⟩)) /\ w'.cell? ⟨b1, 0, none⟩ = some (.int .i64 a) /\ w'.cell? ⟨gd, 2, none⟩ = some (.int .i64 at_) /\ w'.frozen? ⟨gd, 2, none⟩ = false) (fun w' => Below w4.heap.size w4 w') (fun k => k == 4 || k == 7) (fun k => k == 7) (fun _ => false) (by kernel_rfl) (by kernel_rfl) (Below.drew (Below.refl _ _)) (fun w' hb => HG.out w' hb) ?_
 repeat ((first
  | (refine wpL_read (v := ?_) (by rfl) (by rfl) (fun w6 hSw => ?_) ?_; rotate_left; (· (obtain ⟨y0, y1, y2, y3⟩ := hSw; go_simp; try with_reducible rfl)))
  | (refine wpL_free (v := ?_) (by rfl) (fun w6 => ?_) ?_; rotate_left; (· (go_simp; try with_reducible rfl)))
  | refine wpL_not (by rfl) ?_); (try simp only [Act.put, pA, pB, pC]))
 refine wpL_call (f := ?_) (args := ?_) (fun v w' => (∃ j, v = .int .i64 (clampX (sizedA enc st.ats) a j) /\ ClampOk (sizedA enc st.ats) a j /\ j <= nC (cont (sizedA enc st.ats) (rowIx (sizedA enc st.ats) a false))) /\ Below w4.heap.size w4 w') (by rfl) (by rfl) (fun w6 hSw => ?_) (fun w6 hSw => ?_) (.inr (fun v6 w6 hT6 => ?_)) (fun v6 hv6 => ?_)
 rotate_left 2
 ·(skip; go_simp; first | done | (constructor <;> with_reducible rfl) | with_reducible rfl)
 ·(refine (HCL.out _ hSw).mono ?_; rintro e w' ⟨j, rfl, h1, h2, hb⟩; exact ⟨_, rfl, ⟨j, rfl, h1, h2⟩, bseq hSw hb⟩)
 ·(exact HG.out _ hT6.2)
 obtain ⟨wz, ⟨j, rfl, hj1, hj2⟩, -⟩ := hv6
 (try simp only [Act.put, pA, pB, pC])
 repeat ((first
  | (refine wpL_read (v := ?_) (by rfl) (by rfl) (fun w6 hSw => ?_) ?_; rotate_left; (· (obtain ⟨y0, y1, y2, y3⟩ := hSw; go_simp; try with_reducible rfl)))
  | (refine wpL_free (v := ?_) (by rfl) (fun w6 => ?_) ?_; rotate_left; (· (go_simp; try with_reducible rfl)))
  | refine wpL_not (by rfl) ?_); (try simp only [Act.put, pA, pB, pC]))
 refine wpL_heavy (fun _ w'' => ∃ w', Below w4.heap.size w4 w' /\ w'' = w'.setCell ⟨gd, 2, none⟩ (.int .i64 (clampX (sizedA enc st.ats) a j))) (by rfl) (by rfl) (fun w6 hSw => ?_) (.inl (by rfl)) (fun v6 hv6 => ?_)
 ·(obtain ⟨y0, y1, y2, y3⟩ := HG.out _ hSw.2; go_simp; exact ⟨w6, hSw.2, rfl⟩)
 skip
 (try simp only [Act.put, pA, pB, pC])
 repeat ((first
  | (refine wpL_read (v := ?_) (by rfl) (by rfl) (fun w6 hSw => ?_) ?_; rotate_left; (· (obtain ⟨y0, y1, y2, y3⟩ := hSw; go_simp; try with_reducible rfl)))
  | (refine wpL_free (v := ?_) (by rfl) (fun w6 => ?_) ?_; rotate_left; (· (go_simp; try with_reducible rfl)))
  | refine wpL_not (by rfl) ?_); (try simp only [Act.put, pA, pB, pC]))
 refine wpL_nil ?_
 rintro w5 ⟨w3, hb3, rfl⟩
 have hd := (HD4.out.below hb3).set (i := 2) (by decide) (.int .i64 (clampX (sizedA enc st.ats) a j))
 have hbk := (HBK.out.below hb3).set (i := 2) (HD4.out.below hb3).desk (.int .i64 (clampX (sizedA enc st.ats) a j))
 have hfr : Fr (fun b => b = gd \/ b = st.mb \/ b = gk) w (w3.setCell ⟨gd, 2, none⟩ (.int .i64 (clampX (sizedA enc st.ats) a j))) := (HF4.out.bel hb3).setCell (p := ⟨gd, 2, none⟩) (.inl (.inl rfl)) _
 have HFIN := Lib.hid (And.intro hd (And.intro hbk hfr))
 clear hd hbk hfr
 go_wp2_with fail
 exact bodyPost_ret (results_none rfl _ _ _) rfl ⟨rfl, j, hj1, hj2, HFIN.out.1, HFIN.out.2.1, HFIN.out.2.2⟩
def brokenF (l : List Int) : Bool := l.any fun x => x == 10 || x == 13
def BrkR (l : List Int) (w : World) (k : Nat) (q7 : Value) (wr : World) : Prop := ∃ i : Nat, q7 = .int .i64 (i : Int) /\ i <= l.length /\ l.length - i <= k /\ Hid (∀ j, j < i -> l.getD j 0 ≠ 10 /\ l.getD j 0 ≠ 13) /\ wr = w
theorem broken_true {l : List Int} {i : Nat} (hi : i < l.length) (h : l.getD i 0 = 10 \/ l.getD i 0 = 13) : brokenF l = true := by
 unfold brokenF
 rw [List.any_eq_true]
 refine ⟨l[i], List.getElem_mem _, ?_⟩
 rw [List.getD_eq_getElem?_getD, List.getElem?_eq_getElem hi] at h
 simpa using h
theorem broken_false {l : List Int} (h : ∀ j, j < l.length -> l.getD j 0 ≠ 10 /\ l.getD j 0 ≠ 13) : brokenF l = false := by
 unfold brokenF
 rw [List.any_eq_false]
 intro x hx
 obtain ⟨j, hj, rfl⟩ := List.mem_iff_getElem.1 hx
 have := h j hj
 rw [List.getD_eq_getElem?_getD, List.getElem?_eq_getElem hj] at this
 simpa using this
theorem broken_any (D : Nat -> Prop) (A : Option Addr) (n c : Nat) (l : List Int) (w : World) (hl : Ints w D A n l) (hn : n <= 1073741824) :
  Calls Tryz.prog 44 #[.slice A n c] w fun e w' => e = .returned (.bool (brokenF l)) /\ w = w' := by
 have hln := hl.len
 have HLN := Lib.hid hln
 clear hln
 go_enter Tryz.func44, Tryz.ntmps44
 go_wp2_with fail
 go_loopg [7] n (fun k q7 wr => BrkR l w k q7 wr)
 case atStart => exact ⟨0, rfl, Nat.zero_le _, by rw [HLN.out]; omega, Lib.hid (fun j hj => by omega), rfl⟩
 case round =>
  obtain ⟨i, rfl, hi, hk, hno, rfl⟩ := hrel
  rw [HLN.out] at hi hk
  by_cases hgo : i < n
  ·have q1 : ((i : Int) < (n : Int)) = True := by simp; omega
   obtain ⟨ad, rfl, _, cx⟩ := Ints.at_ hl hgo
   obtain ⟨y, hy⟩ : ∃ y, l.getD i 0 = y := ⟨_, rfl⟩
   rw [hy] at cx
   have wi : IntKind.i64.wrap ((i : Int) + 1) = ((i + 1 : Nat) : Int) := by rw [IntWalk.i64_in _ (by omega)]; omega
   by_cases h10 : y = 10
   ·have hin := broken_true (l := l) (i := i) (by rw [HLN.out]; exact hgo) (.inl (hy.trans h10))
    have HIN := Lib.hid hin
    clear hin hy
    subst h10
    go_wp2_with fail
    go_ret
    exact ⟨by rw [HIN.out]; rfl, rfl⟩
   ·by_cases h13 : y = 13
    ·have hin := broken_true (l := l) (i := i) (by rw [HLN.out]; exact hgo) (.inr (hy.trans h13))
     have HIN := Lib.hid hin
     clear hin hy
     subst h13
     go_wp2_with fail
     go_ret
     exact ⟨by rw [HIN.out]; rfl, rfl⟩
    ·have q2 : (y == 10) = false := by rw [beq_eq_false_iff_ne]; exact h10
     have q3 : (y == 13) = false := by rw [beq_eq_false_iff_ne]; exact h13
     have HY := Lib.hid hy
     clear hy
     go_wp2_with fail
     go_roundg (n - (i + 1))
     case measure => omega
     case rel =>
      refine ⟨i + 1, by simp, by rw [HLN.out]; omega, by rw [HLN.out]; omega, Lib.hid (fun j hj => ?_), rfl⟩
      rcases Nat.lt_or_ge j i with h1 | h1
      ·exact hno.out j h1
      ·rw [show j = i by omega, HY.out]
       exact ⟨h10, h13⟩
  ·have q1 : ((i : Int) < (n : Int)) = False := by simp; omega
   have hout := broken_false (l := l) (fun j hj => hno.out j (by have := HLN.out; omega))
   have HOUT := Lib.hid hout
   clear hout
   go_wp2_with fail
   go_ret
   exact ⟨by rw [HOUT.out]; rfl, rfl⟩
def oftE (enc : Int) (l : List Int) (K : Int) : Int := if l.any (fun x => szA enc x == 0) then 11 else if 0 < szL_ enc l /\ 131072 / szL_ enc l + 2 < K then 50 else 0
theorem oft_bad {enc : Int} {l : List Int} {K : Int} {i : Nat} (hi : i < l.length) (h : szA enc (l.getD i 0) = 0) : oftE enc l K = 11 := by
 unfold oftE
 rw [if_pos]
 rw [List.any_eq_true]
 refine ⟨l[i], List.getElem_mem _, ?_⟩
 rw [List.getD_eq_getElem?_getD, List.getElem?_eq_getElem hi] at h
 simpa using h
theorem oft_good {enc : Int} {l : List Int} {K : Int} (h : ∀ j, j < l.length -> szA enc (l.getD j 0) ≠ 0) : oftE enc l K = if 0 < szL_ enc l /\ 131072 / szL_ enc l + 2 < K then 50 else 0 := by
 unfold oftE
 rw [if_neg]
 rw [Bool.not_eq_true, List.any_eq_false]
 intro x hx
 obtain ⟨j, hj, rfl⟩ := List.mem_iff_getElem.1 hx
 have := h j hj
 rw [List.getD_eq_getElem?_getD, List.getElem?_eq_getElem hj] at this
 simpa using this
theorem oft_fit {enc : Int} {l : List Int} (h : ∀ j, j < l.length -> szA enc (l.getD j 0) ≠ 0) : Fit enc l := fun x hx => by
 obtain ⟨j, hj, rfl⟩ := List.mem_iff_getElem.1 hx
 have h1 := h j hj
 rw [List.getD_eq_getElem?_getD, List.getElem?_eq_getElem hj] at h1
 have h2 := szA_bd enc l[j]
 simp only [Option.getD_some] at h1
 omega
def OftenPost (enc : Int) (l : List Int) (K : Nat) (w : World) (e : Ending) (w' : World) : Prop :=
 (oftE enc l K = 0 /\ Fit enc l /\ NewInts (repeatL l K) w e w') \/ (oftE enc l K ≠ 0 /\ e = .panicked [errPanic (oftE enc l K)] /\ Below w.heap.size w w')
def OftR (enc : Int) (l : List Int) (w : World) (k : Nat) (q7 q13 : Value) (wr : World) : Prop := ∃ i : Nat, q7 = .int .i64 (szL_ enc (l.take i)) /\ q13 = .int .i64 (i : Int) /\ i <= l.length /\ l.length - i <= k /\ Hid (∀ j, j < i -> szA enc (l.getD j 0) ≠ 0) /\ Below w.heap.size w wr
section
variable {B gd gb g n : Nat} {enc lim : Int} {st : BkS} {dc : Array Value} {w : World}
theorem often_any (h : DeskIs w B gd gb g enc lim n st dc) (D : Nat -> Prop) (A : Option Addr) (N c K : Nat) (l : List Int) (hl : Ints w D A N l) (hN : N <= 140000) (hK : 1 <= K /\ K <= 9999) :
  Calls Tryz.prog 38 #[.pointer (some ⟨gd, 0, none⟩), .slice A N c, .int .i64 (K : Int)] w (OftenPost enc l K w) := by
 have hln := hl.len
 have HLN := Lib.hid hln
 have HL := Lib.hid hl
 have hE := h.enc4
 have HT := Lib.hid (fun (w' : World) (hb : Below w.heap.size w w') => text_desk (h.below hb))
 have HEN := Lib.hid (fun (w' : World) (hb : Below w.heap.size w w') => tenc_any Any g enc (sizedA enc st.ats) w' (h.below hb).at_)
 have HCS := Lib.hid (fun (x : Int) (w' : World) => csize_any enc x w' hE)
 have HRP := Lib.hid (fun (w' : World) (hb : Below w.heap.size w w') (hNK : N * K <= 268435456) => repeated_any D A N c K l w' (Reads.below hl hb) hNK (by omega) (by omega))
 unfold OftenPost
 clear h hl hln hE
 go_enter Tryz.func38, Tryz.ntmps38
 go_wp2_with fail
 go_loopg [7, 13] N (fun k q7 q13 wr => OftR enc l w k q7 q13 wr)
 case atStart => exact ⟨0, rfl, rfl, Nat.zero_le _, by rw [HLN.out]; omega, Lib.hid (fun j hj => by omega), Below.refl _ _⟩
 case round =>
  obtain ⟨i, rfl, rfl, hi, hk, hno, hb⟩ := hrel
  rw [HLN.out] at hi hk
  have hS := szL_bd enc (l.take i)
  have hS2 : ((l.take i).length : Int) <= 140000 := by
   have := HLN.out
   rw [List.length_take]
   omega
  by_cases hgo : i < N
  ·have q1 : ((i : Int) < (N : Int)) = True := by simp; omega
   obtain ⟨ad, rfl, _, cx⟩ := Ints.at_ (Reads.below HL.out hb) hgo
   obtain ⟨y, hy⟩ : ∃ y, l.getD i 0 = y := ⟨_, rfl⟩
   rw [hy] at cx
   have hst : szL_ enc (l.take (i + 1)) = szL_ enc (l.take i) + szA enc y := by
    rw [List.take_succ_eq_append_getElem (by rw [HLN.out]; exact hgo), szL_snoc, <- hy, List.getD_eq_getElem?_getD, List.getElem?_eq_getElem (by rw [HLN.out]; exact hgo)]
    rfl
   have wi : IntKind.i64.wrap ((i : Int) + 1) = ((i + 1 : Nat) : Int) := by rw [IntWalk.i64_in _ (by omega)]; omega
   have hz0 := szA_bd enc y
   have hcy := HCS.out y
   obtain ⟨z, hz⟩ : ∃ z, szA enc y = z := ⟨_, rfl⟩
   obtain ⟨S, hSS⟩ : ∃ S, szL_ enc (l.take i) = S := ⟨_, rfl⟩
   rw [hz] at hz0 hst hcy
   rw [hSS] at hS hst ⊢
   have ws : IntKind.i64.wrap (S + z) = S + z := IntWalk.i64_in _ (by omega)
   have HCY := Lib.hid hcy
   have HST := Lib.hid hst
   have HY := Lib.hid (And.intro hy hz)
   clear hcy hst hy hz hSS hS2
   go_wp2_with fail
   refine (HT.out _ hb).mono ?_
   rintro e w2 ⟨rfl, rfl⟩
   go_wp2_with fail
   refine (HEN.out _ hb).mono ?_
   rintro e w2 ⟨rfl, rfl⟩
   go_wp2_with fail
   refine (HCY.out _).mono ?_
   rintro e w2 ⟨rfl, hb2⟩
   by_cases hz : z = 0
   ·have hbad := oft_bad (K := (K : Int)) (l := l) (i := i) (by rw [HLN.out]; exact hgo) (show szA enc (l.getD i 0) = 0 by rw [HY.out.1, HY.out.2, hz])
    have HBAD := Lib.hid hbad
    have q2 : (z == 0) = true := by rw [hz]; rfl
    clear hbad hz
    go_wp2_with fail
    exact ⟨rfl, .inr ⟨by rw [HBAD.out]; decide, by rw [HBAD.out]; rfl, bseq hb hb2⟩⟩
   ·have q2 : (z == 0) = false := by rw [beq_eq_false_iff_ne]; exact hz
    go_wp2_with fail
    go_roundg (N - (i + 1))
    case measure => omega
    case rel =>
     refine ⟨i + 1, by rw [HST.out], by simp, by rw [HLN.out]; omega, by rw [HLN.out]; omega, Lib.hid (fun j hj => ?_), bseq hb hb2⟩
     rcases Nat.lt_or_ge j i with h1 | h1
     ·exact hno.out j h1
     ·rw [show j = i by omega, HY.out.1, HY.out.2]
      exact hz
  ·have q1 : ((i : Int) < (N : Int)) = False := by simp; omega
   have hall : ∀ j, j < l.length -> szA enc (l.getD j 0) ≠ 0 := fun j hj => hno.out j (by have := HLN.out; omega)
   have hgood := oft_good (K := (K : Int)) hall
   have hfit := oft_fit hall
   have hge := szL_ge enc l hfit
   have htk : l.take i = l := List.take_of_length_le (by have := HLN.out; omega)
   rw [htk] at hS hS2 ⊢
   rw [HLN.out] at hge hS2
   obtain ⟨S, hSS⟩ : ∃ S, szL_ enc l = S := ⟨_, rfl⟩
   rw [hSS] at hgood hS hge ⊢
   obtain ⟨Q, hQ⟩ : ∃ Q, (131072 : Int) / S = Q := ⟨_, rfl⟩
   have hQ0 : 0 < S -> 0 <= Q /\ Q <= 131072 /\ S * Q <= 131072 := fun hp => by
    rw [<- hQ]
    exact ⟨Int.ediv_nonneg (by decide) (by omega), Int.le_trans (Int.ediv_le_self _ (by decide)) (by decide), Int.mul_ediv_self_le (by omega)⟩
   have htd : 0 <= S -> Int.tdiv 131072 S = Q := fun _ => by rw [Int.tdiv_eq_ediv_of_nonneg (by decide), hQ]
   rw [hQ] at hgood
   have HGOOD := Lib.hid hgood
   have HFIT := Lib.hid hfit
   have HNO := Lib.hid hno
   clear hgood hfit hall htk hSS hQ hno
   rcases ilt_or_ge 0 S with h0 | h0
   ·obtain ⟨Q0, Q1, Q2⟩ := hQ0 h0
    have t0 := htd (by omega)
    have p0 : ((0 : Int) < S) = True := by simp; omega
    have w1 : IntKind.i64.wrap Q = Q := IntWalk.i64_in _ (by omega)
    have w2 : IntKind.i64.wrap (Q + 2) = Q + 2 := IntWalk.i64_in _ (by omega)
    have hne : (S = 0) = False := by simp; omega
    rcases ilt_or_ge (Q + 2) K with h1 | h1
    ·have p1 : (Q + 2 < (K : Int)) = True := by simp; omega
     have e1 := HGOOD.out
     rw [if_pos ⟨h0, h1⟩] at e1
     have E1 := Lib.hid e1
     clear e1 HGOOD h0 h1 Q2
     go_wp2_with fail
     exact ⟨rfl, .inr ⟨by rw [E1.out]; decide, by rw [E1.out]; rfl, hb⟩⟩
    ·have p1 : (Q + 2 < (K : Int)) = False := by simp; omega
     have e1 := HGOOD.out
     rw [if_neg (by omega)] at e1
     have hNK : N * K <= 268435456 := by
      have : (N : Int) * K <= S * (Q + 2) := Int.mul_le_mul hge (by omega) (by omega) (by omega)
      rw [Int.mul_add] at this
      have h3 : ((N * K : Nat) : Int) = (N : Int) * K := by simp
      have h4 := HLN.out
      omega
     have E1 := Lib.hid e1
     have HR := Lib.hid (HRP.out _ hb hNK)
     clear e1 HGOOD h0 h1 Q2 hNK HRP
     go_wp2_with fail
     refine (HR.out).mono ?_
     rintro e w3 ⟨v, rfl, ho, hb3⟩
     go_wp2_with fail
     go_ret
     exact .inl ⟨E1.out, HFIT.out, v, rfl, own_base ho hb.size, bseq hb hb3⟩
   ·have p0 : ((0 : Int) < S) = False := by simp; omega
    have e1 := HGOOD.out
    rw [if_neg (by omega)] at e1
    have hN0 : N = 0 := by omega
    have E1 := Lib.hid e1
    have HR := Lib.hid (HRP.out _ hb (by rw [hN0]; omega))
    clear e1 HGOOD h0 HRP hN0
    go_wp2_with fail
    refine (HR.out).mono ?_
    rintro e w3 ⟨v, rfl, ho, hb3⟩
    go_wp2_with fail
    go_ret
    exact .inl ⟨E1.out, HFIT.out, v, rfl, own_base ho hb.size, bseq hb hb3⟩
end
end Go.Proofs.YtgiihhikdoikgaaGreat
