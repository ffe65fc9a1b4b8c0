/-
  caught where the act gives up with an error. Book.Drop: the open group is taken back. slices.Delete of the first group of a stack.
-/
import Derived.Test.YtkoakanpaehkmaaGreatDoorLTyped
import Derived.Deep.RegionLaw
import Derived.Lib.SliceRun
import Derived.Lib.SlicesDelete
set_option linter.unusedSimpArgs false
set_option linter.unusedVariables false
set_option maxRecDepth 100000
set_option maxHeartbeats 32000000
namespace Go.Proofs.YtkoakanpaehkmaaGreatDoor
open Go.RowKit
def errPanic (c : Int) : PanicEntry := { v := .iface 37 (.int .i64 c), recovered := false }
theorem must_bad (c : Int) (hc : c ≠ 0) (w : World) : Calls Tryz.prog 68 #[.int .i64 c] w fun e w' => e = .panicked [errPanic c] /\ w' = w := by
 have q : (c != 0) = true := by rw [bne_iff_ne]; exact hc
 go_enter Tryz.func68, Tryz.ntmps68
 go_wp2_with fail
 exact ⟨rfl, rfl, rfl⟩
theorem assert_code (c : Int) (w : World) : (Instr.typeAssert (.iface 37 (.int .i64 c)) 20 37 true).run Tryz.prog w = .ok (.tuple #[.int .i64 c, .bool true]) w := by
 simp [Instr.typeAssert, run_underlying Tryz.underlying37, go_sem]
theorem caught1_code (r : Nat) (c : Int) (older : List PanicEntry) (v0 : Value) (w : World) (h0 : w.cell? ⟨r, 0, none⟩ = some v0) (hf : w.frozen? ⟨r, 0, none⟩ = false) :
  CallsD Tryz.prog 119 #[.pointer (some ⟨r, 0, none⟩)] (.panicking (errPanic c :: older)) w
   fun e u' w' => u' = .panicking ({ errPanic c with recovered := true } :: older) /\ e = .returned (.tuple #[]) /\ w' = w.setCell ⟨r, 0, none⟩ (.int .i64 c) := by
 have ta := assert_code c w
 refine callsD_of_wpS Tryz.func119 rfl fun c₀ cs hu => ?_
 apply wpS_seq
 apply wpS_region
 simp [wpOpsS, go_sem, recoverD, hu, errPanic, Tryz.ntmps119, Exit.thenS]
 refine wpS_of_wp ?_
 go_wp2_with fail
 simp [bodyPostS, results, Tryz.results119, go_sem]
theorem openC_cells {w : World} {p s m2 : Nat} {vm : Value} {o : OpS} (h : Blk w p 198 #[.pointer (some ⟨s, 0, none⟩), .pointer none, .int .i64 o.bgn, .int .i64 0, vm, .int .i64 o.old, .int .i64 0, .map (some m2), .slice none 0 0, .bool o.changed]) :
  w.cell? ⟨p, 0, none⟩ = some (.pointer (some ⟨s, 0, none⟩)) /\ w.cell? ⟨p, 2, none⟩ = some (.int .i64 o.bgn) /\ w.cell? ⟨p, 7, none⟩ = some (.map (some m2)) /\ w.cell? ⟨p, 8, none⟩ = some (.slice none 0 0) := ⟨h.cell 0, h.cell 2, h.cell 7, h.cell 8⟩
theorem drop_any (N B gb g : Nat) (enc lim : Int) (n : Nat) (add : Value) (st : BkS) (t : Tr) (a : Option Addr) (xs : List Value) (m : Nat) (vu vr : Value) (now : Option Addr) (o : OpS) (w : World) (h : BkAt w N B gb g enc lim n add st t a xs m vu vr now) (hn : st.now = some o) :
  Calls Tryz.prog 78 #[.pointer (some ⟨gb, 0, none⟩)] w fun e w' => e = .returned (.tuple #[.int .i64 o.bgn, .int .i64 0]) /\ (∃ t' a' m', BkAt w' N B gb g enc lim n add { st with ats := o.before, now := none } t' a' xs m' vu vr none) /\ BkFr B w w' := by
 have hop := h.open_
 rw [hn] at hop
 obtain ⟨p, rfl, s, m2, vm, vs, hp0, hm2, hsn, hvm, hmv, hml2⟩ := hop
 obtain ⟨hsN, t2, a2, hsb, ht2, ha2, hz2⟩ := hsn
 have HH := Lib.hid h
 have HP := Lib.hid hp0
 have HM2 := Lib.hid hm2
 have HSB := Lib.hid hsb
 have HT2 := Lib.hid ht2
 have HA2 := Lib.hid ha2
 have HZ2 := Lib.hid hz2
 have hne : gb ≠ g := fun e => Blk.ne_ h.blk h.text.blk (by decide) e
 have hpg : p ≠ g := fun e => Blk.ne_ hp0 h.text.blk (by decide) e
 have hpb : p ≠ gb := fun e => Blk.ne_ hp0 h.blk (by decide) e
 have hS0 : ∀ w', Below w.heap.size w w' -> w'.cell? ⟨gb, 0, none⟩ = some (.pointer (some ⟨g, 0, none⟩)) /\ w'.cell? ⟨gb, 6, none⟩ = some (.pointer (some ⟨p, 0, none⟩)) /\ w'.cell? ⟨p, 0, none⟩ = some (.pointer (some ⟨s, 0, none⟩)) := fun w' hb => ⟨(h.blk.below hb).cell 0, (h.blk.below hb).cell 6, (hp0.below hb).cell 0⟩
 have HS0 := Lib.hid hS0
 have c6 := h.blk.cell 6
 simp at c6
 clear h hp0 hm2 hsb ht2 ha2 hz2 hS0 hvm hmv
 go_enter_defers Tryz.func78, Tryz.ntmps78
 go_wp2_with fail
 refine wp_region_lin (fun w' => w'.cell? ⟨gb, 0, none⟩ = some (.pointer (some ⟨g, 0, none⟩)) /\ w'.cell? ⟨gb, 6, none⟩ = some (.pointer (some ⟨p, 0, none⟩)) /\ w'.cell? ⟨p, 0, none⟩ = some (.pointer (some ⟨s, 0, none⟩))) (fun w' => w' = w.drew) (fun k => k == 12) (fun k => k == 12) (fun _ => false) (by kernel_rfl) (by kernel_rfl) (rfl) (fun w' h => by subst h; exact HS0.out _ (Below.refl _ _).drew) ?_
 repeat ((first
  | (refine wpL_read (v := ?_) (by rfl) (by rfl) (fun w6 hSw => ?_) ?_; rotate_left; (· (obtain ⟨y0, y1, y2⟩ := hSw; go_simp; try with_reducible rfl)))
  | (refine wpL_free (v := ?_) (by rfl) (fun w6 => ?_) ?_; rotate_left; (· (go_simp; try with_reducible rfl)))
  | refine wpL_not (by rfl) ?_); (try simp only [Act.put, pA, pB, pC]))
 refine wpL_call (f := ?_) (args := ?_) (fun v w' => v = .int .i64 0 /\ w' = w.drew.setCell ⟨g, 2, none⟩ (.pointer a2)) (by rfl) (by rfl) (fun w6 hSw => ?_) (fun w6 hSw => ?_) (.inl (by rfl)) (fun v6 hv6 => ?_)
 rotate_left 2
 ·(skip; go_simp; first | done | (constructor <;> with_reducible rfl) | with_reducible rfl)
 ·(subst hSw; refine (tback_any g s _ a2 _ HH.out.text.blk.drew ⟨_, rfl⟩ HSB.out.drew).mono ?_; rintro e w' ⟨rfl, rfl⟩; exact ⟨_, rfl, rfl, rfl⟩)
 obtain ⟨wz, rfl, -⟩ := hv6
 (try simp only [Act.put, pA, pB, pC])
 refine wpL_nil ?_
 rintro w1 ⟨-, rfl⟩
 have hgb1 := HH.out.blk.drew.far (p := ⟨g, 2, none⟩) hne (.pointer a2)
 have hp1 := HP.out.drew.far (p := ⟨g, 2, none⟩) hpg (.pointer a2)
 have hg1 := (HH.out.text.blk.drew.set_ 2 (.pointer a2)).eq_ (show _ = #[.int .i64 enc, .int .i64 lim, .pointer a2, add] by simp)
 obtain ⟨w1, hw1⟩ : ∃ x, w.drew.setCell ⟨g, 2, none⟩ (.pointer a2) = x := ⟨_, rfl⟩
 have HW1 := Lib.hid hw1
 rw [hw1] at hgb1 hp1 hg1 ⊢
 clear hw1
 have hS1 : ∀ w', Below w1.heap.size w1 w' -> w'.cell? ⟨gb, 6, none⟩ = some (.pointer (some ⟨p, 0, none⟩)) /\ w'.cell? ⟨p, 7, none⟩ = some (.map (some m2)) /\ w'.cell? ⟨p, 8, none⟩ = some (.slice none 0 0) := fun w' hb => ⟨(hgb1.below hb).cell 6, (openC_cells (hp1.below hb)).2.2.1, (openC_cells (hp1.below hb)).2.2.2⟩
 have HS1 := Lib.hid hS1
 have HGB1 := Lib.hid hgb1
 have HP1 := Lib.hid hp1
 have HG1 := Lib.hid hg1
 clear hS1 hgb1 hp1 hg1 c6
 go_wp2_with fail
 refine wp_region_lin (fun w' => w'.cell? ⟨gb, 6, none⟩ = some (.pointer (some ⟨p, 0, none⟩)) /\ w'.cell? ⟨p, 7, none⟩ = some (.map (some m2)) /\ w'.cell? ⟨p, 8, none⟩ = some (.slice none 0 0)) (fun w' => w' = w1.drew) (fun k => k == 18 || k == 21) (fun k => k == 18 || k == 21) (fun k => k == 1 || k == 19 || k == 20 || k == 21) (by kernel_rfl) (by kernel_rfl) (rfl) (fun w' h => by subst h; exact HS1.out _ (Below.refl _ _).drew) ?_
 repeat ((first
  | (refine wpL_read (v := ?_) (by rfl) (by rfl) (fun w6 hSw => ?_) ?_; rotate_left; (· (obtain ⟨y0, y1, y2⟩ := hSw; go_simp; try with_reducible rfl)))
  | (refine wpL_free (v := ?_) (by rfl) (fun w6 => ?_) ?_; rotate_left; (· (go_simp; try with_reducible rfl)))
  | refine wpL_not (by rfl) ?_); (try simp only [Act.put, pA, pB, pC]))
 refine wpL_heavy (fun _ w' => w' = w1.drew.setCell ⟨gb, 4, none⟩ (.map (some m2))) (by rfl) (by rfl) (fun w6 hSw => ?_) (.inl (by rfl)) (fun v6 hv6 => ?_)
 ·(subst hSw; have y2 := HGB1.out.drew.cell 4; have y3 := HGB1.out.drew.frozen 4; simp at y2; go_simp; rfl)
 skip
 (try simp only [Act.put, pA, pB, pC])
 iterate 2 ((first
  | (refine wpL_read (v := ?_) (by rfl) (by rfl) (fun w6 hSw => ?_) ?_; rotate_left; (· (obtain ⟨y0, y1, y2⟩ := hSw; go_simp; try with_reducible rfl)))
  | (refine wpL_free (v := ?_) (by rfl) (fun w6 => ?_) ?_; rotate_left; (· (go_simp; try with_reducible rfl)))
  | refine wpL_not (by rfl) ?_); (try simp only [Act.put, pA, pB, pC]))
 refine wpL_heavy (fun _ w' => w' = (w1.drew.setCell ⟨gb, 4, none⟩ (.map (some m2))).setCell ⟨gb, 5, none⟩ (.slice none 0 0)) (by rfl) (by rfl) (fun w6 hSw => ?_) (.inl (by rfl)) (fun v6 hv6 => ?_)
 ·(subst hSw; have y2 := HGB1.out.cell 5; have y3 := HGB1.out.frozen 5; simp at y2; go_simp; rfl)
 skip
 (try simp only [Act.put, pA, pB, pC])
 refine wpL_nil ?_
 rintro w2 rfl
 have hgb2 := ((HGB1.out.drew.set_ 4 (.map (some m2))).set_ 5 (.slice none 0 0)).eq_ (show _ = #[.pointer (some ⟨g, 0, none⟩), .int .i64 st.depth, vu, vr, .map (some m2), .slice none 0 0, .pointer (some ⟨p, 0, none⟩), .int .i64 st.state, .int .i64 st.saved, .int .i64 st.last] by simp)
 have hF2 : Fr (· = gb) w1 ((w1.drew.setCell ⟨gb, 4, none⟩ (.map (some m2))).setCell ⟨gb, 5, none⟩ (.slice none 0 0)) := (((Fr.refl _ _).drew).set1 4 _).set1 5 _
 have hp2 := HP1.out.fr hF2 hpb
 obtain ⟨w2, hw2⟩ : ∃ x, (w1.drew.setCell ⟨gb, 4, none⟩ (.map (some m2))).setCell ⟨gb, 5, none⟩ (.slice none 0 0) = x := ⟨_, rfl⟩
 rw [hw2] at hgb2 hF2 hp2 ⊢
 have q6 := hgb2.cell 6
 obtain ⟨-, q2, -⟩ := openC_cells hp2
 simp at q6
 have HGB2 := Lib.hid hgb2
 have HF2 := Lib.hid hF2
 clear hw2 hgb2 hF2 hp2
 go_wp2_with fail
 refine leaves_cons (f := 123) (args := #[.pointer (some ⟨gb, 0, none⟩)]) (by simp) (by simp [go_sem]) ?_
 refine (shut_deferred gb _ (some ⟨p, 0, none⟩) .returning _ HGB2.out (by simp)).mono ?_
 rintro e u' w'' ⟨rfl, rfl, rfl⟩
 have hgbE := (HGB2.out.set_ 6 (.pointer none)).eq_ (show _ = #[.pointer (some ⟨g, 0, none⟩), .int .i64 st.depth, vu, vr, .map (some m2), .slice none 0 0, .pointer none, .int .i64 st.state, .int .i64 st.saved, .int .i64 st.last] by simp)
 have hFE : Fr (· = gb) w1 (w2.setCell ⟨gb, 6, none⟩ (.pointer none)) := HF2.out.set1 6 _
 have hrow0 : w.drew.ownsRow B 5 1 add n xs := own_bel HH.out.text.row (Below.refl _ _).drew
 have hT01 := TStep.set hrow0 HH.out.text.blk.drew HH.out.text.ne 2 (.pointer a2)
 have hrow1 := own_set_far (i := 2) (u := .pointer a2) hrow0 HH.out.text.blk.drew (by decide)
 rw [HW1.out] at hT01
 have hK1 : ∀ M, GKeep M add add n n enc w w1 := fun M => (GKeep.below HH.out.text.row HH.out.text.blk (Below.refl _ _).drew).trans (GKeep.step hT01 hrow0 HH.out.text.blk.drew)
 have hKE : ∀ M, GKeep M add add n n enc w (w2.setCell ⟨gb, 6, none⟩ (.pointer none)) := fun M => (hK1 M).trans (GKeep.far hFE (fun k _ hk => hk ▸ Far2.blk HGB1.out (by decide)))
 have hFg : Fr (fun b => b = g \/ b = gb) w (w2.setCell ⟨gb, 6, none⟩ (.pointer none)) := by
  have h1 : Fr (fun b => b = g \/ b = gb) w w1 := by
   have h2 := ((Fr.refl (fun b => b = g \/ b = gb) w).drew).setCell (p := ⟨g, 2, none⟩) (.inl (.inl rfl)) (.pointer a2)
   rw [HW1.out] at h2
   exact h2
  exact h1.call hFE (fun i _ h => .inr h)
 rw [HW1.out] at hrow1
 have hown : ∀ v' k' ys, w.ownsRow B 96 1 v' k' ys -> (w2.setCell ⟨gb, 6, none⟩ (.pointer none)).ownsRow B 96 1 v' k' ys := fun v' k' ys ho => own_fr' ho hFg (fun b cs' hs hc => by
  rcases hs with rfl | rfl
  ·exact Blk.ne_ hc HH.out.text.blk (by decide) rfl
  ·exact Blk.ne_ hc HH.out.blk (by decide) rfl)
 have hTE : TextM (w2.setCell ⟨gb, 6, none⟩ (.pointer none)) B g enc lim n add t2 a2 xs := ⟨HG1.out.fr hFE (Ne.symm hne), own_fr' hrow1 hFE (fun b cs' hs hc => Blk.ne_ hc HGB1.out (by decide) hs), HH.out.text.enc4, Nat.le_trans HH.out.text.base hFg.size, (hKE N).tree t2 a2 HT2.out⟩
 have hmE : MapE (w2.setCell ⟨gb, 6, none⟩ (.pointer none)) st.mb m2 := HM2.out.fr hFg (fun hs => by
  rcases hs with hs | hs
  ·exact HM2.out.ne_blk HH.out.text.blk hs
  ·exact HM2.out.ne_blk HH.out.blk hs)
 refine ⟨.tuple #[.int .i64 o.bgn, .int .i64 0], by simp [results, Tryz.results78, go_sem], rfl, ⟨t2, a2, m2, ?_⟩, ?_⟩
 ·exact ⟨hgbE, hTE, HA2.out, HZ2.out, HH.out.lim0, hmE, HH.out.undo.keep (hKE N) (Nat.le_refl _) (hown _), HH.out.redo.keep (hKE N) (Nat.le_refl _) (hown _), HH.out.sep, rfl, Nat.le_trans HH.out.nle hFg.size, HH.out.nums, ⟨HH.out.low.1, HH.out.low.2.1, HH.out.low.2.2.1, fun _ e => by cases e⟩⟩
 ·refine BkFr.of_fr hFg (fun b _ hs => ?_)
  rcases hs with rfl | rfl
  ·exact ⟨HH.out.low.2.1, _, _, HH.out.text.blk, .inl rfl⟩
  ·exact ⟨HH.out.low.1, _, _, HH.out.blk, .inr (.inr (.inl rfl))⟩
theorem blk_setCells {b : Nat} {T : TypeId} : ∀ (vs : List Value) (o : Nat) {w : World} {cs : Array Value}, Blk w b T cs -> Blk (w.setCells b o vs) b T (Lib.lay cs o vs)
 | [], _, _, _, h => h
 | x :: vs, o, _, _, h => blk_setCells vs (o + 1) (h.set_ o x)
theorem fr_setCells {b : Nat} : ∀ (vs : List Value) (o : Nat) {w w' : World}, Fr (· = b) w w' -> Fr (· = b) w (w'.setCells b o vs)
 | [], _, _, _, h => h
 | x :: vs, o, _, _, h => fr_setCells vs (o + 1) (h.set1 o x)
theorem groups_zero : ∀ w, (zeroValue 96).run Tryz.prog w = .ok (.pointer none) w := by
 intro w
 simp [go_sem, run_underlying Tryz.underlying96, zeroValue]
 rfl
theorem del_any (B r n c : Nat) (ys : List Value) (w : World) (h : w.ownsRow B 96 1 (.slice (some ⟨r, 0, none⟩) n c) n ys) (hn : 1 <= n) (h1 : ∀ u ∈ ys, u.oneCell' = true) :
  Calls Tryz.prog 124 #[.slice (some ⟨r, 0, none⟩) n c, .int .i64 0, .int .i64 1] w fun e w' => e = .returned (.slice (some ⟨r, 0, none⟩) (n - 1) c) /\ w'.ownsRow B 96 1 (.slice (some ⟨r, 0, none⟩) (n - 1) c) (n - 1) (ys.drop 1) /\ Fr (· = r) w w' := by
 obtain ⟨ig, hig, hg0, hg1, hg2⟩ := info_parts groups_info
 have hyl := h.1
 rcases h.2 with ⟨e0, _⟩ | ⟨r', c', cur, e0, hB, hbk, hnc, hcm, hcs, htk⟩
 ·cases e0
 injection e0 with e0 _ e1
 injection e0 with e0
 injection e0 with e0
 subst e0
 subst e1
 have hbk : Blk w r 96 cur := hbk
 simp only [Nat.mul_one] at hyl hcs htk
 have hcell : ∀ i u, ys[i]? = some u -> cur[i]? = some u := fun i u hu => by
  rw [<- htk, List.getElem?_take] at hu
  split at hu
  ·simpa using hu
  ·cases hu
 obtain ⟨news, hnews⟩ : ∃ news, ys.drop 1 = news := ⟨_, rfl⟩
 have hlen : news.length = n - 1 := by rw [<- hnews, List.length_drop]; omega
 have hbkd := hbk.drew
 obtain ⟨A, hA, hsrc⟩ : ∃ A : Addr, (if c = 1 then some (⟨r, 0, none⟩ : Addr) else some ⟨r, 1, none⟩) = some A /\ Hid (∀ t u, news[t]? = some u -> w.drew.cell? (A.add t) = some u) := by
  by_cases hc : c = 1
  ·refine ⟨⟨r, 0, none⟩, by simp [hc], fun t u hu => ?_⟩
   have h0 : news.length = 0 := by omega
   rw [List.length_eq_zero_iff.1 h0] at hu
   simp at hu
  ·refine ⟨⟨r, 1, none⟩, by simp [hc], fun t u hu => ?_⟩
   rw [<- hnews, List.getElem?_drop] at hu
   rw [Addr.add_lit, hbkd.cell]
   exact hcell _ _ hu
 have s1 : Hid (news.length = (n - 1) * 1) := by rw [Nat.mul_one]; exact hlen
 have s2 : Hid (∀ u ∈ news, u.oneCell' = true) := fun u hu => h1 u (by rw [<- hnews] at hu; exact List.mem_of_mem_drop hu)
 have s3 : Hid (∀ t, t < news.length -> (w.drew.cell? ⟨r, 0 + 0 * 1 + t, none⟩).isSome = true /\ w.drew.frozen? ⟨r, 0 + 0 * 1 + t, none⟩ = false) := fun t ht => by
  refine ⟨?_, hbkd.frozen _⟩
  rw [hbkd.cell, Array.getElem?_eq_getElem (by omega)]
  rfl
 obtain ⟨W1, hW1⟩ : ∃ W1, W1 = w.drew.setCells r (0 + 0 * 1) news := ⟨_, rfl⟩
 have hbk1 : Blk W1 r 96 (Lib.lay cur 0 news) := by rw [hW1]; exact blk_setCells news 0 hbkd
 have hF1 : Fr (· = r) w W1 := by rw [hW1]; exact fr_setCells news _ ((Fr.refl _ _).drew)
 have hcl : ∀ ty, (Builtin.clear_ #[83] ty #[.slice (some ⟨r, n - 1, none⟩) (n - (n - 1)) (c - (n - 1))]).run Tryz.prog W1 = .ok (.tuple #[]) (W1.setCells r (n - 1) (List.replicate (n - (n - 1)) (.pointer none))) :=
  fun ty => Lib.run_clear_slice W1 _ _ ty _ Tryz.underlying83 groups_zero rfl rfl r (n - 1) _ _ (by omega) (fun t ht => by rw [hbk1.cell, Array.getElem?_eq_getElem (by rw [Lib.lay_size]; omega)]; rfl) (fun t ht => hbk1.frozen _)
 have hW : Hid (W1 = w.drew.setCells r (0 + 0 * 1) news) := hW1
 have HN := Lib.hid hnews
 have HC := Lib.hid hcell
 have HB1 := Lib.hid hbk1
 have HF1 := Lib.hid hF1
 have HS := Lib.hid hcs
 have HL := Lib.hid hyl
 have HLN := Lib.hid hlen
 have hc1 : 1 <= c := by omega
 have hnI : (1 : Int) <= (n : Int) := by omega
 clear hW1 hbk1 hF1 hbkd hcell htk hyl hnews hlen hbk h h1 hg0 hg2 hcs
 go_enter Tryz.func124, Tryz.ntmps124
 go_wp2_with fail
 go_region_law (refine step_append_room rfl (.tmp 22) (.tmp 25) 83 rfl 96 ig 1 Tryz.underlying83 hig hg1 r 0 0 c (by simp [Act.eval, Act.put]) A (n - 1) (c - 1) news (by simp [Act.eval, Act.put]) s1.out hsrc.out s2.out (by omega) s3.out ?_; rw [<- hW.out])
 go_wp2_with fail
 go_ret
 refine ⟨rfl, ⟨?_, .inr ⟨r, c, Lib.lay (Lib.lay cur 0 news) (n - 1) (List.replicate (n - (n - 1)) (.pointer none)), rfl, hB, blk_setCells _ _ HB1.out, by omega, hcm, ?_, ?_⟩⟩, fr_setCells _ _ HF1.out⟩
 ·rw [List.length_drop, HL.out, Nat.mul_one]
 ·rw [Lib.lay_size, Lib.lay_size, HS.out, Nat.mul_one]
 ·rw [HN.out, Nat.mul_one]
  apply List.ext_getElem?
  intro i
  rw [List.getElem?_take]
  split
  ·rename_i hi
   rw [Array.getElem?_toList, Lib.lay_get? _ _ _ _ (by rw [Lib.lay_size, HS.out, List.length_replicate]; omega), if_neg (by omega), Lib.lay_get? _ _ _ _ (by rw [HLN.out, HS.out]; omega), if_pos (by rw [HLN.out]; omega), Nat.sub_zero]
  ·rw [List.getElem?_eq_none (by rw [HLN.out]; omega)]
end Go.Proofs.YtkoakanpaehkmaaGreatDoor
