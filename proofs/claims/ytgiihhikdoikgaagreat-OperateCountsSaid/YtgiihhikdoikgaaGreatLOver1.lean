/-
  The act of Over, for an atom that fits and is no line end.
-/
import Derived.Test.YtgiihhikdoikgaaGreatLPut3
set_option linter.unusedSimpArgs false
set_option linter.unusedVariables false
set_option maxRecDepth 100000
set_option maxHeartbeats 32000000
namespace Go.Proofs.YtgiihhikdoikgaaGreat
open Go.RowKit
noncomputable def overL (x : Int) (C : List Int) (a : Int) (K : Nat) : List (Int × Int × List Int) := (List.range K).map fun i => (x + (mkb C i : Int), x + (mkb C (i + 1) : Int), [a])
theorem overL_succ (x : Int) (C : List Int) (a : Int) (K : Nat) : overL x C a (K + 1) = overL x C a K ++ [(x + (mkb C K : Int), x + (mkb C (K + 1) : Int), [a])] := by
 unfold overL
 rw [List.range_succ, List.map_append]
 rfl
def restC (ds : List (Int × Int)) (x : Int) : List Int := seg x (lineF ds (ofF ds x)).to_ (ds.map Prod.fst)
theorem over_len {x : Int} {C : List Int} {a : Int} {K : Nat} {es : List Ed} (h : es.map abE = overL x C a K) : es.length = K /\ putN es = K := by
 have h1 := congrArg List.length h
 unfold overL at h1
 rw [List.length_map, List.length_map, List.length_range] at h1
 refine ⟨h1, ?_⟩
 have h2 : ∀ e ∈ es, e.put.length = 1 := fun e he => by
  have h3 : abE e ∈ es.map abE := List.mem_map_of_mem he
  rw [h] at h3
  obtain ⟨i, _, hi⟩ := List.mem_map.1 h3
  unfold abE at hi
  injection hi with _ hi
  injection hi with _ hi
  rw [<- hi]
  rfl
 unfold putN
 rw [<- h1]
 clear h h1
 induction es with
 | nil => rfl
 | cons e r ih =>
  rw [List.map_cons, List.sum_cons, h2 e List.mem_cons_self, ih (fun x hx => h2 x (List.mem_cons_of_mem _ hx)), List.length_cons]
  omega
theorem PutV.one (w : World) (base : Nat) (hb : base <= w.heap.size) (x : Int) : PutV (w.alloc (.cells #[.int .i64 x] 3)) base (.slice (some ⟨w.heap.size, 0, none⟩) 1 1) 1 [x] := by
 obtain ⟨v, hv, hp, _⟩ := PutV.of_new (l := [x]) (w := w) (w' := w.alloc (.cells #[.int .i64 x] 3)) (e := .returned (.slice (some ⟨w.heap.size, 0, none⟩) 1 1)) ⟨_, rfl, own_lit w 3 [.int .i64 x] (by simp), balloc (Below.refl _ _)⟩ hb
 injection hv with hv
 rw [hv]
 exact hp
def OvR (x : Int) (C : List Int) (a : Int) (K : Nat) (w : World) (m : Nat) (q9 q70 : Value) (wr : World) : Prop :=
 ∃ (j : Nat) (es : List Ed), q70 = .int .i64 (j : Int) /\ j <= K /\ K - j <= m /\ Hid (EdsS wr w.heap.size q9 es) /\ Hid (es.map abE = overL x C a j) /\ Below w.heap.size w wr
def Over1Ok (B gd gb g b3 : Nat) (enc lim : Int) (n : Nat) (st : BkS) (o : OpS) (dc : Array Value) (x a : Int) (K : Nat) (w : World) (e : Ending) (w' : World) : Prop :=
 ∃ (es : List Ed) (j : Nat), K <= nC (restC (sizedA enc st.ats) x) /\ es.map abE = overL x (restC (sizedA enc st.ats) x) a K /\ refF enc lim (sizedA enc st.ats) es = 0 /\ e = .returned (.int .i64 (clampX (sizedA enc (edA es st.ats)) (x + K - 1) j)) /\ ClampOk (sizedA enc (edA es st.ats)) (x + K - 1) j /\ j <= nC (cont (sizedA enc (edA es st.ats)) (rowIx (sizedA enc (edA es st.ats)) (x + K - 1) false)) /\
  DeskIs w' B gd gb g enc lim (n + 131072) { st with ats := edA es st.ats, now := some { o with moves := o.moves ++ [es.map mvOf], changed := o.changed || es.any chg } } dc /\ DFr B (· = b3) w w'
def Over1Bad (B gd gb g b3 : Nat) (enc lim : Int) (n : Nat) (st : BkS) (dc : Array Value) (x a : Int) (K : Nat) (w : World) (e : Ending) (w' : World) : Prop :=
 ∃ c : Int, c ≠ 0 /\ ((c = 120 /\ nC (restC (sizedA enc st.ats) x) < K) \/ (K <= nC (restC (sizedA enc st.ats) x) /\ ∃ es : List Ed, es.map abE = overL x (restC (sizedA enc st.ats) x) a K /\ c = refF enc lim (sizedA enc st.ats) es)) /\ e = .panicked [errPanic c] /\ DeskIs w' B gd gb g enc lim n st dc /\ DFr B (· = b3) w w'
theorem over1_any (B gd gb g n b0 b1 b2 b3 : Nat) (enc lim x a cnt : Int) (K : Nat) (st : BkS) (o : OpS) (dc : Array Value) (w : World) (h : DeskIs w B gd gb g enc lim n st dc) (hn : st.now = some o) (hom : o.moves.length < 1048576)
  (k0 : Blk w b0 23 #[.pointer (some ⟨gd, 0, none⟩)]) (k1 : Blk w b1 3 #[.int .i64 a]) (k2 : Blk w b2 3 #[.int .i64 x]) (k3 : Blk w b3 3 #[.int .i64 cnt]) (h31 : b1 ≠ b3) (h32 : b2 ≠ b3)
  (ha : 0 < szA enc a) (ha10 : a ≠ 10) (hK : min cnt 9999 = (K : Int)) (hK1 : 1 <= K) (hx : 0 <= x /\ x <= (st.ats.length : Int)) (hnn : n + 131072 <= 1073741824) :
  Calls Tryz.prog 45 #[.pointer (some ⟨b0, 0, none⟩), .pointer (some ⟨b1, 0, none⟩), .pointer (some ⟨b2, 0, none⟩), .pointer (some ⟨b3, 0, none⟩)] w fun e w' => Over1Ok B gd gb g b3 enc lim n st o dc x a K w e w' \/ Over1Bad B gd gb g b3 enc lim n st dc x a K w e w' := by
 have hp := h.pos
 have hlen := h.len
 have hE4 := h.enc4
 have hle := ofF_le (sizedA enc st.ats) x
 have hbd := lineF_bd hp hle
 rw [sizedA_len] at hbd
 have HLN := Lib.hid (fun (w' : World) (hb : Below w.heap.size w w') => line_desk (h.below hb) (ofF (sizedA enc st.ats) x) hle)
 have HFO := Lib.hid (fun (w' : World) (hb : Below w.heap.size w w') => of_line Any g enc (sizedA enc st.ats) x w' (h.below hb).at_)
 have hatL := fun (w' : World) (hb : Below w.heap.size w w') => tatoms_any Any g enc (sizedA enc st.ats) x (lineF (sizedA enc st.ats) (ofF (sizedA enc st.ats) x)).to_ w' (h.below hb).at_ (by omega) (by omega)
 have HT := Lib.hid (fun (w' : World) (hb : Below w.heap.size w w') => text_desk (h.below hb))
 have HEN := Lib.hid (fun (w' : World) (hb : Below w.heap.size w w') => tenc_any Any g enc (sizedA enc st.ats) w' (h.below hb).at_)
 have hfi := fun (w' : World) => cfits_any enc a w' hE4
 rw [decide_eq_true ha] at hfi
 have HFI := Lib.hid hfi
 obtain ⟨C, hC⟩ : ∃ C, restC (sizedA enc st.ats) x = C := ⟨_, rfl⟩
 have hCl : C.length <= 65536 := by
  rw [<- hC]
  unfold restC seg
  rw [List.length_take, List.length_drop, List.length_map, sizedA_len]
  omega
 rw [show seg x (lineF (sizedA enc st.ats) (ofF (sizedA enc st.ats) x)).to_ ((sizedA enc st.ats).map Prod.fst) = C from hC] at hatL
 unfold Over1Ok Over1Bad
 rw [hC]
 obtain ⟨⟨x0, x1, x2, x3⟩, hL⟩ : ∃ L, lineF (sizedA enc st.ats) (ofF (sizedA enc st.ats) x) = L := ⟨_, rfl⟩
 obtain ⟨i, hi⟩ : ∃ i, ofF (sizedA enc st.ats) x = i := ⟨_, rfl⟩
 rw [hL] at hatL hbd
 rw [hi] at HLN HFO hL
 rw [hL] at HLN
 dsimp only at hatL hbd
 simp only [Ln.cells] at HLN
 have HATL := Lib.hid hatL
 have HBR := Lib.hid (fun (w' : World) (A : Option Addr) (c : Nat) (hI : IntsI w' A C.length C) => breaks_any Any A C.length c C w' hI.any (by omega))
 have HH := Lib.hid h
 have HNW := Lib.hid hn
 have hF : ∀ w', Below w.heap.size w w' -> w'.cell? ⟨b0, 0, none⟩ = some (.pointer (some ⟨gd, 0, none⟩)) /\ w'.cell? ⟨b1, 0, none⟩ = some (.int .i64 a) /\ w'.cell? ⟨b2, 0, none⟩ = some (.int .i64 x) /\ w'.cell? ⟨b3, 0, none⟩ = some (.int .i64 cnt) /\ w'.frozen? ⟨b3, 0, none⟩ = false := fun w' hb =>
  ⟨(k0.below hb).cell 0, (k1.below hb).cell 0, (k2.below hb).cell 0, (k3.below hb).cell 0, (k3.below hb).frozen 0⟩
 have HF := Lib.hid hF
 have HB := Lib.hid (And.intro k0 (And.intro k1 (And.intro k2 k3)))
 have HK := Lib.hid hK
 clear hF h hn k0 k1 k2 k3 hC hL hi hp hatL hle hE4 hfi hK
 go_enter Tryz.func45, Tryz.ntmps45
 go_upto_region 1 with fail
 refine wp_region_steady (fun w' => Below w.heap.size w w') (by kernel_rfl) (by kernel_rfl) (Below.drew (Below.refl _ _)) ?_
 repeat ((first
  | (refine wpSt_read (v := ?_) (by rfl) (fun w6 hSw => ?_) ?_; rotate_left; (· (obtain ⟨y0, y1, y2, y3, y4⟩ := HF.out _ hSw; go_simp; try with_reducible rfl)))
  | refine wpSt_not (by rfl) ?_
  | (refine wpSt_call (f := ?_) (args := ?_) (v := .pointer (some ⟨g, 0, none⟩)) (by rfl) (fun w6 hSw => ?_) (fun w6 hSw => ?_) ?_; rotate_left 2; (· (obtain ⟨y0, y1, y2, y3, y4⟩ := HF.out _ hSw; go_simp; first | done | (constructor <;> with_reducible rfl) | with_reducible rfl)); (· ((with_reducible refine (HT.out _ hSw).mono ?_); rintro e w5 ⟨rfl, rfl⟩; exact ⟨rfl, hSw⟩)))
  | (refine wpSt_call (f := ?_) (args := ?_) (v := .int .i64 enc) (by rfl) (fun w6 hSw => ?_) (fun w6 hSw => ?_) ?_; rotate_left 2; (· (obtain ⟨y0, y1, y2, y3, y4⟩ := HF.out _ hSw; go_simp; first | done | (constructor <;> with_reducible rfl) | with_reducible rfl)); (· ((with_reducible refine (HEN.out _ hSw).mono ?_); rintro e w5 ⟨rfl, rfl⟩; exact ⟨rfl, hSw⟩)))
  | (refine wpSt_call (f := ?_) (args := ?_) (v := .bool true) (by rfl) (fun w6 hSw => ?_) (fun w6 hSw => ?_) ?_; rotate_left 2; (· (obtain ⟨y0, y1, y2, y3, y4⟩ := HF.out _ hSw; go_simp; first | done | (constructor <;> with_reducible rfl) | with_reducible rfl)); (· ((with_reducible refine (HFI.out _).mono ?_); rintro e w5 ⟨rfl, hb5⟩; exact ⟨rfl, bseq hSw hb5⟩)))); (try simp only [Act.put, pA, pB, pC]))
 refine wpSt_nil ?_
 intro w1 hw1
 go_upto_region 3 with fail
 refine wp_region_lin3 (fun w' => Below w1.heap.size w1 w') (fun w' => Below w1.heap.size w1 w') (fun k => k == 6 || k == 7) (fun k => k == 7) (fun _ => false) (fun k => k == 2 || k == 4 || k == 5) (fun k => if k == 2 then .pointer (some ⟨g, 0, none⟩) else if k == 4 then .int .i64 (i : Int) else .agg #[.int .i64 x0, .int .i64 x1, .int .i64 x2, .int .i64 x3]) (by kernel_rfl) (by kernel_rfl) (by kernel_rfl) (Below.drew (Below.refl _ _)) (fun _ h => h) (fun _ _ h hb => bseq h hb) ?_
 repeat ((first
  | (refine wpL3_read (v := ?_) (by rfl) (by rfl) (by rfl) (fun w6 hSw => ?_) ?_; rotate_left; (· (obtain ⟨y0, y1, y2, y3, y4⟩ := HF.out _ (bseq hw1 hSw); go_simp; try with_reducible rfl)))
  | (refine wpL3_free (v := ?_) (by rfl) (by rfl) (fun w6 => ?_) ?_; rotate_left; (· (go_simp; try with_reducible rfl)))
  | refine wpL3_not (by rfl) (by rfl) ?_); (try simp only [Act.put, pA, pB, pC]))
 refine wpL3_call (f := ?_) (args := ?_) (v := .pointer (some ⟨g, 0, none⟩)) (by rfl) (by rfl) (by rfl) (fun w6 hSw => ?_) (fun w6 hSw => ?_) ?_
 rotate_left 2
 ·(skip; go_simp; first | done | (constructor <;> with_reducible rfl) | with_reducible rfl)
 ·(refine (HT.out _ (bseq hw1 hSw)).mono ?_; rintro e w' ⟨rfl, rfl⟩; exact ⟨rfl, Below.refl _ _⟩)
 (try simp only [Act.put, pA, pB, pC])
 repeat ((first
  | (refine wpL3_read (v := ?_) (by rfl) (by rfl) (by rfl) (fun w6 hSw => ?_) ?_; rotate_left; (· (obtain ⟨y0, y1, y2, y3, y4⟩ := HF.out _ (bseq hw1 hSw); go_simp; try with_reducible rfl)))
  | (refine wpL3_free (v := ?_) (by rfl) (by rfl) (fun w6 => ?_) ?_; rotate_left; (· (go_simp; try with_reducible rfl)))
  | refine wpL3_not (by rfl) (by rfl) ?_); (try simp only [Act.put, pA, pB, pC]))
 refine wpL3_call (f := ?_) (args := ?_) (v := .int .i64 (i : Int)) (by rfl) (by rfl) (by rfl) (fun w6 hSw => ?_) (fun w6 hSw => ?_) ?_
 rotate_left 2
 ·(skip; go_simp; first | done | (constructor <;> with_reducible rfl) | with_reducible rfl)
 ·(refine (HFO.out _ (bseq hw1 hSw)).mono ?_; rintro e w' ⟨rfl, hb⟩; exact ⟨rfl, hb⟩)
 (try simp only [Act.put, pA, pB, pC])
 refine wpL3_call (f := ?_) (args := ?_) (v := .agg #[.int .i64 x0, .int .i64 x1, .int .i64 x2, .int .i64 x3]) (by rfl) (by rfl) (by rfl) (fun w6 hSw => ?_) (fun w6 hSw => ?_) ?_
 rotate_left 2
 ·(skip; go_simp; first | done | (constructor <;> with_reducible rfl) | with_reducible rfl)
 ·(refine (HLN.out _ (bseq hw1 hSw)).mono ?_; rintro e w' ⟨rfl, hb⟩; exact ⟨rfl, hb⟩)
 (try simp only [Act.put, pA, pB, pC])
 refine wpL3_heavy (NewB w1 59 #[.int .i64 0, .int .i64 0, .int .i64 0, .int .i64 0]) (by rfl) (by rfl) (fun w6 hSw => ?_) (.inr ⟨fun v6 w6 hT6 => ?_, fun v6 w6 w7 hT6 hb7 => ?_⟩) (fun v6 hv6 => ?_)
 ·(go_simp; exact NewB.new _ _ hSw)
 ·(exact hT6.bel)
 ·(exact hT6.keep hb7)
 obtain ⟨wz, r, rfl, -⟩ := hv6
 (try simp only [Act.put, pA, pB, pC])
 refine wpL3_heavy (fun _ w' => NewB w1 59 #[.int .i64 x0, .int .i64 x1, .int .i64 x2, .int .i64 x3] (.pointer (some ⟨r, 0, none⟩)) w') (by rfl) (by rfl) (fun w6 hSw => ?_) (.inl (by rfl)) (fun v6 hv6 => ?_)
 ·(obtain ⟨hge, hb, hbl⟩ := hSw.at_; have e0 := hb.cell 0; have e1 := hb.cell 1; have e2 := hb.cell 2; have e3 := hb.cell 3; have f0 := hb.frozen 0; have f1 := hb.frozen 1; have f2 := hb.frozen 2; have f3 := hb.frozen 3; simp at e0 e1 e2 e3; go_simp; exact ⟨r, rfl, hge, ((((hb.set_ 0 _).set_ 1 _).set_ 2 _).set_ 3 _).eq_ (by simp), (((hbl.setCell (p := ⟨r, 0, none⟩) hge _).setCell (p := ⟨r, 1, none⟩) hge _).setCell (p := ⟨r, 2, none⟩) hge _).setCell (p := ⟨r, 3, none⟩) hge _⟩)
 skip
 (try simp only [Act.put, pA, pB, pC])
 repeat ((first
  | (refine wpL3_read (v := ?_) (by rfl) (by rfl) (by rfl) (fun w6 hSw => ?_) ?_; rotate_left; (· (obtain ⟨y0, y1, y2, y3, y4⟩ := HF.out _ (bseq hw1 hSw); go_simp; try with_reducible rfl)))
  | (refine wpL3_free (v := ?_) (by rfl) (by rfl) (fun w6 => ?_) ?_; rotate_left; (· (go_simp; try with_reducible rfl)))
  | refine wpL3_not (by rfl) (by rfl) ?_); (try simp only [Act.put, pA, pB, pC]))
 refine wpL3_nil ?_
 rintro w2 hN
 obtain ⟨hge, hbr, hb2⟩ := hN.at_
 have hw2 := bseq hw1 hb2
 have hS : ∀ w', Below w2.heap.size w2 w' -> w'.cell? ⟨b0, 0, none⟩ = some (.pointer (some ⟨gd, 0, none⟩)) /\ w'.cell? ⟨b2, 0, none⟩ = some (.int .i64 x) /\ w'.cell? ⟨r, 1, none⟩ = some (.int .i64 x1) := fun w' hb => by
  obtain ⟨u0, -, u2, -, -⟩ := HF.out w' (bseq hw2 hb)
  exact ⟨u0, u2, (hbr.below hb).cell 1⟩
 have HS := Lib.hid hS
 clear hN hbr hv6 hge hS
 go_upto_region 4 with fail
 refine wp_region_lin (fun w' => Below w2.heap.size w2 w') (fun w' => Below w2.heap.size w2 w') (fun k => k == 1 || k == 5 || k == 6) (fun k => k == 6) (fun k => k == 7) (by kernel_rfl) (by kernel_rfl) (Below.drew (Below.refl _ _)) (fun _ h => h) ?_
 repeat ((first
  | (refine wpL_read (v := ?_) (by rfl) (by rfl) (fun w6 hSw => ?_) ?_; rotate_left; (· (obtain ⟨y0, y2, z1⟩ := HS.out _ hSw; go_simp; try with_reducible rfl)))
  | (refine wpL_free (v := ?_) (by rfl) (fun w6 => ?_) ?_; rotate_left; (· (go_simp; try with_reducible rfl)))
  | refine wpL_not (by rfl) ?_); (try simp only [Act.put, pA, pB, pC]))
 refine wpL_call (f := ?_) (args := ?_) (fun v w' => v = .pointer (some ⟨g, 0, none⟩) /\ Below w2.heap.size w2 w') (by rfl) (by rfl) (fun w6 hSw => ?_) (fun w6 hSw => ?_) (.inr (fun v6 w6 hT6 => ?_)) (fun v6 hv6 => ?_)
 rotate_left 2
 ·(skip; go_simp; first | done | (constructor <;> with_reducible rfl) | with_reducible rfl)
 ·(refine (HT.out _ (bseq hw2 hSw)).mono ?_; rintro e w' ⟨rfl, rfl⟩; exact ⟨_, rfl, rfl, hSw⟩)
 ·(exact hT6.2)
 obtain ⟨wz, rfl, -⟩ := hv6
 (try simp only [Act.put, pA, pB, pC])
 repeat ((first
  | (refine wpL_read (v := ?_) (by rfl) (by rfl) (fun w6 hSw => ?_) ?_; rotate_left; (· (obtain ⟨y0, y2, z1⟩ := HS.out _ hSw; go_simp; try with_reducible rfl)))
  | (refine wpL_free (v := ?_) (by rfl) (fun w6 => ?_) ?_; rotate_left; (· (go_simp; try with_reducible rfl)))
  | refine wpL_not (by rfl) ?_); (try simp only [Act.put, pA, pB, pC]))
 refine wpL_call (f := ?_) (args := ?_) (fun v w' => IntsV w' v C /\ Below w2.heap.size w2 w') (by rfl) (by rfl) (fun w6 hSw => ?_) (fun w6 hSw => ?_) (.inr (fun v6 w6 hT6 => ?_)) (fun v6 hv6 => ?_)
 rotate_left 2
 ·(skip; go_simp; first | done | (constructor <;> with_reducible rfl) | with_reducible rfl)
 ·(refine (HATL.out _ (bseq hw2 hSw.2)).mono ?_; rintro e w' ⟨v, rfl, hown, hb'⟩; obtain ⟨A9, k9, rfl, hk9⟩ := own_slice hown; exact ⟨_, rfl, ⟨A9, k9, rfl, hk9, IntsI.of_own hown⟩, bseq hSw.2 hb'⟩)
 ·(exact hT6.2)
 obtain ⟨wz, ⟨A9, c9, rfl, hc9, -⟩, -⟩ := hv6
 (try simp only [Act.put, pA, pB, pC])
 repeat ((first
  | (refine wpL_read (v := ?_) (by rfl) (by rfl) (fun w6 hSw => ?_) ?_; rotate_left; (· (obtain ⟨y0, y2, z1⟩ := HS.out _ hSw; go_simp; try with_reducible rfl)))
  | (refine wpL_free (v := ?_) (by rfl) (fun w6 => ?_) ?_; rotate_left; (· (go_simp; try with_reducible rfl)))
  | refine wpL_not (by rfl) ?_); (try simp only [Act.put, pA, pB, pC]))
 refine wpL_call (f := ?_) (args := ?_) (fun v w' => (∃ A c, v = .slice A (allB C).length c /\ w'.ownsRow w2.heap.size 3 1 v (allB C).length ((allB C).map (Value.int .i64))) /\ Below w2.heap.size w2 w') (by rfl) (by rfl) (fun w6 hSw => ?_) (fun w6 hSw => ?_) (.inl (by rfl)) (fun v6 hv6 => ?_)
 rotate_left 2
 ·(skip; go_simp; first | done | (constructor <;> with_reducible rfl) | with_reducible rfl)
 ·(refine (HBR.out _ A9 c9 hSw.1.at_.2.2).mono ?_; rintro e w' ⟨v, rfl, hown, hb'⟩; obtain ⟨A8, k8, rfl, hk8⟩ := own_slice hown; exact ⟨_, rfl, ⟨A8, k8, rfl, own_base hown hSw.2.size⟩, bseq hSw.2 hb'⟩)
 obtain ⟨wz, ⟨A8, c8, rfl, -⟩, -⟩ := hv6
 (try simp only [Act.put, pA, pB, pC])
 repeat ((first
  | (refine wpL_read (v := ?_) (by rfl) (by rfl) (fun w6 hSw => ?_) ?_; rotate_left; (· (obtain ⟨y0, y2, z1⟩ := HS.out _ hSw; go_simp; try with_reducible rfl)))
  | (refine wpL_free (v := ?_) (by rfl) (fun w6 => ?_) ?_; rotate_left; (· (go_simp; try with_reducible rfl)))
  | refine wpL_not (by rfl) ?_); (try simp only [Act.put, pA, pB, pC]))
 refine wpL_nil ?_
 rintro w3 ⟨⟨_, _, _, ho3⟩, hb3⟩
 have hw3 := bseq hw2 hb3
 have hK3 := HB.out.2.2.2.below hw3
 obtain ⟨y0, y1, y2, y3, y4⟩ := HF.out w3 hw3
 have HO3 := Lib.hid ho3
 clear ho3 HS HATL HBR
 go_upto_region 5 with fail
 go_cut [] (fun wx => Blk wx b3 3 #[.int .i64 (K : Int)] /\ Fr (· = b3) w3 wx)
 case first =>
  have HK3 := Lib.hid hK3
  clear hK3
  rcases ilt_or_ge 9999 cnt with h9 | h9
  ·have p1 : (9999 < cnt) = True := by simp; omega
   have eK : (K : Int) = 9999 := by have := HK.out; omega
   have HEK := Lib.hid eK
   clear eK
   go_wp2_with fail
   go_meet
   exact ⟨(HK3.out.set_ 0 _).eq_ (by rw [HEK.out]; simp), (Fr.refl _ _).set1 0 _⟩
  ·have p1 : (9999 < cnt) = False := by simp; omega
   have eK : (K : Int) = cnt := by have := HK.out; omega
   have HEK := Lib.hid eK
   clear eK
   go_wp2_with fail
   go_meet
   exact ⟨(HK3.out.set_ 0 _).eq_ (by rw [HEK.out]; simp), (Fr.refl _ _).set1 0 _⟩
 case rest =>
  obtain ⟨hBc, hFc⟩ := hcut
  have hK9 : K <= 9999 := by have := HK.out; omega
  have h3lt := HB.out.2.2.2.lt
  have hd := (HH.out.below hw3).alien hFc (fun b _ hs => ⟨hs ▸ Blk.ne_ hK3 (HH.out.below hw3).desk (by decide), 3, _, hs ▸ hK3, by decide⟩)
  have hs2 := hw2.size
  have ho4 := own_fr HO3.out hFc (fun b hb hs => by
   have := own_ge HO3.out hb
   omega)
  have k04 : Blk wc b0 23 #[.pointer (some ⟨gd, 0, none⟩)] := (HB.out.1.below hw3).fr hFc (fun e => Blk.ne_ (HB.out.1.below hw3) hK3 (by decide) e)
  have k14 : Blk wc b1 3 #[.int .i64 a] := (HB.out.2.1.below hw3).fr hFc h31
  have k24 : Blk wc b2 3 #[.int .i64 x] := (HB.out.2.2.1.below hw3).fr hFc h32
  have hf0 : DFr B (· = b3) w wc := (DFr.of_below hw3).trans (DFr.of_x hFc)
  obtain ⟨w4, hw4⟩ : ∃ x, wc = x := ⟨_, rfl⟩
  rw [hw4] at hBc hd ho4 k04 k14 k24 hf0 ⊢
  have hI4 := (IntsI.of_own ho4).any
  have hG : ∀ w', Below w4.heap.size w4 w' -> w'.cell? ⟨b0, 0, none⟩ = some (.pointer (some ⟨gd, 0, none⟩)) /\ w'.cell? ⟨b1, 0, none⟩ = some (.int .i64 a) /\ w'.cell? ⟨b2, 0, none⟩ = some (.int .i64 x) /\ w'.cell? ⟨b3, 0, none⟩ = some (.int .i64 (K : Int)) := fun w' hb => ⟨(k04.below hb).cell 0, (k14.below hb).cell 0, (k24.below hb).cell 0, (hBc.below hb).cell 0⟩
  have HG := Lib.hid hG
  have HKB := Lib.hid (And.intro k04 (And.intro k24 hBc))
  have HD := Lib.hid hd
  have HI4 := Lib.hid hI4
  have HF0 := Lib.hid hf0
  have hal := allB_len C
  obtain ⟨N1, hN1⟩ : ∃ N1, (allB C).length = N1 := ⟨_, rfl⟩
  rw [hN1] at hal HI4 ⊢
  have hcn : nC C <= C.length := nC_le C
  have wn : IntKind.i64.wrap ((N1 : Int) - 1) = (nC C : Int) := by rw [IntWalk.i64_in _ (by omega)]; omega
  obtain ⟨M, hM⟩ : ∃ M, nC C = M := ⟨_, rfl⟩
  rw [hM] at wn hcn hal
  have hal1 : N1 <= M + 1 := Nat.le_of_eq hal
  have hal2 : M + 1 <= N1 := Nat.le_of_eq hal.symm
  clear hal
  have q10 : (a == 10) = false := by rw [beq_eq_false_iff_ne]; exact ha10
  have HMN := Lib.hid hM
  have HN1 := Lib.hid hN1
  clear hw4 hBc hFc hd ho4 k04 k14 k24 hf0 hI4 hM hN1 y0 y1 y2 y3 y4 HO3 hK3
  obtain ⟨y0, y1, y2, y3⟩ := hG w4 (Below.refl _ _)
  clear hG
  by_cases hgt : M < K
  ·have p1 : ((M : Int) < (K : Int)) = True := by simp; omega
   go_wp2_with fail
   exact ⟨rfl, .inr ⟨120, by decide, .inl ⟨rfl, by rw [HMN.out]; exact hgt⟩, rfl, HD.out, HF0.out⟩⟩
  ·have p1 : ((M : Int) < (K : Int)) = False := by simp; omega
   obtain ⟨ie, ze, hie, he0, he1, he2, he3⟩ := edit_row
   have HIE := Lib.hid hie
   clear hie wn
   go_upto_region 14 with fail
   go_wp2_with fail
   clear y0 y1 y2 y3
   go_loopg [9, 70] K (fun m q9 q70 wr => OvR x C a K w4 m q9 q70 wr)
   case atStart => exact ⟨0, [], rfl, by omega, by omega, Lib.hid (EdsS.nil _ _), Lib.hid rfl, Below.refl _ _⟩
   case round =>
    obtain ⟨j, es, rfl, hjK, hm, hE, hes, hb⟩ := hrel
    have hel1 : es.length <= j := Nat.le_of_eq (over_len hes.out).1
    have hel2 : j <= es.length := Nat.le_of_eq (over_len hes.out).1.symm
    have hs0 := hb.size
    by_cases hgo : j < K
    ·have q1 : ((j : Int) < (K : Int)) = True := by simp; omega
     obtain ⟨ad, rfl, _, cx0⟩ := Ints.at_ (Reads.below HI4.out hb) (show j < N1 by omega)
     have hcell : ∀ w', Below w4.heap.size w4 w' -> ∀ i, i <= M -> w'.cell? (ad.add i) = some (.int .i64 (mkb C i : Int)) := fun w' hb' i hi => by
      obtain ⟨ad2, e2, _, c2⟩ := Ints.at_ (Reads.below HI4.out hb') (show i < N1 by omega)
      injection e2 with e2
      subst e2
      rw [allB_at (by rw [HMN.out]; exact hi)] at c2
      exact c2
     clear cx0
     have hm0 := mk_le (C := C) (k := j) (by rw [HMN.out]; omega)
     have hm1 := mk_le (C := C) (k := j + 1) (by rw [HMN.out]; omega)
     have hsc := overL_succ x C a j
     obtain ⟨m0, hm00⟩ : ∃ m0, mkb C j = m0 := ⟨_, rfl⟩
     obtain ⟨m1, hm11⟩ : ∃ m1, mkb C (j + 1) = m1 := ⟨_, rfl⟩
     obtain ⟨J1, hJ1⟩ : ∃ J1, j + 1 = J1 := ⟨_, rfl⟩
     have hc0 : ∀ w', Below w4.heap.size w4 w' -> w'.cell? (ad.add j) = some (.int .i64 (m0 : Int)) := fun w' hb' => by rw [<- hm00]; exact hcell w' hb' j (by omega)
     have hc1 : ∀ w', Below w4.heap.size w4 w' -> w'.cell? (ad.add J1) = some (.int .i64 (m1 : Int)) := fun w' hb' => by rw [<- hm11, <- hJ1]; exact hcell w' hb' (j + 1) (by omega)
     rw [hm00] at hm0 hsc
     rw [hm11] at hm1 hsc
     rw [hJ1] at hsc
     have wj : IntKind.i64.wrap ((j : Int) + 1) = (J1 : Int) := by rw [IntWalk.i64_in _ (by omega)]; omega
     obtain ⟨z0, hz0⟩ : ∃ z0, x + (m0 : Int) = z0 := ⟨_, rfl⟩
     obtain ⟨z1, hz1⟩ : ∃ z1, x + (m1 : Int) = z1 := ⟨_, rfl⟩
     have wz0 : IntKind.i64.wrap (x + (m0 : Int)) = z0 := by rw [IntWalk.i64_in _ (by omega)]; exact hz0
     have wz1 : IntKind.i64.wrap (x + (m1 : Int)) = z1 := by rw [IntWalk.i64_in _ (by omega)]; exact hz1
     rw [hz0, hz1] at hsc
     have HSC := Lib.hid hsc
     have HJ1 := Lib.hid hJ1
     have q4 : ((j : Int) < (N1 : Int)) = True := by simp; omega
     have q5 : ((J1 : Int) < (N1 : Int)) = True := by simp; omega
     have q6 : (j < N1) = True := by simp; omega
     have q7 : (J1 < N1) = True := by simp; omega
     have hY : ∀ w', Below wr.heap.size wr w' -> w'.cell? ⟨b1, 0, none⟩ = some (.int .i64 a) /\ w'.cell? ⟨b2, 0, none⟩ = some (.int .i64 x) /\ w'.cell? (ad.add j) = some (.int .i64 (m0 : Int)) /\ w'.cell? (ad.add J1) = some (.int .i64 (m1 : Int)) := fun w' hb' =>
      ⟨(HG.out _ (bseq hb hb')).2.1, (HG.out _ (bseq hb hb')).2.2.1, hc0 _ (bseq hb hb'), hc1 _ (bseq hb hb')⟩
     have HY := Lib.hid hY
     obtain ⟨A6, c6, rfl, hc6⟩ := own_slice hE.out.row
     clear hsc hm00 hm11 hJ1 hz0 hz1 hc0 hc1 hcell hY
     go_upto_region 17 with fail
     refine wp_region_lin (fun w' => Below wr.heap.size wr w') (fun w' => Below wr.heap.size wr w') (fun k => k == 15 || k == 17 || k == 18) (fun k => k == 18) (fun k => k == 19) (by kernel_rfl) (by kernel_rfl) (Below.drew (Below.refl _ _)) (fun _ h => h) ?_
     repeat ((first
      | (refine wpL_read (v := ?_) (by rfl) (by rfl) (fun w6 hSw => ?_) ?_; rotate_left; (· (obtain ⟨y1, y2, c0, c1⟩ := HY.out _ hSw; go_simp; try with_reducible rfl)))
      | (refine wpL_free (v := ?_) (by rfl) (fun w6 => ?_) ?_; rotate_left; (· (go_simp; try with_reducible rfl)))
      | refine wpL_not (by rfl) ?_); (try simp only [Act.put, pA, pB, pC]))
     refine wpL_heavy (fun u w' => PutV w' w4.heap.size u 1 [a] /\ Below wr.heap.size wr w') (by rfl) (by rfl) (fun w6 hSw => ?_) (.inr (fun v6 w6 hT6 => ?_)) (fun v6 hv6 => ?_)
     ·(obtain ⟨y1, y2, c0, c1⟩ := HY.out _ hSw; go_simp; exact ⟨PutV.one _ _ (bseq hb hSw).size _, balloc hSw⟩)
     ·(exact hT6.2)
     obtain ⟨wz, hz8, -⟩ := hv6; obtain ⟨A9, c9, rfl⟩ := hz8.form
     (try simp only [Act.put, pA, pB, pC])
     repeat ((first
      | (refine wpL_read (v := ?_) (by rfl) (by rfl) (fun w6 hSw => ?_) ?_; rotate_left; (· (obtain ⟨y1, y2, c0, c1⟩ := HY.out _ hSw; go_simp; try with_reducible rfl)))
      | (refine wpL_free (v := ?_) (by rfl) (fun w6 => ?_) ?_; rotate_left; (· (go_simp; try with_reducible rfl)))
      | refine wpL_not (by rfl) ?_); (try simp only [Act.put, pA, pB, pC]))
     refine wpL_heavy (fun u w' => ∃ wq, (PutV wq w4.heap.size (.slice A9 1 c9) 1 [a] /\ Below wr.heap.size wr wq) /\ u = .slice (some ⟨wq.heap.size, 0, none⟩) 1 1 /\ w' = wq.alloc (.cells #[.int .i64 z0, .int .i64 z1, .slice A9 1 c9] 89)) (by rfl) (by rfl) (fun w6 hSw => ?_) (.inr (fun v6 w6 hT6 => ?_)) (fun v6 hv6 => ?_)
     ·(go_simp; exact ⟨w6, hSw, rfl, rfl⟩)
     ·(obtain ⟨wq, hq, -, rfl⟩ := hT6; exact balloc hq.2)
     skip
     (try simp only [Act.put, pA, pB, pC])
     refine wpL_heavy (fun u w' => EdsS w' w4.heap.size u (es ++ [⟨z0, z1, A9, 1, c9, [a]⟩]) /\ Below w4.heap.size w4 w') (by rfl) (by rfl) (fun w6 hSw => ?_) (.inl (by rfl)) (fun v6 hv6 => ?_)
     ·(obtain ⟨wq, hq, rfl, rfl⟩ := hSw; exact hrun_append_own 92 rfl w4.heap.size 89 ie ze 3 40 Tryz.underlying92 HIE.out he0 he1 he2 he3 (by decide) (.slice A6 es.length c6) es.length _ rfl ((own_bel hE.out.row hq.2).alloc _) ⟨wq.heap.size, 0, none⟩ 1 1 [.int .i64 z0, .int .i64 z1, .slice A9 1 c9] rfl rfl (cells_new _ _ _) (edit_one _ _ _ _ _) (by unfold maxLen; omega) (by omega) (by have := (bseq hb hq.2).size; simp; omega) (fun v' w' ho' hg' _ hat' => ⟨hE.out.snoc (balloc hq.2) ((PutV.at_ hq.1).2.bel (balloc (Below.refl _ _))) hg' ho', below_grown2 (balloc (bseq hb hq.2)) hg' (fun k hk => own_ge hE.out.row hk)⟩))
     skip
     (try simp only [Act.put, pA, pB, pC])
     repeat ((first
      | (refine wpL_read (v := ?_) (by rfl) (by rfl) (fun w6 hSw => ?_) ?_; rotate_left; (· (obtain ⟨y1, y2, c0, c1⟩ := HY.out _ hSw; go_simp; try with_reducible rfl)))
      | (refine wpL_free (v := ?_) (by rfl) (fun w6 => ?_) ?_; rotate_left; (· (go_simp; try with_reducible rfl)))
      | refine wpL_not (by rfl) ?_); (try simp only [Act.put, pA, pB, pC]))
     refine wpL_nil ?_
     rintro w8 ⟨hE8, hb8⟩
     have HE8 := Lib.hid hE8
     clear hE8
     go_wp2_with fail
     go_roundg (K - J1)
     case measure =>
      have := HJ1.out
      omega
     case rel => exact ⟨J1, _, rfl, by have := HJ1.out; omega, Nat.le_refl _, Lib.hid HE8.out, Lib.hid (by rw [List.map_append, hes.out, HSC.out]; rfl), hb8⟩
    ·have q1 : ((j : Int) < (K : Int)) = False := by simp; omega
     have hjK2 : j = K := by omega
     have hes' := hes.out
     rw [hjK2] at hes'
     have hpn := (over_len hes').2
     obtain ⟨A6, c6, rfl, hc6⟩ := own_slice hE.out.row
     have hdc := dchange_any (c := c6) (HD.out.below hb) HNW.out (hE.out.eds rfl) (fun b hb _ => by
      rcases hb.2 with ⟨cs, hb⟩ | ⟨cs, hb⟩
      ·exact ⟨_, cs, hb, by decide⟩
      ·exact ⟨_, cs, hb, by decide⟩) (by omega) hnn hom
     have HDC := Lib.hid hdc
     have HES := Lib.hid hes'
     obtain ⟨y0, y1, y2, y3⟩ := HG.out _ hb
     clear hdc hes' hes hE hpn hjK2
     go_wp2_with fail
     refine (HDC.out).mono ?_
     intro e w5 hP
     unfold DChgPost at hP
     rcases hP with ⟨h0, rfl, hd5, hf5⟩ | ⟨h0, rfl, hb5⟩
     ·have hf0 : DFr B (· = b3) w w5 := HF0.out.trans ((DFr.of_below hb).trans (DFr.of_bk hf5))
      have hG5 : w5.cell? ⟨b0, 0, none⟩ = some (.pointer (some ⟨gd, 0, none⟩)) /\ w5.cell? ⟨b2, 0, none⟩ = some (.int .i64 x) /\ w5.cell? ⟨b3, 0, none⟩ = some (.int .i64 (K : Int)) := by
       obtain ⟨k0, k2, k3⟩ := HKB.out
       exact ⟨(hf5.blk (k0.below hb) (by decide)).cell 0, (hf5.blk (k2.below hb) (by decide)).cell 0, (hf5.blk (k3.below hb) (by decide)).cell 0⟩
      obtain ⟨y0, y2, y3⟩ := hG5
      have w1 : IntKind.i64.wrap (x + (K : Int)) = x + (K : Int) := IntWalk.i64_in _ (by omega)
      have w2' : IntKind.i64.wrap (x + (K : Int) - 1) = x + (K : Int) - 1 := IntWalk.i64_in _ (by omega)
      have HCL2 := Lib.hid (clamp_desk hd5 (x + (K : Int) - 1))
      have HD5 := Lib.hid (And.intro h0 (And.intro hd5 hf0))
      clear h0 hd5 hf0 hf5
      go_wp2_with fail
      refine (HCL2.out).mono ?_
      rintro e w6 ⟨jj, rfl, hj1, hj2, hb6⟩
      have HJ := Lib.hid (And.intro hj1 (And.intro hj2 hb6))
      clear hj1 hj2 hb6
      go_wp2_with fail
      go_ret
      exact .inl ⟨es, jj, by rw [HMN.out]; omega, HES.out, HD5.out.1, rfl, HJ.out.1, HJ.out.2.1, HD5.out.2.1.below HJ.out.2.2, HD5.out.2.2.trans (DFr.of_below HJ.out.2.2)⟩
     ·go_wp2_with fail
      exact ⟨rfl, .inr ⟨_, h0, .inr ⟨by rw [HMN.out]; omega, es, HES.out, rfl⟩, rfl, (HD.out.below hb).below hb5, HF0.out.trans (DFr.of_below (bseq hb hb5))⟩⟩
end Go.Proofs.YtgiihhikdoikgaaGreat
