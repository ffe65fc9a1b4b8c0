/-
  The walks of package cluster, fourth part: safe, Breaks, Next.
-/
import Derived.Test.YtkoakanpaehkmaaGreatDoorLCluster2
set_option linter.unusedSimpArgs false
set_option linter.unusedVariables false
set_option maxRecDepth 100000
set_option maxHeartbeats 32000000
namespace Go.Proofs.YtkoakanpaehkmaaGreatDoor
open Go.RowKit
noncomputable def beginF (a : Int) : Scan := noteF ⟨0, 0, 0, 0⟩ (classF a) (conjF a)
theorem begin_any (a : Int) (w : World) :
  Calls Tryz.prog 165 #[.int .i64 a] w fun e w' => e = .returned (.agg (beginF a).cells) /\ Below w.heap.size w w' := by
 go_enter Tryz.func165, Tryz.ntmps165
 go_wp2_with fail
 refine (class_any _ _).mono ?_
 rintro e w1 ⟨rfl, hb1⟩
 go_wp2_with fail
 refine (conjunct_any _ _).mono ?_
 rintro e w2 ⟨rfl, hb2⟩
 have hb := bseq hb1 hb2
 have hz : Blk w2 (w.heap.size + 1) 245 (Scan.mk 0 0 0 0).cells := by
  have := Blk.new (w.alloc (.cells (Scan.mk 0 0 0 0).cells 245)) 245 (Scan.mk 0 0 0 0).cells
  simp only [World.size_alloc] at this
  exact this.below hb
 have hr : Blk w2 w.heap.size 245 (Scan.mk 0 0 0 0).cells := by
  have := (Blk.new w 245 (Scan.mk 0 0 0 0).cells).alloc (.cells (Scan.mk 0 0 0 0).cells 245)
  exact this.below hb
 have hW : Below w.heap.size w w2 := (((Below.refl _ w).alloc (Nat.le_refl _) _).alloc (by simp) _).trans (hb.mono (by simp; omega))
 clear hb1 hb2 hb
 go_wp2_with fail
 refine (note_any _ _ _ _ _ hz (by constructor <;> decide)).mono ?_
 rintro e w3 ⟨rfl, hn⟩
 have hr3 := hr.fr hn.2 (by omega)
 obtain ⟨c0, c1, c2, c3, f0, f1, f2, f3⟩ := hn.facts
 have r0 := hr3.cell 0
 have r1 := hr3.cell 1
 have r2 := hr3.cell 2
 have r3 := hr3.cell 3
 have g0 := hr3.frozen 0
 have g1 := hr3.frozen 1
 have g2 := hr3.frozen 2
 have g3 := hr3.frozen 3
 simp [Scan.cells] at r0 r1 r2 r3
 go_wp2
 refine bodyPost_ret (v := .agg (beginF a).cells) (by simp [results, Tryz.results165, go_sem, r0, r1, r2, r3, beginF, Scan.cells]) rfl ⟨rfl, ?_⟩
 exact ((((bfr hW hn.2 (fun i hi => by omega)).setCell (Nat.le_refl _) _).setCell (Nat.le_refl _) _).setCell (Nat.le_refl _) _).setCell (Nat.le_refl _) _
theorem begin_any' (a : Int) (w : World) : Calls Tryz.prog 165 #[.int .i64 a] w fun e w' =>
  e = .returned (.agg #[.int .i64 (beginF a).last, .int .i64 (beginF a).flags, .int .i64 (beginF a).pict, .int .i64 (beginF a).conj]) /\ Below w.heap.size w w' := begin_any a w
noncomputable def runF (s : Scan) : List Int -> Nat
 | [] => 0
 | a :: r => if joinsF s a = true then runF (takesF s a) r + 1 else 0
theorem runF_le (s : Scan) (l : List Int) : runF s l <= l.length := by
 induction l generalizing s with
 | nil => simp [runF]
 | cons a r ih => simp only [runF]; split <;> simp [ih]
noncomputable def nextB (l : List Int) (p : Nat) : Nat := p + 1 + runF (beginF (l.getD p 0)) (l.drop (p + 1))
theorem nextB_gt (l : List Int) (p : Nat) : p < nextB l p := by unfold nextB; omega
theorem nextB_le (l : List Int) (p : Nat) (h : p < l.length) : nextB l p <= l.length := by
 unfold nextB
 have := runF_le (beginF (l.getD p 0)) (l.drop (p + 1))
 simp at this ⊢
 omega
noncomputable def bndsF (l : List Int) : Nat -> Nat -> List Nat
 | 0, _ => []
 | f + 1, p => if p < l.length then nextB l p :: bndsF l f (nextB l p) else []
theorem bndsF_ge (l : List Int) (f p : Nat) (h : l.length <= p) : bndsF l f p = [] := by
 cases f <;> simp [bndsF]; omega
theorem bndsF_fuel (l : List Int) : ∀ (f f' p : Nat), l.length - p <= f -> l.length - p <= f' -> bndsF l f p = bndsF l f' p := by
 intro f
 induction f with
 | zero => intro f' p h h'; rw [bndsF_ge l f' p (by omega)]; rfl
 | succ f ih =>
  intro f' p h h'
  cases f' with
  | zero => rw [bndsF_ge l (f + 1) p (by omega)]; rfl
  | succ f' =>
   simp only [bndsF]
   split
   ·have := nextB_gt l p
    rw [ih f' (nextB l p) (by omega) (by omega)]
   ·rfl
noncomputable def bnds (l : List Int) (p : Nat) : List Nat := bndsF l l.length p
theorem bnds_lt (l : List Int) (p : Nat) (h : p < l.length) : bnds l p = nextB l p :: bnds l (nextB l p) := by
 unfold bnds
 have hg := nextB_gt l p
 rw [bndsF_fuel l l.length (l.length + 1) p (by omega) (by omega)]
 simp only [bndsF, if_pos h]
theorem bnds_ge (l : List Int) (p : Nat) (h : l.length <= p) : bnds l p = [] := bndsF_ge l _ p h
def foldU {σ : Type} (step : σ -> Nat -> Bool × σ) : σ -> List Nat -> σ
 | s, [] => s
 | s, k :: r => if (step s k).1 = true then foldU step (step s k).2 r else (step s k).2
structure Yields (F : FuncId) (caps : Array Value) (S : Nat -> Prop) (B : Nat) {σ : Type} (J : σ -> World -> Prop) (step : σ -> Nat -> Bool × σ) (N : Nat) (bound : σ -> Nat) : Prop where
 rises : ∀ s k, bound s < k -> bound (step s k).2 <= k
 call : ∀ s k w, k <= N -> bound s < k -> J s w -> B <= w.heap.size -> Calls Tryz.prog F (#[.int .i64 (k : Int)] ++ caps) w fun e w' => e = .returned (.bool (step s k).1) /\ J (step s k).2 w' /\ Fr S w w'
 enter : ∀ args w, (callFunc F args).run Tryz.prog w = .ok (.enter F args) w
 keep : ∀ s w w', J s w -> KeepBut 245 w w' -> J s w'
def OutR {σ : Type} (J : σ -> World -> Prop) (step : σ -> Nat -> Bool × σ) (bound : σ -> Nat) (s0 : σ) (S : Nat -> Prop) (l : List Int) (p n : Nat) (w0 : World) (k : Nat) (q : Value) (wr : World) : Prop :=
 ∃ (m : Nat) (s : σ), q = .int .i64 (m : Int) /\ J s wr /\ Fr S w0 wr /\ foldU step s (bnds l m) = foldU step s0 (bnds l p) /\ m <= 2147483648 /\ n - m <= k /\ bound s <= m
def InR (J : World -> Prop) (S : Nat -> Prop) (l : List Int) (q n : Nat) (w0 : World) (g : Nat) (k : Nat) (q6 q8 : Value) (wr : World) : Prop :=
 ∃ (m : Nat) (st : Scan), q6 = .int .i64 (q : Int) /\ q8 = .int .i64 (m : Int) /\ Blk wr g 245 st.cells /\ J wr /\ Fr S w0 wr /\ nextB l q = m + runF st (l.drop m) /\
  0 <= st.flags /\ st.flags <= (m : Int) /\ q < m /\ m <= n /\ n - m <= k
theorem noteF_flags (s : Scan) (c p : Int) (h : 0 <= s.flags) : 0 <= (noteF s c p).flags /\ (noteF s c p).flags <= s.flags + 1 := by unfold noteF; simp only; split <;> omega
theorem beginF_flags (a : Int) : 0 <= (beginF a).flags := (noteF_flags ⟨0, 0, 0, 0⟩ _ _ (by decide)).1
theorem beginF_flags' (a : Int) : (beginF a).flags <= 1 := (noteF_flags ⟨0, 0, 0, 0⟩ _ _ (by decide)).2
theorem takesF_flags (s : Scan) (a : Int) (h : 0 <= s.flags) : 0 <= (takesF s a).flags /\ (takesF s a).flags <= s.flags + 1 := by
 unfold takesF
 split
 ·exact noteF_flags _ _ _ h
 ·omega
theorem cwalk_any {σ : Type} (F : FuncId) (caps : Array Value) (S D : Nat -> Prop) (J : σ -> World -> Prop) (step : σ -> Nat -> Bool × σ) (bound : σ -> Nat) (A : Option Addr) (n c : Nat) (l : List Int) (p : Nat) (s0 : σ) (w : World)
  (hl : Ints w D A n l) (hd : ∀ b, D b -> b < w.heap.size -> ¬ S b) (hn : n <= 2147483648) (hp : p <= 2147483648) (hy : Yields F caps S w.heap.size J step n bound) (hJ : J s0 w) (hb0 : bound s0 <= p) :
  Calls Tryz.prog 139 #[.slice A n c, .int .i64 (p : Int), .func (.func F) #[] caps] w fun e w' => e = .returned (.tuple #[]) /\ J (foldU step s0 (bnds l p)) w' /\ Fr S w w' := by
 have hle1 : l.length <= n := Nat.le_of_eq hl.len
 have hle2 : n <= l.length := Nat.le_of_eq hl.len.symm
 go_enter Tryz.func139, Tryz.ntmps139
 go_wp2_with fail
 go_step3
 go_wp2_with fail
 go_step3
 go_wp2_with fail
 go_loopg [6] (n - p) (fun k q wr => OutR J step bound s0 S l p n w k q wr)
 case atStart => exact ⟨p, s0, rfl, hJ, Fr.refl _ _, rfl, hp, Nat.le_refl _, hb0⟩
 case round =>
  obtain ⟨q, s, rfl, hs, hf, hfold, hq, hk, hbs⟩ := hrel
  have HF := Lib.hid hfold
  clear hfold
  have hl1 := Reads.fr hl hf hd
  by_cases hlt : q < n
  ·obtain ⟨ad, rfl, hD, hc⟩ := Ints.at_ hl1 hlt
   obtain ⟨a0, ha0⟩ : ∃ a, l.getD q 0 = a := ⟨_, rfl⟩
   rw [ha0] at hc
   have HA := Lib.hid ha0
   clear ha0
   go_wp2_with fail
   refine (begin_any' _ _).mono ?_
   rintro e w1 ⟨rfl, hb1⟩
   go_wp2_with fail
   have hW : Fr S w (w1.alloc (.cells (beginF a0).cells 245)) := (hf.bel hb1).alloc _
   have hJ1 : J s (w1.alloc (.cells (beginF a0).cells 245)) := hy.keep s _ _ hs (KeepBut.of_below (hb1.alloc hb1.size _))
   have hg : w.heap.size <= w1.heap.size := Nat.le_trans hf.size hb1.size
   have hB := Blk.new w1 245 (beginF a0).cells
   go_loopg [6, 8] (n - (q + 1)) (fun k q6 q8 wr2 => InR (J s) S l q n w w1.heap.size k q6 q8 wr2)
   case atStart =>
    refine ⟨q + 1, beginF a0, rfl, by go_num, hB, hJ1, hW, ?_, beginF_flags a0, ?_, by omega, by omega, by omega⟩
    ·rw [<- HA.out]; rfl
    ·have := beginF_flags' a0; omega
   case round =>
    obtain ⟨m, st, rfl, rfl, hb, hs2, hf2, hnx, hfl, hfm, hqm, hmn, hk2⟩ := hrel
    have HN := Lib.hid hnx
    clear hnx
    have hl2 := Reads.fr hl hf2 hd
    by_cases hmlt : m < n
    ·obtain ⟨ad', hade, _, hc2⟩ := Ints.at_ hl2 hmlt
     injection hade with hade
     subst hade
     obtain ⟨a1, ha1⟩ : ∃ a, l.getD m 0 = a := ⟨_, rfl⟩
     rw [ha1] at hc2
     have hdr : l.drop m = a1 :: l.drop (m + 1) := by rw [<- ha1]; exact drop_getD l m (by omega)
     have HD := Lib.hid hdr
     clear ha1 hc hdr
     cases hj : joinsF st a1
     ·go_wp2_with fail
      refine (takes_any _ st a1 _ hb ⟨hfl, by omega⟩).mono ?_
      rintro e w3 ⟨rfl, hsc⟩
      have he := hy.enter
      have hf3 : Fr S w w3 := hf2.call hsc.2 (fun i hi hg' => absurd hg' (by omega))
      have hJ3 : J s w3 := hy.keep s _ _ hs2 (KeepBut.of_fr hsc.2 hb)
      go_wp2_with fail
      refine (hy.call s m w3 (by omega) (by omega) hJ3 hf3.size).mono ?_
      rintro e w4 ⟨rfl, hJ4, hf4⟩
      have hnB : bnds l q = m :: bnds l m := by
       have e1 : nextB l q = m := by rw [HN.out, HD.out]; simp [runF, hj]
       rw [bnds_lt l q (by omega), e1]
      have HB := Lib.hid hnB
      clear hnB he
      cases hst : (step s m).1
      ·go_wp2_with fail
       simp only [Exit.noGoto]
       go_end0
       refine ⟨rfl, ?_, hf3.trans hf4⟩
       rw [<- HF.out, HB.out]
       simp only [foldU, hst]
       exact hJ4
      ·go_wp2_with fail
       go_roundg (n - m)
       case measure => omega
       case rel =>
        refine ⟨m, (step s m).2, rfl, hJ4, hf3.trans hf4, ?_, by omega, Nat.le_refl _, hy.rises s m (by omega)⟩
        rw [<- HF.out, HB.out]
        simp only [foldU, hst, if_true]
     ·go_wp2_with fail
      refine (takes_any _ st a1 _ hb ⟨hfl, by omega⟩).mono ?_
      rintro e w3 ⟨rfl, hsc⟩
      go_wp2_with fail
      go_roundg (n - (m + 1))
      case measure => omega
      case rel =>
       have hf3 : Fr S w w3 := hf2.call hsc.2 (fun i hi hg' => absurd hg' (by omega))
       have hJ3 : J s w3 := hy.keep s _ _ hs2 (KeepBut.of_fr hsc.2 hb)
       have hfl' := takesF_flags st a1 hfl
       refine ⟨m + 1, takesF st a1, rfl, by go_num, hsc.1, hJ3, hf3, ?_, hfl'.1, by omega, by omega, by omega, by omega⟩
       rw [HN.out, HD.out]
       simp only [runF, hj, if_true]
       omega
    ·have hmn' : m = n := by omega
     have hf3 := hf2
     subst hmn'
     have he := hy.enter
     go_wp2_with fail
     refine (hy.call s m _ (by omega) (by omega) hs2 hf2.size).mono ?_
     rintro e w4 ⟨rfl, hJ4, hf4⟩
     have hnB : bnds l q = [m] := by
      have e1 : nextB l q = m := by rw [HN.out, List.drop_eq_nil_of_le (by omega)]; simp [runF]
      rw [bnds_lt l q (by omega), e1, bnds_ge l m (by omega)]
     have HB := Lib.hid hnB
     clear hnB he
     go_wp2_with fail
     simp only [Exit.noGoto]
     go_end0
     refine ⟨rfl, ?_, hf2.trans hf4⟩
     rw [<- HF.out, HB.out]
     simp only [foldU, ite_self]
     exact hJ4
  ·go_wp2_with fail
   simp only [Exit.noGoto]
   go_end0
   refine ⟨rfl, ?_, hf⟩
   rw [<- HF.out, bnds_ge l q (by omega)]
   exact hs
theorem breaks1_any (W : World) (g k : Nat) (xs : List Int) (w : World) (h : OutAt w W.heap.size g xs) (hg : W.heap.size <= g) (hW : W.heap.size <= w.heap.size) (hn : xs.length <= 2147483648) :
  Calls Tryz.prog 145 #[.int .i64 (k : Int), .pointer (some ⟨g, 0, none⟩)] w fun e w' =>
   e = .returned (.bool true) /\ OutAt w' W.heap.size g (xs ++ [(k : Int)]) /\ Fr (fun b => W.heap.size <= b) w w' := by
 obtain ⟨v, hb, ho⟩ := h
 obtain ⟨i0, hi, hz0, hz1, hz2⟩ := info_parts int_info
 have c0 := hb.cell 0
 have f0 := hb.frozen 0
 simp at c0
 have hglt := hb.lt
 go_enter Tryz.func145, Tryz.ntmps145
 go_wp2_with (at_builtin; refine wpList_append_own _ rfl (.tmp 4) (.tmp 6) 34 rfl W.heap.size 3 i0 (.int .i64 0) 1 8 Tryz.underlying34 hi hz0 hz1 hz2 rfl (by decide) v xs.length _ rfl (ho.alloc _) ⟨w.heap.size, 0, none⟩ 1 1 [.int .i64 (k : Int)] rfl rfl ?c1 ?c2 ?c3 ?c4 ?c5 ?_)
 case c1 => exact cell_one_new _ _ _
 case c2 => simp [Value.oneCell']
 case c3 => unfold maxLen; omega
 case c4 => omega
 case c5 => simp; omega
 intro v1 w1 hown1 hgr _
 have hb1 : Blk w1 g 34 #[v] := (hb.alloc _).grown hgr (fun e => own_blk_ne ho hb (by decide) e.symm)
 have hfr : Fr (fun b => W.heap.size <= b) w w1 := ((Fr.refl _ w).alloc _).grown hgr (fun r hr _ => own_ge ho hr)
 have c1 := hb1.cell 0
 have f1 := hb1.frozen 0
 simp at c1
 clear c0 f0
 obtain ⟨r, cap, rfl, _, hrl⟩ := hown1.form (by omega)
 go_wp2_with fail
 go_ret
 refine ⟨rfl, ⟨_, hb1.set_ 0 _, ?_⟩, hfr.setCell (.inl hg) _⟩
 rw [List.length_append, List.map_append]
 exact ownsRow_setCell_other hown1 (own_blk_ne hown1 hb1 (by decide)) _
theorem foldU_out (r : List Nat) : ∀ s : List Int, foldU (fun s (k : Nat) => (true, s ++ [(k : Int)])) s r = s ++ r.map (fun k : Nat => (k : Int)) := by
 induction r with
 | nil => intro s; simp [foldU]
 | cons k r ih => intro s; simp [foldU, ih]
noncomputable def allB (l : List Int) : List Int := 0 :: (bnds l 0).map (fun k : Nat => (k : Int))
theorem breaks_any (D : Nat -> Prop) (A : Option Addr) (n c : Nat) (l : List Int) (w : World) (hl : Ints w D A n l) (hn : n <= 2147483647) :
    Calls Tryz.prog 108 #[.slice A n c] w fun e w' => ∃ v, e = .returned v /\ w'.ownsRow w.heap.size 3 1 v (allB l).length ((allB l).map (Value.int .i64)) /\ Below w.heap.size w w' := by
  go_enter Tryz.func108, Tryz.ntmps108
  go_wp2_with fail
  have hB0 : OutAt ((w.alloc (.cells #[.int .i64 0] 3)).alloc (.cells #[.slice (some ⟨w.heap.size, 0, none⟩) 1 1] 34)) w.heap.size (w.heap.size + 1) [0] := by
    refine ⟨.slice (some ⟨w.heap.size, 0, none⟩) 1 1, ?_, rfl, .inr ⟨w.heap.size, 1, #[.int .i64 0], rfl, Nat.le_refl _, ?_, Nat.le_refl _, by unfold maxLen; omega, rfl, rfl⟩⟩
    · have := Blk.new (w.alloc (.cells #[.int .i64 0] 3)) 34 #[.slice (some ⟨w.heap.size, 0, none⟩) 1 1]
      simpa using this
    · exact (Blk.new w 3 #[.int .i64 0]).alloc _
  have hW : Below w.heap.size w ((w.alloc (.cells #[.int .i64 0] 3)).alloc (.cells #[.slice (some ⟨w.heap.size, 0, none⟩) 1 1] 34)) := ((Below.refl _ w).alloc (Nat.le_refl _) _).alloc (by simp) _
  have hl1 : Ints ((w.alloc (.cells #[.int .i64 0] 3)).alloc (.cells #[.slice (some ⟨w.heap.size, 0, none⟩) 1 1] 34)) (fun b => b < w.heap.size) A n l :=
    Reads.below (Reads.more hl (fun b _ h => h) (by omega)) hW
  have hy : Yields 145 #[.pointer (some ⟨w.heap.size + 1, 0, none⟩)] (fun b => w.heap.size <= b) ((w.alloc (.cells #[.int .i64 0] 3)).alloc (.cells #[.slice (some ⟨w.heap.size, 0, none⟩) 1 1] 34)).heap.size
      (fun s w' => OutAt w' w.heap.size (w.heap.size + 1) s) (fun s (k : Nat) => (true, s ++ [(k : Int)])) n (fun s => s.length - 1) := by
    constructor
    · intro s k h
      simp only [List.length_append, List.length_singleton]
      omega
    · intro s k w1 hk hb ho hz
      simp only [World.size_alloc] at hz
      exact breaks1_any w (w.heap.size + 1) k s w1 ho (by omega) (by omega) (by omega)
    · exact Tryz.call145
    · intro s w1 w2 ho hk
      exact ho.keep hk (by decide) (by decide)
  refine (cwalk_any _ _ _ _ _ _ _ A n c l 0 [0] _ hl1 (fun b h _ h' => by omega) (by omega) (by omega) hy hB0 (by simp)).mono ?_
  rintro e w1 ⟨rfl, ho, hf⟩
  rw [foldU_out] at ho
  obtain ⟨v, hb, hown⟩ := ho
  have c0 := hb.cell 0
  simp at c0
  have hown' : w1.ownsRow w.heap.size 3 1 v (allB l).length ((allB l).map (Value.int .i64)) := hown
  clear hown
  obtain ⟨r, cap, rfl, _, hrl⟩ := hown'.form (by simp [allB])
  have HO := Lib.hid hown'
  clear hown'
  go_wp2_with fail
  go_ret
  exact ⟨_, rfl, HO.out, bfr hW hf (fun i hi => hi)⟩
end Go.Proofs.YtkoakanpaehkmaaGreatDoor
