/-
  The walk of the document's text: copyistref5.Open.
-/
import Derived.Test.YtcdhfmkfkhhnoaaGreatLRf2
import Derived.Test.YtcdhfmkfkhhnoaaGreatLOpen
set_option linter.unusedSimpArgs false
set_option linter.unusedVariables false
namespace Go.Proofs.YtcdhfmkfkhhnoaaGreat
open Go.RowKit

/-- two slices that grow apart: no block holds both -/
def Apart (u v : Value) : Prop := ∀ b, u.ownBlock = some b → v.ownBlock ≠ some b
theorem Apart.symm {u v : Value} (h : Apart u v) : Apart v u := fun b h1 h2 => h b h2 h1
theorem own_lt {w : World} {base r : Nat} {e : TypeId} {size n : Nat} {v : Value} {xs : List Value} (h : w.ownsRow base e size v n xs) (hr : v.ownBlock = some r) : r < w.heap.size := by
  rcases h.2 with ⟨rfl, _⟩ | ⟨g', cap, cur, rfl, hb, hg, _⟩
  · simp [Value.ownBlock] at hr
  · have : g' = r := by simpa [Value.ownBlock] using hr
    subst this
    exact (Array.getElem?_eq_some_iff.1 hg).1
/-- behind an append to u the other slice v is apart still -/
theorem Apart.grow {w : World} {base e size n : Nat} {u v u' : Value} {xs : List Value} (h : Apart u v) (hv : w.ownsRow base e size v n xs) (hu : u'.ownBlock = u.ownBlock ∨ ∃ H, u'.ownBlock = some H ∧ w.heap.size ≤ H) : Apart u' v := by
  intro b h1 h2
  rcases hu with hu | ⟨H, hu, hH⟩
  · exact h b (hu ▸ h1) h2
  · rw [hu] at h1
    injection h1 with h1
    have := own_lt hv h2
    omega
theorem ownsRow_grown {w w' : World} {row : Option Nat} {base e size n : Nat} {v : Value} {xs : List Value} (h : w.ownsRow base e size v n xs) (hg : w.grownBy w' row) (hne : ∀ b, v.ownBlock = some b → row ≠ some b) : w'.ownsRow base e size v n xs := by
  refine ⟨h.1, ?_⟩
  rcases h.2 with h0 | ⟨g, cap, cur, rfl, h1, h2, h3⟩
  · exact .inl h0
  · refine .inr ⟨g, cap, cur, rfl, h1, ?_, h3⟩
    rw [hg.block g (Array.getElem?_eq_some_iff.1 h2).1 (fun e => hne g rfl e.symm)]
    exact h2
/-- the document's text in memory -/
def RTx (w : World) (g : Nat) (enc lim : Int) (va vt : Value) : Prop := Blk w g 61 #[.int .i64 enc, .int .i64 lim, va, vt, .slice none 0 0]
def R5R (enc lim : Int) (l : List Int) (w : World) (k : Nat) (q9 : Value) (wr : World) : Prop :=
  ∃ (p : Nat) (pre : List (Int × Int)) (va vt : Value), q9 = .int .i64 (p : Int) ∧ Hid (dec enc l = pre ++ dec enc (l.drop p) ∧ (pre.map Prod.snd).sum = (p : Int)) ∧ p ≤ l.length ∧ pre.length ≤ p ∧ l.length - p ≤ k ∧ RTx wr w.heap.size enc lim va vt ∧
    Hid (wr.ownsRow (w.heap.size + 1) 3 1 va pre.length ((pre.map Prod.fst).map (Value.int .i64))) ∧ Hid (wr.ownsRow (w.heap.size + 1) 3 1 vt pre.length (((tagF 0 0 pre).map Prod.snd).map (Value.int .i64))) ∧ Apart va vt ∧ Below w.heap.size w wr ∧ w.heap.size + 1 ≤ wr.heap.size
/-- the document's text as Open leaves it -/
def RText (w : World) (B g : Nat) (enc lim : Int) (ats tgs : List Int) : Prop :=
  ∃ va vt, RTx w g enc lim va vt ∧ w.ownsRow B 3 1 va ats.length (ats.map (Value.int .i64)) ∧ w.ownsRow B 3 1 vt tgs.length (tgs.map (Value.int .i64))
def R5Post (enc lim : Int) (l : List Int) (w : World) (e : Ending) (w' : World) : Prop :=
  e = .returned (.tuple #[.pointer (some ⟨w.heap.size, 0, none⟩), .int .i64 0]) ∧ RText w' w.heap.size w.heap.size enc lim ((dec enc l).map Prod.fst) ((tagF 0 0 (dec enc l)).map Prod.snd) ∧ Below w.heap.size w w'
theorem ownsRow_le {w : World} {B B' e size n : Nat} {v : Value} {xs : List Value} (h : w.ownsRow B e size v n xs) (hB : B' ≤ B) : w.ownsRow B' e size v n xs := by
  refine ⟨h.1, ?_⟩
  rcases h.2 with h0 | ⟨g, cap, cur, rfl, h1, h2⟩
  · exact .inl h0
  · exact .inr ⟨g, cap, cur, rfl, Nat.le_trans hB h1, h2⟩
theorem own_set_other {w : World} {B e size n g i : Nat} {t : TypeId} {cs : Array Value} {v u : Value} {xs : List Value} (h : w.ownsRow B e size v n xs) (hg : Blk w g t cs) (hne : e ≠ t) : (w.setCell ⟨g, i, none⟩ u).ownsRow B e size v n xs :=
  ownsRow_setCell_other h (own_blk_ne h hg hne) _
theorem cell_one_new' (w : World) (v : Value) (T : TypeId) {H : Nat} (hH : w.heap.size = H) : ∀ j u, [v][j]? = some u → (w.alloc (.cells #[v] T)).cell? ((⟨H, 0, none⟩ : Addr).add j) = some u := by
  subst hH
  exact cell_one_new _ _ _
set_option maxRecDepth 100000 in
set_option maxHeartbeats 4000000 in
theorem r5open_any (enc lim : Int) (D : Nat → Prop) (A : Option Addr) (n c : Nat) (l : List Int) (w : World) (he : enc = 1 ∨ enc = 2 ∨ enc = 3 ∨ enc = 4) (hl : Bts w D A n l) (hB : Byt l) (hlim : (n : Int) ≤ lim ∧ lim ≤ 65536) (hcap : n ≤ c) :
    Calls Tryz.prog 31 #[.int .i64 enc, .slice A n c, .int .i64 lim] w fun e w' => R5Post enc lim l w e w' := by
  have hle := hl.len
  have hn : n ≤ 65536 := by omega
  have q2 : (lim < 0) = False := by simp; omega
  have q3 : (65536 < lim) = False := by simp; omega
  have q4 : (lim < (n : Int)) = False := by simp; omega
  have q0 : (enc < 1) = False := by simp; omega
  have q1 : (4 < enc) = False := by simp; omega
  obtain ⟨i0, hi, hz0, hz1, hz2⟩ := info_parts int_info
  have HE := Lib.hid he
  clear he
  go_enter Tryz.func31, Tryz.ntmps31
  go_wp2_with fail
  go_loopg [9] n (fun k q wr => R5R enc lim l w k q wr)
  case atStart =>
    refine ⟨0, [], .slice none 0 0, .slice none 0 0, rfl, Lib.hid ⟨by simp, rfl⟩, Nat.zero_le _, Nat.le_refl _, by omega, Blk.new w _ _, Lib.hid (World.ownsRow_nil _ _ _ _), Lib.hid (World.ownsRow_nil _ _ _ _), fun b h => by simp [Value.ownBlock] at h, balloc (Below.refl _ _), by simp⟩
  case round =>
    obtain ⟨p, pre, va, vt, rfl, hpre, hpl, hprel, hk, hT, hoA, hoT, hap, hb, hsz⟩ := hrel
    by_cases hlt : p < n
    · have hz := sizeAt_bd enc (l.drop p) (by rw [List.length_drop]; omega)
      have hcn := rnext_any enc D A n c p l wr HE.out (Reads.below hl hb) hB (by omega) hcap hlt
      have hdc := dec_cons enc (l.drop p) (by rw [List.length_drop]; omega)
      obtain ⟨a, ha⟩ : ∃ a, atomAt enc (l.drop p) = a := ⟨_, rfl⟩
      obtain ⟨z, hzz⟩ : ∃ z : Nat, sizeAt enc (l.drop p) = (z : Int) := ⟨(sizeAt enc (l.drop p)).toNat, by omega⟩
      rw [ha, hzz] at hcn hdc
      rw [hzz, List.length_drop] at hz
      rw [List.drop_drop, Int.toNat_natCast] at hdc
      have HC := Lib.hid hcn
      have HD := Lib.hid hdc
      clear hcn hdc ha hzz
      go_wp2_with fail
      refine (HC.out).mono ?_
      rintro e w3 ⟨rfl, hb3⟩
      have hT3 := hT.below hb3
      have hA3 := ownsRow_below hoA.out hb3
      have hT3' := ownsRow_below hoT.out hb3
      have hs3 := hb3.size
      have hb13 := bseq hb hb3
      have c2 := hT3.cell 2
      have f2 := hT3.frozen 2
      have c3 := hT3.cell 3
      simp at c2 c3
      have q5 : ((z : Int) < 1) = False := by simp; omega
      have HA3 := Lib.hid hA3
      have HT3 := Lib.hid hT3'
      clear hA3 hT3'
      have hglt := hT3.lt
      go_wp2_with (at_builtin; refine wpList_append_own_at _ rfl (.tmp 49) (.tmp 51) 38 rfl (w.heap.size + 1) 3 i0 (.int .i64 0) 1 8 Tryz.underlying38 hi hz0 hz1 hz2 rfl (by decide) va pre.length _ rfl (HA3.out.alloc _) ⟨w3.heap.size, 0, none⟩ 1 1 [.int .i64 a] rfl rfl (cell_one_new _ _ _) (by simp [Value.oneCell']) (by unfold maxLen; omega) (by omega) (by simp; omega) ?_)
      intro va' w4 hoA4 hgr _ hat
      have hT4 : Blk w4 w.heap.size 61 _ := (hT3.alloc _).grown hgr (fun e => own_blk_ne HA3.out hT3 (by decide) e.symm)
      have hoT4 := ownsRow_grown (HT3.out.alloc _) hgr (fun b h1 h2 => hap b h2 h1)
      have hap4 : Apart va' vt := hap.grow HT3.out (hat.imp id (fun h => ⟨_, h, by simp⟩))
      have hb4 : Below w.heap.size w w4 := below_grown2 (balloc hb13) hgr (fun k hk => by have := own_ge HA3.out hk; omega)
      have hz4 : w.heap.size + 1 ≤ w4.heap.size := by have := hgr.size; simp at this; omega
      have hpw4 : w3.heap.size ≤ w4.heap.size := by have := hgr.size; simp at this; omega
      have d2 := hT4.cell 2
      have g2 := hT4.frozen 2
      have hT5 := hT4.set_ 2 va'
      have hoA5 := own_set_other (i := 2) (u := va') hoA4 hT4 (by decide)
      have hoT5 := own_set_other (i := 2) (u := va') hoT4 hT4 (by decide)
      have hb5 : Below w.heap.size w (w4.setCell ⟨w.heap.size, 2, none⟩ va') := hb4.setCell (Nat.le_refl _) _
      simp at d2
      have HA4 := Lib.hid hoA4
      have HA5 := Lib.hid hoA5
      have HT5 := Lib.hid hoT5
      have e5 := hT5.cell 3
      have e6 := hT5.frozen 3
      simp at e5
      obtain ⟨r, cap, hva, _, _⟩ := hoA4.form (by omega)
      subst hva
      clear hoA4 hoT4 hgr hat hoA5 hoT5 c2 c3 f2
      go_wp2_with (at_builtin; refine wpList_append_own_at _ rfl (.tmp 59) (.tmp 61) 38 rfl (w.heap.size + 1) 3 i0 (.int .i64 0) 1 8 Tryz.underlying38 hi hz0 hz1 hz2 rfl (by decide) vt pre.length _ rfl (HT5.out.alloc _) ⟨w4.heap.size, 0, none⟩ 1 1 [.int .i64 (p : Int)] rfl rfl (cell_one_new' _ _ _ (by simp [World.setCell])) (by simp [Value.oneCell']) (by unfold maxLen; omega) (by omega) (by simp; omega) ?_)
      intro vt' w6 hoT6 hgr _ hat
      have hT6 : Blk w6 w.heap.size 61 _ := (hT5.alloc _).grown hgr (fun e => own_blk_ne HT5.out hT5 (by decide) e.symm)
      have hoA6 := ownsRow_grown (HA5.out.alloc _) hgr (fun b h1 h2 => hap4 b h1 h2)
      have hap6 : Apart vt' (.slice (some ⟨r, 0, none⟩) (pre.length + 1) cap) := hap4.symm.grow HA5.out (hat.imp id (fun h => ⟨_, h, by simp⟩))
      have hb6 : Below w.heap.size w w6 := below_grown2 (balloc hb5) hgr (fun k hk => by have := own_ge HT5.out hk; omega)
      have hz6 : w.heap.size + 1 ≤ w6.heap.size := by have := hgr.size; simp [World.setCell] at this; omega
      obtain ⟨r2, cap2, hvt, _, _⟩ := hoT6.form (by omega)
      subst hvt
      have d3 := hT6.cell 3
      have g3 := hT6.frozen 3
      simp at d3
      have hT7 := hT6.set_ 3 (.slice (some ⟨r2, 0, none⟩) (pre.length + 1) cap2)
      have hoA7 := own_set_other (i := 3) (u := .slice (some ⟨r2, 0, none⟩) (pre.length + 1) cap2) hoA6 hT6 (by decide)
      have hoT7 := own_set_other (i := 3) (u := .slice (some ⟨r2, 0, none⟩) (pre.length + 1) cap2) hoT6 hT6 (by decide)
      have hb7 : Below w.heap.size w (w6.setCell ⟨w.heap.size, 3, none⟩ (.slice (some ⟨r2, 0, none⟩) (pre.length + 1) cap2)) := hb6.setCell (Nat.le_refl _) _
      have HA7 := Lib.hid hoA7
      have HT7 := Lib.hid hoT7
      clear hoT6 hoA6 hgr hat hoA7 hoT7 e5 e6 d2 g2 hi hz0 hz1 hz2
      go_wp2_with fail
      go_roundg (n - (p + z))
      case measure => omega
      case rel =>
        refine ⟨p + z, pre ++ [(a, (z : Int))], _, _, by go_num, Lib.hid ⟨?_, ?_⟩, by omega, by simp; omega, by omega, hT7.eq_ rfl, Lib.hid ?_, Lib.hid ?_, hap6.symm, hb7, by simpa [World.setCell] using hz6⟩
        · rw [hpre.out.1, HD.out, List.append_assoc]; rfl
        · rw [List.map_append, List.sum_append, hpre.out.2]; simp
        · have := HA7.out
          simpa using this
        · have := HT7.out
          rw [tagF_app, hpre.out.2]
          simpa [tagF] using this
    · obtain rfl : p = l.length := by omega
      have hp := hpre.out
      rw [List.drop_length, dec_nil, List.append_nil] at hp
      go_wp2_with fail
      go_ret2
      refine ⟨rfl, ⟨va, vt, hT, ?_, ?_⟩, hb⟩ <;> rw [hp.1]
      · rw [List.length_map]; exact ownsRow_le hoA.out (by omega)
      · rw [List.length_map, tagF_len]; exact ownsRow_le hoT.out (by omega)
/-- why no text can be opened (0: it can) -/
def openErr (enc lim : Int) (n : Nat) : Int := if enc < 1 ∨ 4 < enc then 10 else if lim < 0 ∨ 65536 < lim then 1 else if lim < (n : Int) then 50 else 0
set_option maxRecDepth 100000 in
set_option maxHeartbeats 1000000 in
theorem r5open_err (enc lim : Int) (A : Option Addr) (n c : Nat) (w : World) (hne : openErr enc lim n ≠ 0) :
    Calls Tryz.prog 31 #[.int .i64 enc, .slice A n c, .int .i64 lim] w fun e w' => e = .returned (.tuple #[.pointer none, .int .i64 (openErr enc lim n)]) ∧ w = w' := by
  by_cases h1 : enc < 1 ∨ 4 < enc
  · have e1 : openErr enc lim n = 10 := by unfold openErr; rw [if_pos h1]
    rw [e1]
    clear e1 hne
    have h1' : (enc < 1) = True ∨ (enc < 1) = False ∧ (4 < enc) = True := by simp; omega
    rcases h1' with q | ⟨q, q'⟩
    all_goals
      clear h1
      go_enter Tryz.func31, Tryz.ntmps31
      go_wp2_with fail
      go_ret2
      exact ⟨rfl, rfl⟩
  · have q0 : (enc < 1) = False := by simp; omega
    have q1 : (4 < enc) = False := by simp; omega
    by_cases h2 : lim < 0 ∨ 65536 < lim
    · have e1 : openErr enc lim n = 1 := by unfold openErr; rw [if_neg h1, if_pos h2]
      rw [e1]
      clear e1 hne
      have h2' : (lim < 0) = True ∨ (lim < 0) = False ∧ (65536 < lim) = True := by simp; omega
      rcases h2' with q | ⟨q, q'⟩
      all_goals
        clear h1 h2
        go_enter Tryz.func31, Tryz.ntmps31
        go_wp2_with fail
        go_ret2
        exact ⟨rfl, rfl⟩
    · have h3 : lim < (n : Int) := by
        by_cases h3 : lim < (n : Int)
        · exact h3
        · exfalso
          apply hne
          unfold openErr
          rw [if_neg h1, if_neg h2, if_neg h3]
      have e1 : openErr enc lim n = 50 := by unfold openErr; rw [if_neg h1, if_neg h2, if_pos h3]
      have q2 : (lim < 0) = False := by simp; omega
      have q3 : (65536 < lim) = False := by simp; omega
      have q4 : (lim < (n : Int)) = True := by simp; omega
      rw [e1]
      clear e1 hne h1 h2 h3
      go_enter Tryz.func31, Tryz.ntmps31
      go_wp2_with fail
      go_ret2
      exact ⟨rfl, rfl⟩
theorem openErr_ok {enc lim : Int} {n : Nat} (h : openErr enc lim n = 0) : (enc = 1 ∨ enc = 2 ∨ enc = 3 ∨ enc = 4) ∧ (n : Int) ≤ lim ∧ lim ≤ 65536 := by
  unfold openErr at h
  split at h
  · cases h
  · split at h
    · cases h
    · split at h
      · cases h
      · omega
end Go.Proofs.YtcdhfmkfkhhnoaaGreat
