/-
  copyistlaw12.same: are two lists equal? Tags of a text.
-/
import Derived.Test.YtcdhfmkfkhhnoaaGreatLDesk
import Derived.Test.YtcdhfmkfkhhnoaaGreatLWalk2
set_option linter.unusedSimpArgs false
set_option linter.unusedVariables false
namespace Go.Proofs.YtcdhfmkfkhhnoaaGreat
open Go.RowKit

def SameR (x y : List Int) (w0 : World) (k : Nat) (q : Value) (wr : World) : Prop :=
  ∃ i : Nat, q = .int .i64 (i : Int) ∧ i ≤ x.length ∧ x.length - i ≤ k ∧ Hid (∀ j, j < i → x.getD j 0 = y.getD j 0) ∧ Below w0.heap.size w0 wr
theorem list_eq_getD {x y : List Int} (hl : x.length = y.length) (h : ∀ j, j < x.length → x.getD j 0 = y.getD j 0) : x = y := by
  apply List.ext_getElem hl
  intro i h1 h2
  have := h i h1
  rw [List.getD_eq_getElem?_getD, List.getD_eq_getElem?_getD, List.getElem?_eq_getElem h1, List.getElem?_eq_getElem h2] at this
  simpa using this
set_option maxRecDepth 100000 in
set_option maxHeartbeats 2000000 in
theorem same_any (D D' : Nat → Prop) (A A' : Option Addr) (n c m c' : Nat) (x y : List Int) (w : World) (hx : Ints w D A n x) (hy : Ints w D' A' m y) (hn : n ≤ 1073741824) (hm : m ≤ 1073741824) :
    Calls Tryz.prog 20 #[.slice A n c, .slice A' m c'] w fun e w' => e = .returned (.bool (decide (x = y))) ∧ Below w.heap.size w w' := by
  have hxl := hx.len
  have hyl := hy.len
  by_cases hnm : n = m
  · subst hnm
    have q1 : ((n : Int) != (n : Int)) = false := by simp
    go_enter Tryz.func20, Tryz.ntmps20
    go_wp2_with fail
    go_loopg [5] n (fun k q wr => SameR x y w k q wr)
    case atStart => exact ⟨0, rfl, Nat.zero_le _, by omega, Lib.hid (fun j hj => absurd hj (by omega)), Below.refl _ _⟩
    case round =>
      obtain ⟨i, rfl, hi, hk, hh, hb⟩ := hrel
      by_cases hlt : i < n
      · obtain ⟨ad, hA, _, c1⟩ := Ints.at_ (Reads.below hx hb) hlt
        obtain ⟨ad', hA', _, c2⟩ := Ints.at_ (Reads.below hy hb) hlt
        subst hA
        subst hA'
        obtain ⟨a, ha⟩ : ∃ a, x.getD i 0 = a := ⟨_, rfl⟩
        obtain ⟨b, hb'⟩ : ∃ b, y.getD i 0 = b := ⟨_, rfl⟩
        rw [ha] at c1
        rw [hb'] at c2
        have HA := Lib.hid ha
        have HB := Lib.hid hb'
        have x1 : (0 : Int) ≤ (i : Int) := by omega
        have x2 : (i : Int) < (n : Int) := by omega
        clear ha hb'
        by_cases hab : a = b
        · have hne : (a != b) = false := by simp [hab]
          go_wp2_with fail
          go_quiet (fail)
          go_wp2_with fail
          go_roundg (n - (i + 1))
          case measure => omega
          case rel =>
            refine ⟨i + 1, by go_num, by omega, by omega, Lib.hid (fun j hj => ?_), below_drewN hb _⟩
            rcases Nat.lt_or_ge j i with h | h
            · exact hh.out j h
            · rw [show j = i by omega, HA.out, HB.out, hab]
        · have hne : (a != b) = true := by simp [hab]
          go_wp2_with fail
          go_quiet (fail)
          go_wp2_with fail
          go_ret
          refine ⟨ret_b ?_, below_drewN hb _⟩
          symm
          rw [decide_eq_false_iff_not]
          intro h
          apply hab
          rw [← HA.out, ← HB.out, h]
      · go_wp2_with fail
        go_ret
        refine ⟨ret_b ?_, hb⟩
        symm
        rw [decide_eq_true_eq]
        exact list_eq_getD (by omega) (fun j hj => hh.out j (by omega))
  · have q1 : ((n : Int) != (m : Int)) = true := by rw [bne_iff_ne]; omega
    go_enter Tryz.func20, Tryz.ntmps20
    go_wp2_with fail
    go_ret
    refine ⟨ret_b ?_, Below.refl _ _⟩
    symm
    rw [decide_eq_false_iff_not]
    intro h
    rw [h] at hxl
    omega
theorem same_eq {D D' : Nat → Prop} {A A' : Option Addr} {n c m c' : Nat} {x : List Int} {w : World} (hx : Ints w D A n x) (hy : Ints w D' A' m x) (hn : n ≤ 1073741824) :
    Calls Tryz.prog 20 #[.slice A n c, .slice A' m c'] w fun e w' => e = .returned (.bool true) ∧ Below w.heap.size w w' := by
  have h1 := hx.len
  have h2 := hy.len
  have := same_any D D' A A' n c m c' x x w hx hy hn (by omega)
  rwa [show decide (x = x) = true by simp] at this

/-! ### Tags -/
set_option maxRecDepth 100000 in
set_option maxHeartbeats 1000000 in
theorem tags1_any (base g : Nat) (a tg : Int) (xs : List Int) (X : Nat → Prop) (w : World) (h : SeeJ base g xs X w) (hg : base ≤ g) (hW : base ≤ w.heap.size) (hn : xs.length ≤ 2147483648) :
    Calls Tryz.prog 38 #[.int .i64 a, .int .i64 tg, .pointer (some ⟨g, 0, none⟩)] w fun e w' => SeenPost (SeeJ base g) (xs ++ [tg]) X w e w' := by
  obtain ⟨v, hb, ho, rfl⟩ := h
  obtain ⟨i0, hi, hz0, hz1, hz2⟩ := info_parts int_info
  have c0 := hb.cell 0
  have f0 := hb.frozen 0
  simp at c0
  have hglt := hb.lt
  go_enter Tryz.func38, Tryz.ntmps38
  go_wp2_with (at_builtin; refine wpList_append_own_at _ rfl (.tmp 5) (.tmp 7) 38 rfl base 3 i0 (.int .i64 0) 1 8 Tryz.underlying38 hi hz0 hz1 hz2 rfl (by decide) v xs.length _ rfl (ho.alloc _) ⟨w.heap.size, 0, none⟩ 1 1 [.int .i64 tg] rfl rfl ?c1 ?c2 ?c3 ?c4 ?c5 ?_)
  case c1 => exact cell_one_new _ _ _
  case c2 => simp [Value.oneCell']
  case c3 => unfold maxLen; omega
  case c4 => omega
  case c5 => simp; omega
  intro v1 w1 hown1 hgr _ hat
  have hb1 : Blk w1 g 38 #[v] := (hb.alloc _).grown hgr (fun e => own_blk_ne ho hb (by decide) e.symm)
  have hfr : Fr (fun b => b = g ∨ v.ownBlock = some b) w w1 := ((Fr.refl _ w).alloc _).grown hgr (fun r hr _ => .inr hr)
  have hnew : ∀ b, v1.ownBlock = some b → v.ownBlock = some b ∨ w.heap.size ≤ b := by
    intro b e
    rcases hat with h | h
    · exact .inl (h.symm.trans e)
    · rw [h] at e
      injection e with e
      exact .inr (by rw [← e]; simp)
  have c1 := hb1.cell 0
  have f1 := hb1.frozen 0
  simp at c1
  clear c0 f0
  obtain ⟨r, cap, rfl, _, hrl⟩ := hown1.form (by omega)
  have HNW := Lib.hid hnew
  clear hnew hat
  go_wp2_with fail
  go_end0
  refine ⟨rfl, ⟨_, ⟨_, hb1.set_ 0 _, ?_, rfl⟩, ?_⟩, hfr.setCell (.inl (.inl rfl)) _⟩
  · rw [List.length_append, List.map_append]
    exact ownsRow_setCell_other hown1 (own_blk_ne hown1 hb1 (by decide)) _
  · rintro b (hb2 | hb2)
    · exact .inl (.inl hb2)
    · rcases HNW.out b hb2 with h3 | h3
      · exact .inl (.inr h3)
      · exact .inr h3
theorem seeT_sees (base g : Nat) (hg : base ≤ g) : Sees 38 #[.pointer (some ⟨g, 0, none⟩)] (fun (s : List Int) X w => SeeJ base g s X w ∧ base ≤ w.heap.size) (fun s _ t => s ++ [t]) List.length := by
  constructor
  · intro s a _; simp
  · rintro s X a tg w ⟨h, hb⟩ hn
    refine (tags1_any base g a tg s X w h hg hb hn).mono ?_
    rintro e w' ⟨rfl, ⟨X', h1, h2⟩, h3⟩
    exact ⟨rfl, ⟨X', ⟨h1, Nat.le_trans hb h3.size⟩, h2⟩, h3⟩
  · exact Tryz.call38
  · rintro s X w b ⟨⟨v, hb, ho, rfl⟩, _⟩ (rfl | hx)
    · exact ⟨_, _, hb, .inr rfl⟩
    · rcases ho.2 with ⟨rfl, _⟩ | ⟨r, cap, cur, rfl, h1, h2, _⟩
      · simp [Value.ownBlock] at hx
      · have e : r = b := by simpa [Value.ownBlock] using hx
        subst e
        exact ⟨_, _, h2, .inl rfl⟩
  · rintro s X w w' ⟨⟨v, hb, ho, rfl⟩, hbs⟩ hk
    have hg1 : Blk w' g 38 #[v] := (hk g (.inl rfl)).trans hb
    refine ⟨⟨v, hg1, ⟨ho.1, ?_⟩, rfl⟩, by have := hg1.lt; omega⟩
    rcases ho.2 with h | ⟨r, cap, cur, rfl, h1, h2, h3⟩
    · exact .inl h
    · exact .inr ⟨r, cap, cur, rfl, h1, (hk r (.inr rfl)).trans h2, h3⟩
theorem foldl_snd (l : List (Int × Int)) : ∀ s : List Int, l.foldl (fun s a => s ++ [a.2]) s = s ++ l.map Prod.snd := by
  induction l with
  | nil => intro s; simp
  | cons a l ih => intro s; simp [ih]
theorem TextL.tags {w : World} {D : Nat → Prop} {g : Nat} {enc lim : Int} {ds ats : List (Int × Int)} (h : TextL w D g enc lim ds ats) : TextTag w D g enc ats := by
  obtain ⟨t, a, add, h, _, e⟩ := h
  exact ⟨lim, t, a, add, h, e⟩
theorem TextL.more {w : World} {D D' : Nat → Prop} {g : Nat} {enc lim : Int} {ds ats : List (Int × Int)} (h : TextL w D g enc lim ds ats) (hD : ∀ b, D b → b < w.heap.size → D' b) : TextL w D' g enc lim ds ats := by
  obtain ⟨t, a, add, h, e⟩ := h
  exact ⟨t, a, add, ⟨h.blk, h.enc4, h.node, h.len, h.tot, h.ok, fun p hp => Reads.more (h.bts p hp) hD (by decide)⟩, e⟩
set_option maxRecDepth 100000 in
set_option maxHeartbeats 1000000 in
theorem ttags_any (D : Nat → Prop) (g : Nat) (enc lim : Int) (ds ats : List (Int × Int)) (f tt : Int) (w : World) (h : TextL w D g enc lim ds ats) (f0 : -2147483648 ≤ f) (t0 : tt ≤ 2147483648) :
    Calls Tryz.prog 22 #[.pointer (some ⟨g, 0, none⟩), .int .i64 f, .int .i64 tt] w fun e w' => NewInts (seg f tt (ats.map Prod.snd)) w e w' := by
  have hW : Below w.heap.size w (w.alloc (.cells #[.slice none 0 0] 38)) := balloc (Below.refl _ w)
  have ht := ((h.more (D' := fun b => b < w.heap.size) (fun b _ h => h)).below hW).tags
  have hc := twalk_any 38 #[.pointer (some ⟨w.heap.size, 0, none⟩)] (fun (s : List Int) X w' => SeeJ w.heap.size w.heap.size s X w' ∧ w.heap.size ≤ w'.heap.size) (fun s _ t => s ++ [t]) List.length (seeT_sees _ _ (Nat.le_refl _))
    (fun b => b < w.heap.size) g enc ats f tt [] (fun b => b = w.heap.size ∨ (Value.slice none 0 0).ownBlock = some b) _ ht (fun b hb _ hx => by rcases hx with rfl | hx; exact absurd hb (Nat.lt_irrefl _); simp [Value.ownBlock] at hx)
    ⟨⟨_, Blk.new w _ _, ⟨rfl, .inl ⟨rfl, rfl⟩⟩, rfl⟩, by simp⟩ (by simp) f0 t0
  rw [foldl_snd, seg_map, List.nil_append] at hc
  obtain ⟨L, hL⟩ : ∃ L, seg f tt (ats.map Prod.snd) = L := ⟨_, rfl⟩
  rw [hL] at hc ⊢
  have HC := Lib.hid hc
  clear hc hL
  go_enter Tryz.func22, Tryz.ntmps22
  go_wp2_with fail
  refine (HC.out).mono ?_
  rintro e w1 ⟨rfl, ⟨X', ⟨⟨v, hb, ho, rfl⟩, hs⟩, hx⟩, hf⟩
  have c0 := hb.cell 0
  simp at c0
  have HO := Lib.hid ho
  have hfin : Below w.heap.size w w1 := bfr hW hf (fun b hb => by rcases hb with rfl | hb; exact Nat.le_refl _; simp [Value.ownBlock] at hb)
  clear ho hx
  go_wp2_with fail
  go_ret
  exact ⟨v, rfl, HO.out, hfin⟩
end Go.Proofs.YtcdhfmkfkhhnoaaGreat
