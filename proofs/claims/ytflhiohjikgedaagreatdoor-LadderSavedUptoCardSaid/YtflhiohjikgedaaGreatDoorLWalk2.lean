/-
  Text.walk, and Atoms.
-/
import Derived.Test.YtflhiohjikgedaaGreatDoorLWalk
import Derived.Maps.AppendAt
set_option linter.unusedSimpArgs false
set_option linter.unusedVariables false
set_option maxRecDepth 100000
set_option maxHeartbeats 32000000
namespace Go.Proofs.YtflhiohjikgedaaGreatDoor
open Go.RowKit
theorem twalk_none (D : Nat -> Prop) (g : Nat) (enc : Int) (ds : List (Int × Int)) (F : FuncId) (caps : Array Value) (f tt : Int) (w : World) (h : TextAt w D g enc ds) (hft : min tt ds.length <= max f 0) :
  Calls Tryz.prog 45 #[.pointer (some ⟨g, 0, none⟩), .int .i64 f, .int .i64 tt, .func (.func F) #[] caps] w fun e w' => e = .returned (.tuple #[]) /\ Below w.heap.size w w' := by
 obtain ⟨W1, hW1⟩ : ∃ W1, (w.alloc (.cells #[.pointer (some ⟨g, 0, none⟩)] 39)).alloc (.cells #[.func (.func F) #[] caps] 111) = W1 := ⟨_, rfl⟩
 have hb1 : Below w.heap.size w W1 := by rw [<- hW1]; exact balloc (balloc (Below.refl _ w))
 have b4 : Blk W1 w.heap.size 39 #[.pointer (some ⟨g, 0, none⟩)] := by rw [<- hW1]; exact (Blk.new w _ _).alloc _
 have hl := len_any D g enc _ W1 (h.below hb1)
 have hdl := h.len
 obtain ⟨n, hnn⟩ : ∃ n, ds.length = n := ⟨_, rfl⟩
 rw [hnn] at hl hdl hft
 have HW1 := Lib.hid hW1
 have HL := Lib.hid hl
 clear hW1 hl hnn
 go_enter Tryz.func45, Tryz.ntmps45
 go_upto_region 1 with fail
 have e1 := HW1.out
 rw [e1]
 clear e1 HW1
 go_cut [1, 2] (fun q1 q2 wx => q1 = .int .i64 (max f 0) /\ q2 = .int .i64 (min tt n) /\ Below w.heap.size w wx)
 case first =>
  have c4 := b4.cell 0
  simp at c4
  by_cases q0 : f < 0 <;> by_cases q1 : tt <= n
  all_goals
   go_wp2_with fail
   refine (HL.out).mono ?_
   rintro e w1 ⟨rfl, hb2⟩
   go_wp2_with fail
   go_meet
   exact ⟨ret_v (by omega), ret_v (by omega), bseq hb1 hb2⟩
 case rest =>
  obtain ⟨rfl, rfl, hb2⟩ := hcut
  obtain ⟨m1, hm1⟩ : ∃ m1, max f 0 = m1 := ⟨_, rfl⟩
  obtain ⟨m2, hm2⟩ : ∃ m2, min tt (n : Int) = m2 := ⟨_, rfl⟩
  rw [hm1, hm2] at hft ⊢
  clear hm1 hm2
  go_wp2_with fail
  exact bodyPost_ret (results_none rfl _ _ _) rfl ⟨rfl, hb2⟩
theorem seg_none {α : Type} (f tt : Int) (l : List α) (h : min tt (l.length : Int) <= max f 0) : seg f tt l = [] := by
 unfold seg
 by_cases h1 : tt <= max f 0
 ·rw [show tt.toNat - f.toNat = 0 by omega, List.take_zero]
 ·rw [List.drop_eq_nil_of_le (by omega), List.take_nil]
def TextTag (w : World) (D : Nat -> Prop) (g : Nat) (enc : Int) (ats : List (Int × Int)) : Prop := ∃ lim t a add, TextIn w D g enc lim t a add /\ atsL enc t.list = ats
theorem TextAt.tags {w : World} {D : Nat -> Prop} {g : Nat} {enc : Int} {ds : List (Int × Int)} (h : TextAt w D g enc ds) : ∃ ats, TextTag w D g enc ats /\ ats.map Prod.fst = ds.map Prod.fst := by
 obtain ⟨lim, t, a, add, h, rfl⟩ := h
 exact ⟨_, ⟨lim, t, a, add, h, rfl⟩, atsL_fst _ _⟩
theorem twalk_any {σ : Type} (F : FuncId) (caps : Array Value) (J : σ -> (Nat -> Prop) -> World -> Prop) (step : σ -> Int -> Int -> σ) (size : σ -> Nat) (hS : Sees F caps J step size) (D : Nat -> Prop) (g : Nat) (enc : Int) (ats : List (Int × Int)) (f tt : Int)
  (s0 : σ) (X0 : Nat -> Prop) (w : World) (h : TextTag w D g enc ats) (hD : ∀ b, D b -> b < w.heap.size -> ¬ X0 b) (hj : J s0 X0 w) (hs0 : size s0 <= 1000) (f0 : -2147483648 <= f) (t0 : tt <= 2147483648) :
  Calls Tryz.prog 45 #[.pointer (some ⟨g, 0, none⟩), .int .i64 f, .int .i64 tt, .func (.func F) #[] caps] w fun e w' => SeenPost J ((seg f tt ats).foldl (fun s a => step s a.1 a.2) s0) X0 w e w' := by
 obtain ⟨lim, t, a, add, h, rfl⟩ := h
 by_cases hft : max f 0 < min tt (decL enc t.list).length
 ·exact twalk_some F caps J step size hS D g enc lim t a add f tt s0 X0 w h hD hj hs0 f0 t0 hft
 ·refine (twalk_none D g enc _ F caps f tt w ⟨lim, t, a, add, h, rfl⟩ (by omega)).mono ?_
  rintro e w' ⟨rfl, hb⟩
  rw [seg_none f tt _ (by rw [atsL_len]; omega)]
  refine ⟨rfl, ⟨X0, ?_, fun b hb => .inl hb⟩, Fr.of_below hb⟩
  exact hS.keep _ _ _ _ hj (fun b hx => by obtain ⟨cs, T, hbk, _⟩ := hS.kind _ _ _ b hj hx; exact hb.block b hbk.lt)
def SeeJ (base g : Nat) (s : List Int) (X : Nat -> Prop) (w : World) : Prop := ∃ v, Blk w g 43 #[v] /\ w.ownsRow base 3 1 v s.length (s.map (Value.int .i64)) /\ X = fun b => b = g \/ v.ownBlock = some b
theorem atoms1_any (base g : Nat) (a tg : Int) (xs : List Int) (X : Nat -> Prop) (w : World) (h : SeeJ base g xs X w) (hg : base <= g) (hW : base <= w.heap.size) (hn : xs.length <= 2147483648) :
  Calls Tryz.prog 46 #[.int .i64 a, .int .i64 tg, .pointer (some ⟨g, 0, none⟩)] w fun e w' => SeenPost (SeeJ base g) (xs ++ [a]) X w e w' := by
 obtain ⟨v, hb, ho, rfl⟩ := h
 obtain ⟨i0, hi, hz0, hz1, hz2⟩ := info_parts int_info
 have c0 := hb.cell 0
 have f0 := hb.frozen 0
 simp at c0
 have hglt := hb.lt
 go_enter Tryz.func46, Tryz.ntmps46
 go_wp2_with (at_builtin; refine wpList_append_own_at _ rfl (.tmp 5) (.tmp 7) 43 rfl base 3 i0 (.int .i64 0) 1 8 Tryz.underlying43 hi hz0 hz1 hz2 rfl (by decide) v xs.length _ rfl (ho.alloc _) ⟨w.heap.size, 0, none⟩ 1 1 [.int .i64 a] rfl rfl ?c1 ?c2 ?c3 ?c4 ?c5 ?_)
 case c1 => exact cell_one_new _ _ _
 case c2 => simp [Value.oneCell']
 case c3 => unfold maxLen; omega
 case c4 => omega
 case c5 => simp; omega
 intro v1 w1 hown1 hgr _ hat
 have hb1 : Blk w1 g 43 #[v] := (hb.alloc _).grown hgr (fun e => own_blk_ne ho hb (by decide) e.symm)
 have hfr : Fr (fun b => b = g \/ v.ownBlock = some b) w w1 := ((Fr.refl _ w).alloc _).grown hgr (fun r hr _ => .inr hr)
 have hnew : ∀ b, v1.ownBlock = some b -> v.ownBlock = some b \/ w.heap.size <= b := by
  intro b e
  rcases hat with h | h
  ·exact .inl (h.symm.trans e)
  ·rw [h] at e
   injection e with e
   exact .inr (by rw [<- e]; simp)
 have c1 := hb1.cell 0
 have f1 := hb1.frozen 0
 simp at c1
 clear c0 f0
 obtain ⟨r, cap, rfl, _, hrl⟩ := hown1.form (by omega)
 have HNW := Lib.hid hnew
 clear hnew hat
 go_wp2_with fail
 go_end0
 refine ⟨rfl, ⟨_, ⟨_, hb1.set_ 0 _, ?_, rfl⟩, ?_⟩, hfr.setCell (.inl (.inl rfl)) _⟩
 ·rw [List.length_append, List.map_append]
  exact ownsRow_setCell_other hown1 (own_blk_ne hown1 hb1 (by decide)) _
 ·rintro b (hb2 | hb2)
  ·exact .inl (.inl hb2)
  ·rcases HNW.out b hb2 with h3 | h3
   ·exact .inl (.inr h3)
   ·exact .inr h3
theorem seeJ_sees (base g : Nat) (hg : base <= g) : Sees 46 #[.pointer (some ⟨g, 0, none⟩)] (fun (s : List Int) X w => SeeJ base g s X w /\ base <= w.heap.size) (fun s a _ => s ++ [a]) List.length := by
 constructor
 ·intro s a _; simp
 ·rintro s X a tg w ⟨h, hb⟩ hn
  refine (atoms1_any base g a tg s X w h hg hb hn).mono ?_
  rintro e w' ⟨rfl, ⟨X', h1, h2⟩, h3⟩
  exact ⟨rfl, ⟨X', ⟨h1, Nat.le_trans hb h3.size⟩, h2⟩, h3⟩
 ·exact Tryz.call46
 ·rintro s X w b ⟨⟨v, hb, ho, rfl⟩, _⟩ (rfl | hx)
  ·exact ⟨_, _, hb, .inr rfl⟩
  ·rcases ho.2 with ⟨rfl, _⟩ | ⟨r, cap, cur, rfl, h1, h2, _⟩
   ·simp [Value.ownBlock] at hx
   ·have e : r = b := by simpa [Value.ownBlock] using hx
    subst e
    exact ⟨_, _, h2, .inl rfl⟩
 ·rintro s X w w' ⟨⟨v, hb, ho, rfl⟩, hbs⟩ hk
  have hg1 : Blk w' g 43 #[v] := (hk g (.inl rfl)).trans hb
  refine ⟨⟨v, hg1, ⟨ho.1, ?_⟩, rfl⟩, by have := hg1.lt; omega⟩
  rcases ho.2 with h | ⟨r, cap, cur, rfl, h1, h2, h3⟩
  ·exact .inl h
  ·exact .inr ⟨r, cap, cur, rfl, h1, (hk r (.inr rfl)).trans h2, h3⟩
theorem foldl_fst (l : List (Int × Int)) : ∀ s : List Int, l.foldl (fun s a => s ++ [a.1]) s = s ++ l.map Prod.fst := by
 induction l with
 | nil => intro s; simp
 | cons a l ih => intro s; simp [ih]
def NewInts (l : List Int) (w : World) (e : Ending) (w' : World) : Prop := ∃ v, e = .returned v /\ w'.ownsRow w.heap.size 3 1 v l.length (l.map (Value.int .i64)) /\ Below w.heap.size w w'
theorem tatoms_any (D : Nat -> Prop) (g : Nat) (enc : Int) (ds : List (Int × Int)) (f tt : Int) (w : World) (h : TextAt w D g enc ds) (f0 : -2147483648 <= f) (t0 : tt <= 2147483648) :
  Calls Tryz.prog 17 #[.pointer (some ⟨g, 0, none⟩), .int .i64 f, .int .i64 tt] w fun e w' => NewInts (seg f tt (ds.map Prod.fst)) w e w' := by
 have hW : Below w.heap.size w (w.alloc (.cells #[.slice none 0 0] 43)) := balloc (Below.refl _ w)
 obtain ⟨ats, ht, hfst⟩ := ((h.more (D' := fun b => b < w.heap.size) (fun b _ h => h)).below hW).tags
 have hc := twalk_any 46 #[.pointer (some ⟨w.heap.size, 0, none⟩)] (fun (s : List Int) X w' => SeeJ w.heap.size w.heap.size s X w' /\ w.heap.size <= w'.heap.size) (fun s a _ => s ++ [a]) List.length (seeJ_sees _ _ (Nat.le_refl _))
  (fun b => b < w.heap.size) g enc ats f tt [] (fun b => b = w.heap.size \/ (Value.slice none 0 0).ownBlock = some b) _ ht (fun b hb _ hx => by rcases hx with rfl | hx; exact absurd hb (Nat.lt_irrefl _); simp [Value.ownBlock] at hx)
  ⟨⟨_, Blk.new w _ _, ⟨rfl, .inl ⟨rfl, rfl⟩⟩, rfl⟩, by simp⟩ (by simp) f0 t0
 rw [foldl_fst, seg_map, hfst, List.nil_append] at hc
 obtain ⟨L, hL⟩ : ∃ L, seg f tt (ds.map Prod.fst) = L := ⟨_, rfl⟩
 rw [hL] at hc ⊢
 have HC := Lib.hid hc
 clear hc hL hfst
 go_enter Tryz.func17, Tryz.ntmps17
 go_wp2_with fail
 refine (HC.out).mono ?_
 rintro e w1 ⟨rfl, ⟨X', ⟨⟨v, hb, ho, rfl⟩, hs⟩, hx⟩, hf⟩
 have c0 := hb.cell 0
 simp at c0
 have HO := Lib.hid ho
 have hfin : Below w.heap.size w w1 := bfr hW hf (fun b hb => by rcases hb with rfl | hb; exact Nat.le_refl _; simp [Value.ownBlock] at hb)
 clear ho hx
 go_wp2_with fail
 go_ret
 exact ⟨v, rfl, HO.out, hfin⟩
end Go.Proofs.YtflhiohjikgedaaGreatDoor
