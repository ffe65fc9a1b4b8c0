/-
  What Text.walk goes through, as plain functions; what is asked of the function that it calls. Pieces that lie in one block of bytes, one behind the other. (Plain.)
-/
import Derived.Test.YtcdhfmkfkhhnoaaGreatLText
import Derived.Test.YtcdhfmkfkhhnoaaGreatLItems3
import Derived.Test.YtcdhfmkfkhhnoaaGreatLCutLaw
import Derived.Laws.CopyOwn
import Derived.OwnWalk
import Derived.Maps.AppendAt
set_option linter.unusedSimpArgs false
set_option linter.unusedVariables false
namespace Go.Proofs.YtcdhfmkfkhhnoaaGreat
open Go.RowKit

/-- atoms with their tags -/
def tagF (tag : Int) : Int → List (Int × Int) → List (Int × Int)
  | _, [] => []
  | off, d :: r => (d.1, if tag < 0 then -1 else tag + off) :: tagF tag (off + d.2) r
theorem tagF_fst (tag : Int) (ds : List (Int × Int)) : ∀ off, (tagF tag off ds).map Prod.fst = ds.map Prod.fst := by
  induction ds with
  | nil => intro off; rfl
  | cons d ds ih => intro off; simp only [tagF, List.map_cons, ih]
theorem tagF_len (tag off : Int) (ds : List (Int × Int)) : (tagF tag off ds).length = ds.length := by
  have := congrArg List.length (tagF_fst tag ds off)
  simpa using this
def atsP (enc : Int) (p : Pc) : List (Int × Int) := tagF p.tag 0 (dec enc p.bytes)
def atsL (enc : Int) (ps : List Pc) : List (Int × Int) := ps.flatMap (atsP enc)
theorem atsL_app (enc : Int) (a b : List Pc) : atsL enc (a ++ b) = atsL enc a ++ atsL enc b := by unfold atsL; rw [List.flatMap_append]
theorem atsL_one (enc : Int) (a : Pc) : atsL enc [a] = atsP enc a := by simp [atsL]
theorem atsL_fst (enc : Int) (ps : List Pc) : (atsL enc ps).map Prod.fst = (decL enc ps).map Prod.fst := by
  induction ps with
  | nil => rfl
  | cons p ps ih =>
    rw [decL_cons, List.map_append, ← ih]
    show (atsP enc p ++ atsL enc ps).map Prod.fst = _
    rw [List.map_append]
    unfold atsP
    rw [tagF_fst]
theorem atsL_len (enc : Int) (ps : List Pc) : (atsL enc ps).length = (decL enc ps).length := by
  have := congrArg List.length (atsL_fst enc ps)
  simpa using this

/-- atoms go by: n are passed over, then 'left' are seen, and no more -/
def feed {σ : Type} (step : σ → Int → Int → σ) : Nat → Nat → σ → List (Int × Int) → Bool × Nat × Nat × σ
  | n, left, s, [] => (false, n, left, s)
  | n + 1, left, s, _ :: r => feed step n left s r
  | 0, left, s, a :: r => if left ≤ 1 then (true, 0, 0, step s a.1 a.2) else feed step 0 (left - 1) (step s a.1 a.2) r
section
variable {σ : Type} {step : σ → Int → Int → σ}
theorem feed_app (xs ys : List (Int × Int)) : ∀ (n left : Nat) (s : σ), feed step n left s (xs ++ ys) = if (feed step n left s xs).1 = true then feed step n left s xs else feed step (feed step n left s xs).2.1 (feed step n left s xs).2.2.1 (feed step n left s xs).2.2.2 ys := by
  induction xs with
  | nil => intro n left s; simp [feed]
  | cons a xs ih =>
    intro n left s
    cases n with
    | succ n => simp only [List.cons_append, feed]; exact ih n left s
    | zero =>
      simp only [List.cons_append, feed]
      split
      · simp
      · exact ih 0 (left - 1) _
theorem feed_val (xs : List (Int × Int)) : ∀ (n left : Nat) (s : σ), 1 ≤ left → (feed step n left s xs).2.2.2 = ((xs.drop n).take left).foldl (fun s a => step s a.1 a.2) s := by
  induction xs with
  | nil => intro n left s _; simp [feed]
  | cons a xs ih =>
    intro n left s hl
    cases n with
    | succ n => simp only [feed, List.drop_succ_cons]; exact ih n left s hl
    | zero =>
      simp only [feed, List.drop_zero]
      split
      · rw [show left = 1 by omega]; simp
      · rw [show left = (left - 1) + 1 by omega, List.take_succ_cons, List.foldl_cons, Nat.add_sub_cancel]
        have := ih 0 (left - 1) (step s a.1 a.2) (by omega)
        simpa using this
theorem feed_stop (xs ys : List (Int × Int)) (n left : Nat) (s : σ) (h : (feed step n left s xs).1 = true) : feed step n left s (xs ++ ys) = feed step n left s xs := by
  rw [feed_app, if_pos h]
theorem feed_go (xs ys : List (Int × Int)) (n left n' left' : Nat) (s s' : σ) (h : feed step n left s xs = (false, n', left', s')) : feed step n left s (xs ++ ys) = feed step n' left' s' ys := by
  rw [feed_app, h]
  simp
end
/-- a part of a list -/
def seg {α : Type} (f t : Int) (l : List α) : List α := (l.drop f.toNat).take (t.toNat - f.toNat)
theorem seg_map {α β : Type} (f t : Int) (l : List α) (h : α → β) : (seg f t l).map h = seg f t (l.map h) := by unfold seg; rw [List.map_take, List.map_drop]

/-- what is asked of a function that sees atoms: 'J s X w': s is what its cells hold, which are the blocks X -/
structure Sees (F : FuncId) (caps : Array Value) {σ : Type} (J : σ → (Nat → Prop) → World → Prop) (step : σ → Int → Int → σ) (size : σ → Nat) : Prop where
  rises : ∀ s a g, size (step s a g) ≤ size s + 1
  call : ∀ s X a g w, J s X w → size s ≤ 2147483648 → Calls Tryz.prog F (#[.int .i64 a, .int .i64 g] ++ caps) w fun e w' => e = .returned (.tuple #[]) ∧ (∃ X', J (step s a g) X' w' ∧ ∀ b, X' b → X b ∨ w.heap.size ≤ b) ∧ Fr X w w'
  enter : ∀ args w, (callFunc F args).run Tryz.prog w = .ok (.enter F args) w
  kind : ∀ s X w b, J s X w → X b → ∃ cs T, Blk w b T cs ∧ (T = 3 ∨ T = 38)
  keep : ∀ s X w w', J s X w → (∀ b, X b → w'.heap[b]? = w.heap[b]?) → J s X w'
def SeenPost {σ : Type} (J : σ → (Nat → Prop) → World → Prop) (s : σ) (X : Nat → Prop) (w : World) (e : Ending) (w' : World) : Prop := e = .returned (.tuple #[]) ∧ (∃ X', J s X' w' ∧ ∀ b, X' b → X b ∨ w.heap.size ≤ b) ∧ Fr X w w'
end Go.Proofs.YtcdhfmkfkhhnoaaGreat
namespace Go.Proofs.YtcdhfmkfkhhnoaaGreat
open Go.RowKit

theorem szs_step (enc : Int) (n : Nat) : ∀ l : List Int, szs enc l n < l.length → szs enc l (n + 1) = szs enc l n + sizeAt enc (l.drop (szs enc l n).toNat) := by
  induction n with
  | zero =>
    intro l h
    rw [szs_zero] at h ⊢
    rw [szs_succ enc l 0 (by omega), szs_zero]
    simp
  | succ n ih =>
    intro l h
    have h0 : 0 < l.length := by have := szs_bd enc (n + 1) l; omega
    have hz := sizeAt_bd enc l h0
    rw [szs_succ enc l n h0] at h ⊢
    rw [szs_succ enc l (n + 1) h0]
    have hb := szs_bd enc n (l.drop (sizeAt enc l).toNat)
    have hl : ((l.drop (sizeAt enc l).toNat).length : Int) = l.length - sizeAt enc l := by rw [List.length_drop]; omega
    rw [ih _ (by omega), List.drop_drop, show (sizeAt enc l + szs enc (l.drop (sizeAt enc l).toNat) n).toNat = (sizeAt enc l).toNat + (szs enc (l.drop (sizeAt enc l).toNat) n).toNat by omega]
    omega
theorem dec_split (enc : Int) (n : Nat) (l : List Int) : dec enc (l.take (szs enc l n).toNat) ++ dec enc (l.drop (szs enc l n).toNat) = dec enc l := by
  rw [dec_take, dec_drop, List.take_append_drop]
theorem sum_dec (enc : Int) : ∀ (k : Nat) (l : List Int), l.length ≤ k → ((dec enc l).map Prod.snd).sum = (l.length : Int) := by
  intro k
  induction k with
  | zero =>
    intro l h
    have e : l = [] := List.eq_nil_of_length_eq_zero (by omega)
    rw [e]; rfl
  | succ k ih =>
    intro l h
    by_cases h0 : 0 < l.length
    · have hz := sizeAt_bd enc l h0
      rw [dec_cons enc l h0, List.map_cons, List.sum_cons, ih _ (by rw [List.length_drop]; omega), List.length_drop]
      omega
    · have e : l = [] := List.eq_nil_of_length_eq_zero (by omega)
      rw [e]; rfl
theorem sumsOf_bytes (enc : Int) (l : List Int) : (sumsOf (dec enc l)).bytes = (l.length : Int) := by
  rw [(sumsOf_good' (dec_pos enc l)).2.2, sum_dec enc l.length l (Nat.le_refl _)]
/-- a piece of the bytes l in block g -/
def PcIn (g : Nat) (l : List Int) (p : Pc) : Prop := ∃ off, p.A = some ⟨g, off, none⟩ ∧ p.bytes = (l.drop off).take p.n ∧ off + p.n ≤ l.length
theorem PcIn.bts {g : Nat} {l : List Int} {p : Pc} {w : World} {T : TypeId} (h : PcIn g l p) (hb : Blk w g T (l.map (Value.int .u8)).toArray) : Bts w (· = g) p.A p.n p.bytes := by
  obtain ⟨off, hA, hB, hl⟩ := h
  refine ⟨by rw [hB]; simp; omega, fun _ => ⟨_, hA, rfl, fun j u hu => ?_⟩⟩
  have e : (⟨g, off, none⟩ : Addr).add j = ⟨g, off + j, none⟩ := by
    by_cases hj : j = 0
    · subst hj; rw [add_zero]; rfl
    · rw [add_pos _ _ (by omega)]
  rw [e, hb.cell]
  rw [hB, List.getElem?_map, List.getElem?_take] at hu
  rw [List.getElem?_toArray, List.getElem?_map]
  split at hu
  · rw [List.getElem?_drop] at hu
    exact hu
  · simp at hu
theorem tagF_app (tag : Int) (a b : List (Int × Int)) : ∀ off, tagF tag off (a ++ b) = tagF tag off a ++ tagF tag (off + (a.map Prod.snd).sum) b := by
  induction a with
  | nil => intro off; simp [tagF]
  | cons d a ih =>
    intro off
    simp only [List.cons_append, tagF, List.map_cons, List.sum_cons]
    rw [ih, Int.add_assoc]
theorem tagF_shift {p : Int} (ds : List (Int × Int)) (hp : 0 ≤ p) : ∀ off, tagF p off ds = tagF 0 (p + off) ds := by
  induction ds with
  | nil => intro off; rfl
  | cons d ds ih =>
    intro off
    simp only [tagF]
    rw [ih, if_neg (by omega), if_neg (by omega), Int.zero_add, Int.add_assoc]
/-- what the rounds of Open keep -/
structure OpenOk (enc : Int) (l : List Int) (g : Nat) (p : Nat) (ps : List Pc) : Prop where
  le : p ≤ l.length
  ok : ∀ x ∈ ps, PcOk enc x
  in_ : ∀ x ∈ ps, PcIn g l x
  tot : totB ps = p
  len : ps.length ≤ p
  all : decL enc ps ++ dec enc (l.drop p) = dec enc l
  tg : atsL enc ps = tagF 0 0 (decL enc ps)
theorem OpenOk.start (enc : Int) (l : List Int) (g : Nat) : OpenOk enc l g 0 [] :=
  ⟨Nat.zero_le _, fun x h => absurd h (by simp), fun x h => absurd h (by simp), rfl, Nat.le_refl _, by simp [decL], rfl⟩
def pcOf (enc : Int) (l : List Int) (g p m : Nat) : Pc := ⟨some ⟨g, p, none⟩, m, m, (p : Int), sumsOf (dec enc ((l.drop p).take m)), (l.drop p).take m⟩
theorem OpenOk.step {enc : Int} {l : List Int} {g p m k : Nat} {ps : List Pc} (h : OpenOk enc l g p ps) (hB : Byt l) (hm : (m : Int) = szs enc (l.drop p) k) (h0 : 0 < m) (hl : p + m ≤ l.length) (hn : l.length ≤ 1073741824) :
    OpenOk enc l g (p + m) (ps ++ [pcOf enc l g p m]) := by
  have hlen : ((l.drop p).take m).length = m := by simp; omega
  refine ⟨hl, ?_, ?_, ?_, ?_, ?_, ?_⟩
  · intro x hx
    rcases List.mem_append.1 hx with hx | hx
    · exact h.ok x hx
    · rw [List.mem_singleton] at hx
      subst hx
      exact ⟨(hB.drop _).take _, hlen, h0, show m ≤ _ by omega, Nat.le_refl _, show (-1 : Int) ≤ (p : Int) by omega, show (p : Int) ≤ _ by omega, rfl⟩
  · intro x hx
    rcases List.mem_append.1 hx with hx | hx
    · exact h.in_ x hx
    · rw [List.mem_singleton] at hx
      subst hx
      exact ⟨p, rfl, rfl, hl⟩
  · rw [totB_app, h.tot, totB_cons]
    simp only [pcOf, sumsOf_bytes, hlen, totB, List.map_nil, List.sum_nil]
    omega
  · have := h.len
    simp
    omega
  · have e := dec_split enc k (l.drop p)
    rw [← hm, List.drop_drop] at e
    simp only [Int.toNat_natCast] at e
    rw [← h.all, ← e, decL_app, decL_cons, show decL enc [] = [] from rfl, List.append_nil, List.append_assoc]
    rfl
  · have e1 : ((decL enc ps).map Prod.snd).sum = (p : Int) := by
      have h1 := (sumsOf_good' (decL_pos enc ps)).2.2
      rw [← sumL_dec h.ok, (sumL_good (allGood_of h.ok)).2, h.tot] at h1
      exact h1.symm
    rw [atsL_app, atsL_one, decL_app, decL_cons, show decL enc [] = [] from rfl, List.append_nil, tagF_app, h.tg, e1, Int.zero_add]
    show _ ++ tagF (p : Int) 0 _ = _
    rw [tagF_shift (p := (p : Int)) _ (by omega), Int.add_zero]
/-- a text, with its limit, its atoms and their sizes, its atoms and their tags -/
def TextL (w : World) (D : Nat → Prop) (g : Nat) (enc lim : Int) (ds ats : List (Int × Int)) : Prop := ∃ t a add, TextIn w D g enc lim t a add ∧ decL enc t.list = ds ∧ atsL enc t.list = ats
theorem TextL.at_ {w : World} {D : Nat → Prop} {g : Nat} {enc lim : Int} {ds ats : List (Int × Int)} (h : TextL w D g enc lim ds ats) : TextAt w D g enc ds := by
  obtain ⟨t, a, add, h, e, _⟩ := h
  exact ⟨lim, t, a, add, h, e⟩
theorem TextL.below {w w' : World} {D : Nat → Prop} {g : Nat} {enc lim : Int} {ds ats : List (Int × Int)} (h : TextL w D g enc lim ds ats) (hb : Below w.heap.size w w') : TextL w' D g enc lim ds ats := by
  obtain ⟨t, a, add, h, e⟩ := h
  exact ⟨t, a, add, h.below hb, e⟩
theorem OpenOk.good {enc : Int} {l : List Int} {g p : Nat} {ps : List Pc} (h : OpenOk enc l g p ps) : AllGood ps := allGood_of h.ok
theorem OpenOk.text {enc lim : Int} {l : List Int} {g g2 : Nat} {ps : List Pc} {w : World} {D : Nat → Prop} {T : TypeId} {a : Option Addr} {add : Value} (h : OpenOk enc l g l.length ps) (hl : l.length ≤ 1073741824)
    (he : enc = 1 ∨ enc = 2 ∨ enc = 3 ∨ enc = 4) (hb : Blk w g T (l.map (Value.int .u8)).toArray) (hD : D g) (ht : Blk w g2 117 #[.int .i64 enc, .int .i64 lim, .pointer a, add]) (hn : NodeAt w (btF ps.length ps) a) :
    TextL w D g2 enc lim (dec enc l) (tagF 0 0 (dec enc l)) := by
  have e := btF_list ps.length ps (Nat.le_refl _)
  have hall := h.all
  rw [List.drop_length, dec_nil, List.append_nil] at hall
  refine ⟨btF ps.length ps, a, add, ⟨ht, he, hn, ?_, ?_, ?_, ?_⟩, ?_, ?_⟩
  · rw [e]; have := h.len; omega
  · rw [e, h.tot]; omega
  · rw [e]; exact h.ok
  · rw [e]
    intro p hp
    exact Reads.more ((h.in_ p hp).bts hb) (fun b hb _ => hb ▸ hD) (by decide)
  · rw [e]
    exact hall
  · rw [e, h.tg, hall]
theorem cells_new (w : World) (t : TypeId) (cs : Array Value) : ∀ j u, cs.toList[j]? = some u → (w.alloc (.cells cs t)).cell? ((⟨w.heap.size, 0, none⟩ : Addr).add j) = some u := by
  intro j u hu
  have e : (⟨w.heap.size, 0, none⟩ : Addr).add j = ⟨w.heap.size, j, none⟩ := by
    by_cases hj : j = 0
    · subst hj; rw [add_zero]
    · rw [add_pos _ _ (by omega)]; simp
  rw [e, (Blk.new w t cs).cell]
  simpa using hu
end Go.Proofs.YtcdhfmkfkhhnoaaGreat
