/-
  What edits make of a text (plain).
-/
import Derived.Test.YtflhiohjikgedaaGreatDoorLRefuse
set_option linter.unusedSimpArgs false
set_option linter.unusedVariables false
set_option maxRecDepth 100000
set_option maxHeartbeats 32000000
namespace Go.Proofs.YtflhiohjikgedaaGreatDoor
open Go.RowKit
def ed1 {α : Type} (f : Int -> α) (e : Ed) (l : List α) : List α := l.take e.f.toNat ++ e.put.map f ++ l.drop e.t.toNat
def edL {α : Type} (f : Int -> α) (es : List Ed) (l : List α) : List α := es.foldr (ed1 f) l
def edD (enc : Int) : List Ed -> List (Int × Int) -> List (Int × Int) := edL (fun x => (x, szA enc x))
def edA : List Ed -> List (Int × Int) -> List (Int × Int) := edL (fun x => (x, -1))
theorem edL_cons {α : Type} (f : Int -> α) (e : Ed) (es : List Ed) (l : List α) : edL f (e :: es) l = ed1 f e (edL f es l) := rfl
theorem edL_take {α : Type} (f : Int -> α) : ∀ (es : List Ed) (a : Int) (l : List α), ordF a l.length es = true -> 0 <= a -> a <= l.length -> (edL f es l).take a.toNat = l.take a.toNat := by
 intro es
 induction es with
 | nil => intro a l _ _ _; rfl
 | cons e r ih =>
  intro a l h h0 h1
  have hm := ordF_mem (e :: r) a l.length h h0 e List.mem_cons_self
  unfold ordF at h
  split at h
  ·cases h
  ·have hi := ih e.t l h (by omega) (by omega)
   rw [edL_cons]
   unfold ed1
   have h2 : (edL f r l).take e.f.toNat = l.take e.f.toNat := by
    have := congrArg (List.take e.f.toNat) hi
    rw [List.take_take, List.take_take, Nat.min_eq_left (by omega)] at this
    exact this
   rw [h2, List.append_assoc, List.take_append_of_le_length (by rw [List.length_take]; omega), List.take_take, Nat.min_eq_left (by omega)]
theorem edL_len {α : Type} (f : Int -> α) (es : List Ed) (a : Int) (l : List α) (h : ordF a l.length es = true) (h0 : 0 <= a) (h1 : a <= l.length) : a <= (edL f es l).length := by
 have := congrArg List.length (edL_take f es a l h h0 h1)
 rw [List.length_take, List.length_take] at this
 omega
theorem ed1_none {α : Type} (f : Int -> α) (e : Ed) (l : List α) (h0 : 0 <= e.f) (h : e.f = e.t) (hp : e.put = []) : ed1 f e l = l := by
 unfold ed1
 rw [hp, <- h, List.map_nil, List.append_nil, List.take_append_drop]
def szS (l : List (Int × Int)) : Int := (l.map Prod.snd).sum
theorem szS_app (a b : List (Int × Int)) : szS (a ++ b) = szS a + szS b := by unfold szS; rw [List.map_append, List.sum_append]
theorem szS_split (l : List (Int × Int)) (k : Nat) : szS l = szS (l.take k) + szS (l.drop k) := by rw [<- szS_app, List.take_append_drop]
theorem szS_pos {l : List (Int × Int)} (h : PosD l) : 0 <= szS l := by
 have h1 := sumsOf_good' h
 obtain ⟨⟨_, _, h4, _⟩, _, h5⟩ := h1
 unfold szS
 omega
theorem szS_mono {l : List (Int × Int)} (h : PosD l) (a b : Nat) (hab : a <= b) : szS (l.take a) <= szS (l.take b) := by
 have e : (l.take b).take a = l.take a := by rw [List.take_take, Nat.min_eq_left hab]
 have := szS_split (l.take b) a
 rw [e] at this
 have h2 := szS_pos ((h.take b).drop a)
 omega
theorem szS_bytes {l : List (Int × Int)} (h : PosD l) (k : Nat) : (sumsOf (l.take k)).bytes = szS (l.take k) := (sumsOf_good' (h.take k)).2.2
theorem rem1_sz {l : List (Int × Int)} (h : PosD l) (e : Ed) (hle : e.f <= e.t) : rem1 l e = szS (l.take e.t.toNat) - szS (l.take e.f.toNat) := by
 unfold rem1
 split
 ·rw [szS_bytes h, szS_bytes h]
 ·have : e.f = e.t := by omega
  rw [this]
  omega
theorem remB_le {l : List (Int × Int)} (hp : PosD l) : ∀ (es : List Ed) (a : Int), ordF a l.length es = true -> 0 <= a -> remB l es <= szS l - szS (l.take a.toNat) := by
 intro es
 induction es with
 | nil =>
  intro a _ _
  have := szS_split l a.toNat
  have := szS_pos (hp.drop a.toNat)
  unfold remB
  simp
  omega
 | cons e r ih =>
  intro a h h0
  have hm := ordF_mem (e :: r) a l.length h h0 e List.mem_cons_self
  unfold ordF at h
  split at h
  ·cases h
  ·have h1 := ih e.t h (by omega)
   have h2 := rem1_sz hp e hm.2.1
   have h3 := szS_mono hp a.toNat e.f.toNat (by omega)
   unfold remB at h1 ⊢
   rw [List.map_cons, List.sum_cons]
   omega
theorem withSz_sz (enc : Int) (xs : List Int) : szS (xs.map fun x => (x, szA enc x)) = szL_ enc xs := by
 unfold szS szL_
 rw [List.map_map]
 rfl
theorem edD_sz {enc : Int} {l : List (Int × Int)} (hp : PosD l) : ∀ (es : List Ed) (a : Int), ordF a l.length es = true -> 0 <= a -> szS (edD enc es l) = szS l + putB enc es - remB l es := by
 intro es
 induction es with
 | nil => intro a _ _; simp [edD, edL, putB, remB]
 | cons e r ih =>
  intro a h h0
  have hm := ordF_mem (e :: r) a l.length h h0 e List.mem_cons_self
  unfold ordF at h
  split at h
  ·cases h
  ·have h1 := ih e.t h (by omega)
   have h2 := rem1_sz hp e hm.2.1
   have h3 : (edD enc r l).take e.t.toNat = l.take e.t.toNat := edL_take _ r e.t l h (by omega) hm.2.2
   have h4 : (edD enc r l).take e.f.toNat = l.take e.f.toNat := by
    have := congrArg (List.take e.f.toNat) h3
    rw [List.take_take, List.take_take, Nat.min_eq_left (by omega)] at this
    exact this
   have h5 := szS_split (edD enc r l) e.t.toNat
   have e1 : edD enc (e :: r) l = ed1 (fun x => (x, szA enc x)) e (edD enc r l) := rfl
   rw [e1]
   unfold ed1
   rw [szS_app, szS_app, withSz_sz, h4]
   unfold putB remB at h1 ⊢
   rw [List.map_cons, List.sum_cons, List.map_cons, List.sum_cons]
   rw [h3] at h5
   omega
theorem fitF_mem {enc : Int} {es : List Ed} (h : fitF enc es = true) : ∀ e ∈ es, Fit enc e.put := by
 intro e he x hx
 unfold fitF at h
 have h1 := List.all_eq_true.1 h e he
 unfold fitP at h1
 have h2 := List.all_eq_true.1 h1 x hx
 have h3 := szA_ge enc x
 simp at h2
 omega
theorem szL_ge (enc : Int) (xs : List Int) (h : Fit enc xs) : (xs.length : Int) <= szL_ enc xs := by
 unfold szL_
 induction xs with
 | nil => simp
 | cons a xs ih =>
  have h1 := h a List.mem_cons_self
  have h2 := ih (fun x hx => h x (List.mem_cons_of_mem _ hx))
  simp only [List.map_cons, List.sum_cons, List.length_cons]
  omega
theorem putB_mem (enc : Int) (es : List Ed) : ∀ e ∈ es, szL_ enc e.put <= putB enc es := by
 induction es with
 | nil => intro e he; cases he
 | cons x r ih =>
  intro e he
  have h1 := szL_bd enc x.put
  have h2 := putB_bd enc r
  have e1 : putB enc (x :: r) = szL_ enc x.put + putB enc r := by unfold putB; simp
  rcases List.mem_cons.1 he with rfl | he
  ·omega
  ·have := ih e he; omega
theorem ordF_drop : ∀ (es : List Ed) (a size : Int) (i : Nat) (e : Ed), ordF a size es = true -> es[i]? = some e -> ordF e.t size (es.drop (i + 1)) = true := by
 intro es
 induction es with
 | nil => intro _ _ i e _ h; simp at h
 | cons x r ih =>
  intro a size i e h hi
  unfold ordF at h
  split at h
  ·cases h
  ·cases i with
   | zero =>
    simp at hi
    subst hi
    exact h
   | succ i => exact ih x.t size i e h (by simpa using hi)
theorem remB_ge {l : List (Int × Int)} (hp : PosD l) : ∀ (es : List Ed) (a : Int), ordF a l.length es = true -> 0 <= a -> 0 <= remB l es := by
 intro es
 induction es with
 | nil => intro a _ _; simp [remB]
 | cons e r ih =>
  intro a h h0
  have hm := ordF_mem (e :: r) a l.length h h0 e List.mem_cons_self
  unfold ordF at h
  split at h
  ·cases h
  ·have h1 := ih e.t h (by omega)
   have h2 := rem1_sz hp e hm.2.1
   have h3 := szS_mono hp e.f.toNat e.t.toNat (by omega)
   unfold remB at h1 ⊢
   rw [List.map_cons, List.sum_cons]
   omega
theorem putB_cons (enc : Int) (e : Ed) (es : List Ed) : putB enc (e :: es) = szL_ enc e.put + putB enc es := by unfold putB; simp
theorem putB_drop (enc : Int) (es : List Ed) (k : Nat) : putB enc (es.drop k) <= putB enc es := by
 have e : putB enc es = putB enc (es.take k) + putB enc (es.drop k) := by
  conv => lhs; rw [<- List.take_append_drop k es]
  unfold putB
  rw [List.map_append, List.sum_append]
 have := (putB_bd enc (es.take k)).1
 omega
theorem putL_sz (enc : Int) (xs : List Int) (h : Fit enc xs) : ((putL enc xs).length : Int) = szL_ enc xs := by
 rw [putL_len enc xs h]
 unfold withSz szL_
 rw [List.map_map]
 rfl
theorem refF_ok {enc lim : Int} {ds : List (Int × Int)} {es : List Ed} (hp : PosD ds) (h : refF enc lim ds es = 0) (hl : lim <= 65536) (hs : szS ds <= 65536) :
  es.length <= 70000 /\ ordF 0 ds.length es = true /\ fitF enc es = true /\ putB enc es <= 131072 /\ szS (edD enc es ds) <= lim := by
 unfold refF at h
 split at h
 ·cases h
 ·rename_i h1
  split at h
  ·cases h
  ·rename_i h2
   split at h
   ·cases h
   ·rename_i h3
    split at h
    ·cases h
    ·rename_i h4
     have h2' : ordF 0 ds.length es = true := by simpa using h2
     have h3' : fitF enc es = true := by simpa using h3
     have h5 := edD_sz (enc := enc) hp es 0 h2' (Int.le_refl _)
     have h6 := remB_le hp es 0 h2' (Int.le_refl _)
     have h7 : (sumsOf ds).bytes = szS ds := (sumsOf_good' hp).2.2
     have h8 : szS (ds.take (0 : Int).toNat) = 0 := by simp [szS]
     rw [h7] at h4
     exact ⟨by omega, h2', h3', by omega, by omega⟩
end Go.Proofs.YtflhiohjikgedaaGreatDoor
