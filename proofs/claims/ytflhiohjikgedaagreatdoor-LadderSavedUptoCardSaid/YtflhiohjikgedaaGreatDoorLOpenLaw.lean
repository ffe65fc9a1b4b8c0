/-
  Bytes that are cut at an atom's end: their first atoms. (Plain.) Pieces that lie in one block of bytes, one behind the other. (Plain.)
-/
import Derived.Test.YtflhiohjikgedaaGreatDoorLText
import Derived.Test.YtflhiohjikgedaaGreatDoorLCore
import Derived.Laws.CopyOwn
import Derived.OwnWalk
import Derived.Maps.AppendAt
set_option linter.unusedSimpArgs false
set_option linter.unusedVariables false
set_option maxRecDepth 100000
set_option maxHeartbeats 32000000
namespace Go.Proofs.YtflhiohjikgedaaGreatDoor
open Go.RowKit
theorem take_getD (l : List Int) (m k : Nat) (h : k < m) : (l.take m).getD k 0 = l.getD k 0 := by
 rw [List.getD_eq_getElem?_getD, List.getD_eq_getElem?_getD, List.getElem?_take, if_pos h]
theorem contF_take_le (k : Nat) (l : List Int) (j : Nat) : contF k (l.take j) <= contF k l := by
 induction k generalizing l j with
 | zero => simp [contF]
 | succ k ih =>
  cases l with
  | nil => simp
  | cons c r =>
   cases j with
   | zero => simp [contF]
   | succ j =>
    simp only [List.take_succ_cons, contF]
    split
    ·have := ih r j; omega
    ·exact Nat.le_refl _
theorem contF_take (k : Nat) (l : List Int) (j : Nat) (h : k <= j) : contF k (l.take j) = contF k l := by
 induction k generalizing l j with
 | zero => simp [contF]
 | succ k ih =>
  cases l with
  | nil => simp
  | cons c r =>
   cases j with
   | zero => omega
   | succ j =>
    simp only [List.take_succ_cons, contF]
    rw [ih r j (by omega)]
theorem first8_take (l : List Int) (m : Nat) (h0 : 0 < l.length) (hz : size8 l <= m) : atom8 (l.take m) = atom8 l /\ size8 (l.take m) = size8 l := by
 have hb := size8_bd l h0
 have e0 : (l.take m).getD 0 0 = l.getD 0 0 := take_getD l m 0 (by omega)
 have hm : (l.take m).length = min m l.length := List.length_take
 have hr : rawF (l.take m) = rawF l := by
  cases hraw : rawF l
  ·have hs : size8 l = bdN (l.getD 0 0) := by unfold size8; rw [hraw]; rfl
   unfold rawF at hraw ⊢
   simp only [decide_eq_false_iff_not, not_or, Int.not_lt] at hraw ⊢
   rw [e0]
   refine ⟨hraw.1, ?_⟩
   have h2 := hraw.2
   have hl := rowHave_le l h0
   unfold rowHave at h2 ⊢
   rw [e0]
   by_cases hN : bdN (l.getD 0 0) < 2
   ·rw [if_pos hN]; exact Int.le_refl _
   ·rw [if_neg hN] at h2 ⊢
    by_cases hc : l.length < 2 \/ l.getD 1 0 < bdLo (l.getD 0 0) \/ bdHi (l.getD 0 0) < l.getD 1 0
    ·rw [if_pos hc] at h2; omega
    ·rw [if_neg hc] at h2
     rw [take_getD l m 1 (by omega), if_neg (by rw [hm]; omega), List.drop_take, contF_take _ _ _ (by omega)]
     exact h2
  ·unfold rawF at hraw ⊢
   simp only [decide_eq_true_eq] at hraw ⊢
   rw [e0]
   rcases hraw with hraw | hraw
   ·exact .inl hraw
   ·refine .inr (Int.lt_of_le_of_lt ?_ hraw)
    unfold rowHave
    rw [e0]
    by_cases hN : bdN (l.getD 0 0) < 2
    ·rw [if_pos hN, if_pos hN]; exact Int.le_refl _
    ·rw [if_neg hN, if_neg hN]
     by_cases hc : (l.take m).length < 2 \/ (l.take m).getD 1 0 < bdLo (l.getD 0 0) \/ bdHi (l.getD 0 0) < (l.take m).getD 1 0
     ·rw [if_pos hc]; split <;> omega
     ·rw [if_neg hc]
      rw [hm] at hc
      rw [take_getD l m 1 (by omega)] at hc
      rw [if_neg (by omega), List.drop_take]
      have := contF_take_le (bdN (l.getD 0 0) - 2).toNat (l.drop 2) (m - 2)
      omega
 unfold atom8 size8
 rw [hr, e0]
 refine ⟨?_, rfl⟩
 split
 ·rfl
 ·rename_i hn
  have hs : size8 l = bdN (l.getD 0 0) := by unfold size8; rw [if_neg hn]
  unfold valF8
  rw [e0, List.drop_take, List.take_take, Nat.min_eq_left (by omega)]
theorem first16_take (o : Int) (l : List Int) (m : Nat) (h0 : 0 < l.length) (hz : size16 o l <= m) : atom16 o (l.take m) = atom16 o l /\ size16 o (l.take m) = size16 o l := by
 have hm : (l.take m).length = min m l.length := List.length_take
 by_cases h1 : l.length = 1
 ·have hs : size16 o l = 1 := by unfold size16; rw [if_pos h1]
  rw [List.take_of_length_le (by omega)]
  exact ⟨rfl, rfl⟩
 ·have hu : 2 <= m -> unitF o (l.take m) = unitF o l := fun h => by unfold unitF; rw [take_getD l m 0 (by omega), take_getD l m 1 (by omega)]
  have hu2 : 4 <= m -> unitF o ((l.take m).drop 2) = unitF o (l.drop 2) := fun h => by
   unfold unitF
   rw [List.drop_take, take_getD _ _ 0 (by omega), take_getD _ _ 1 (by omega)]
  cases hp : pairF o l
  ·have hs : size16 o l = 2 := by unfold size16; rw [if_neg h1, hp]; rfl
   have hp2 : pairF o (l.take m) = false := by
    unfold pairF at hp ⊢
    rw [hu (by omega)]
    by_cases h4 : 4 <= m
    ·rw [hu2 h4, hm]
     rw [Bool.eq_false_iff] at hp ⊢
     intro hx
     apply hp
     simp only [Bool.and_eq_true, decide_eq_true_eq] at hx ⊢
     exact ⟨⟨hx.1.1, by omega⟩, hx.2⟩
    ·rw [hm, show decide (4 <= min m l.length) = false from by rw [decide_eq_false_iff_not]; omega]
     simp
   unfold atom16 size16
   have hmm : ¬ min m l.length = 1 := by omega
   simp [hm, hmm, h1, hp, hp2, hu (by omega)]
  ·have hs : size16 o l = 4 := by unfold size16; rw [if_neg h1, hp]; rfl
   have hp2 : pairF o (l.take m) = true := by
    unfold pairF at hp ⊢
    rw [hu (by omega), hu2 (by omega), hm]
    simp only [Bool.and_eq_true, decide_eq_true_eq] at hp ⊢
    exact ⟨⟨hp.1.1, by omega⟩, hp.2⟩
   have hl : 4 <= l.length := by
    unfold pairF at hp
    simp only [Bool.and_eq_true, decide_eq_true_eq] at hp
    exact hp.1.2
   unfold atom16 size16
   have hmm : ¬ min m l.length = 1 := by omega
   have hu3 := hu2 (by omega)
   simp only [hm, hmm, h1, hp, hp2, hu (show 2 <= m by omega), hu3, if_false, if_true]
   exact ⟨trivial, trivial⟩
theorem at_take (enc : Int) (l : List Int) (m : Nat) (h0 : 0 < l.length) (hz : sizeAt enc l <= m) : atomAt enc (l.take m) = atomAt enc l /\ sizeAt enc (l.take m) = sizeAt enc l := by
 unfold sizeAt at hz
 unfold atomAt sizeAt
 by_cases h1 : enc = 1
 ·simp only [if_pos h1] at hz ⊢; exact first8_take l m h0 hz
 ·simp only [if_neg h1] at hz ⊢
  by_cases h2 : enc = 2
  ·simp only [if_pos h2] at hz ⊢; exact first16_take 0 l m h0 hz
  ·simp only [if_neg h2] at hz ⊢
   by_cases h3 : enc = 3
   ·simp only [if_pos h3] at hz ⊢; exact first16_take 1 l m h0 hz
   ·simp only [if_neg h3] at hz ⊢
    exact ⟨take_getD l m 0 (by omega), trivial⟩
def szs (enc : Int) (l : List Int) (n : Nat) : Int := (((dec enc l).take n).map Prod.snd).sum
theorem szs_zero (enc : Int) (l : List Int) : szs enc l 0 = 0 := rfl
theorem szs_succ (enc : Int) (l : List Int) (n : Nat) (h : 0 < l.length) : szs enc l (n + 1) = sizeAt enc l + szs enc (l.drop (sizeAt enc l).toNat) n := by
 unfold szs
 rw [dec_cons enc l h]
 simp
theorem szs_nil (enc : Int) (n : Nat) : szs enc [] n = 0 := by unfold szs; rw [dec_nil]; simp
theorem szs_bd (enc : Int) (n : Nat) : ∀ l : List Int, 0 <= szs enc l n /\ szs enc l n <= l.length := by
 induction n with
 | zero => intro l; rw [szs_zero]; omega
 | succ n ih =>
  intro l
  by_cases h : 0 < l.length
  ·rw [szs_succ enc l n h]
   have h1 := ih (l.drop (sizeAt enc l).toNat)
   have h2 := sizeAt_bd enc l h
   rw [List.length_drop] at h1
   omega
  ·rw [List.eq_nil_of_length_eq_zero (show l.length = 0 by omega), szs_nil]; simp
theorem dec_take (enc : Int) (n : Nat) : ∀ l : List Int, dec enc (l.take (szs enc l n).toNat) = (dec enc l).take n := by
 induction n with
 | zero => intro l; rw [szs_zero]; simp [dec_nil]
 | succ n ih =>
  intro l
  by_cases h : 0 < l.length
  ·have h2 := sizeAt_bd enc l h
   have hb := szs_bd enc n (l.drop (sizeAt enc l).toNat)
   rw [List.length_drop] at hb
   have ht := at_take enc l (szs enc l (n + 1)).toNat h (by rw [szs_succ enc l n h]; omega)
   rw [szs_succ enc l n h] at ht ⊢
   rw [dec_cons enc l h, List.take_succ_cons, dec_cons enc (l.take _) (by rw [List.length_take]; omega), ht.1, ht.2, List.drop_take,
    show (sizeAt enc l + szs enc (l.drop (sizeAt enc l).toNat) n).toNat - (sizeAt enc l).toNat = (szs enc (l.drop (sizeAt enc l).toNat) n).toNat by omega, ih]
  ·rw [List.eq_nil_of_length_eq_zero (show l.length = 0 by omega), szs_nil]; simp [dec_nil]
theorem dec_drop (enc : Int) (n : Nat) : ∀ l : List Int, dec enc (l.drop (szs enc l n).toNat) = (dec enc l).drop n := by
 induction n with
 | zero => intro l; rw [szs_zero]; simp
 | succ n ih =>
  intro l
  by_cases h : 0 < l.length
  ·have h2 := sizeAt_bd enc l h
   have hb := szs_bd enc n (l.drop (sizeAt enc l).toNat)
   rw [szs_succ enc l n h, dec_cons enc l h, List.drop_succ_cons, <- ih, List.drop_drop]
   congr 2
   omega
  ·rw [List.eq_nil_of_length_eq_zero (show l.length = 0 by omega), szs_nil]; simp [dec_nil]
theorem szs_step (enc : Int) (n : Nat) : ∀ l : List Int, szs enc l n < l.length -> szs enc l (n + 1) = szs enc l n + sizeAt enc (l.drop (szs enc l n).toNat) := by
 induction n with
 | zero =>
  intro l h
  rw [szs_zero] at h ⊢
  rw [szs_succ enc l 0 (by omega), szs_zero]
  simp
 | succ n ih =>
  intro l h
  have h0 : 0 < l.length := by have := szs_bd enc (n + 1) l; omega
  have hz := sizeAt_bd enc l h0
  rw [szs_succ enc l n h0] at h ⊢
  rw [szs_succ enc l (n + 1) h0]
  have hb := szs_bd enc n (l.drop (sizeAt enc l).toNat)
  have hl : ((l.drop (sizeAt enc l).toNat).length : Int) = l.length - sizeAt enc l := by rw [List.length_drop]; omega
  rw [ih _ (by omega), List.drop_drop, show (sizeAt enc l + szs enc (l.drop (sizeAt enc l).toNat) n).toNat = (sizeAt enc l).toNat + (szs enc (l.drop (sizeAt enc l).toNat) n).toNat by omega]
  omega
theorem dec_split (enc : Int) (n : Nat) (l : List Int) : dec enc (l.take (szs enc l n).toNat) ++ dec enc (l.drop (szs enc l n).toNat) = dec enc l := by
 rw [dec_take, dec_drop, List.take_append_drop]
theorem sum_dec (enc : Int) : ∀ (k : Nat) (l : List Int), l.length <= k -> ((dec enc l).map Prod.snd).sum = (l.length : Int) := by
 intro k
 induction k with
 | zero =>
  intro l h
  have e : l = [] := List.eq_nil_of_length_eq_zero (by omega)
  rw [e]; rfl
 | succ k ih =>
  intro l h
  by_cases h0 : 0 < l.length
  ·have hz := sizeAt_bd enc l h0
   rw [dec_cons enc l h0, List.map_cons, List.sum_cons, ih _ (by rw [List.length_drop]; omega), List.length_drop]
   omega
  ·have e : l = [] := List.eq_nil_of_length_eq_zero (by omega)
   rw [e]; rfl
theorem sumsOf_bytes (enc : Int) (l : List Int) : (sumsOf (dec enc l)).bytes = (l.length : Int) := by
 rw [(sumsOf_good' (dec_pos enc l)).2.2, sum_dec enc l.length l (Nat.le_refl _)]
def PcIn (g : Nat) (l : List Int) (p : Pc) : Prop := ∃ off, p.A = some ⟨g, off, none⟩ /\ p.bytes = (l.drop off).take p.n /\ off + p.n <= l.length
theorem PcIn.bts {g : Nat} {l : List Int} {p : Pc} {w : World} {T : TypeId} (h : PcIn g l p) (hb : Blk w g T (l.map (Value.int .u8)).toArray) : Bts w (· = g) p.A p.n p.bytes := by
 obtain ⟨off, hA, hB, hl⟩ := h
 refine ⟨by rw [hB]; simp; omega, fun _ => ⟨_, hA, rfl, fun j u hu => ?_⟩⟩
 have e : (⟨g, off, none⟩ : Addr).add j = ⟨g, off + j, none⟩ := by
  by_cases hj : j = 0
  ·subst hj; rw [add_zero]; rfl
  ·rw [add_pos _ _ (by omega)]
 rw [e, hb.cell]
 rw [hB, List.getElem?_map, List.getElem?_take] at hu
 rw [List.getElem?_toArray, List.getElem?_map]
 split at hu
 ·rw [List.getElem?_drop] at hu
  exact hu
 ·simp at hu
theorem tagF_app (tag : Int) (a b : List (Int × Int)) : ∀ off, tagF tag off (a ++ b) = tagF tag off a ++ tagF tag (off + (a.map Prod.snd).sum) b := by
 induction a with
 | nil => intro off; simp [tagF]
 | cons d a ih =>
  intro off
  simp only [List.cons_append, tagF, List.map_cons, List.sum_cons]
  rw [ih, Int.add_assoc]
theorem tagF_shift {p : Int} (ds : List (Int × Int)) (hp : 0 <= p) : ∀ off, tagF p off ds = tagF 0 (p + off) ds := by
 induction ds with
 | nil => intro off; rfl
 | cons d ds ih =>
  intro off
  simp only [tagF]
  rw [ih, if_neg (by omega), if_neg (by omega), Int.zero_add, Int.add_assoc]
structure OpenOk (enc : Int) (l : List Int) (g : Nat) (p : Nat) (ps : List Pc) : Prop where
 le : p <= l.length
 ok : ∀ x ∈ ps, PcOk enc x
 in_ : ∀ x ∈ ps, PcIn g l x
 tot : totB ps = p
 len : ps.length <= p
 all : decL enc ps ++ dec enc (l.drop p) = dec enc l
 tg : atsL enc ps = tagF 0 0 (decL enc ps)
 tgn : ∀ x ∈ ps, x.tag + x.n <= l.length
theorem OpenOk.start (enc : Int) (l : List Int) (g : Nat) : OpenOk enc l g 0 [] :=
 ⟨Nat.zero_le _, fun x h => absurd h (by simp), fun x h => absurd h (by simp), rfl, Nat.le_refl _, by simp [decL], rfl, fun x h => absurd h (by simp)⟩
def pcOf (enc : Int) (l : List Int) (g p m : Nat) : Pc := ⟨some ⟨g, p, none⟩, m, m, (p : Int), sumsOf (dec enc ((l.drop p).take m)), (l.drop p).take m⟩
theorem OpenOk.step {enc : Int} {l : List Int} {g p m k : Nat} {ps : List Pc} (h : OpenOk enc l g p ps) (hB : Byt l) (hm : (m : Int) = szs enc (l.drop p) k) (h0 : 0 < m) (hl : p + m <= l.length) (hn : l.length <= 1073741824) :
  OpenOk enc l g (p + m) (ps ++ [pcOf enc l g p m]) := by
 have hlen : ((l.drop p).take m).length = m := by simp; omega
 refine ⟨hl, ?_, ?_, ?_, ?_, ?_, ?_, ?_⟩
 ·intro x hx
  rcases List.mem_append.1 hx with hx | hx
  ·exact h.ok x hx
  ·rw [List.mem_singleton] at hx
   subst hx
   exact ⟨(hB.drop _).take _, hlen, h0, show m <= _ by omega, Nat.le_refl _, show (-1 : Int) <= (p : Int) by omega, show (p : Int) <= _ by omega, rfl⟩
 ·intro x hx
  rcases List.mem_append.1 hx with hx | hx
  ·exact h.in_ x hx
  ·rw [List.mem_singleton] at hx
   subst hx
   exact ⟨p, rfl, rfl, hl⟩
 ·rw [totB_app, h.tot, totB_cons]
  simp only [pcOf, sumsOf_bytes, hlen, totB, List.map_nil, List.sum_nil]
  omega
 ·have := h.len
  simp
  omega
 ·have e := dec_split enc k (l.drop p)
  rw [<- hm, List.drop_drop] at e
  simp only [Int.toNat_natCast] at e
  rw [<- h.all, <- e, decL_app, decL_cons, show decL enc [] = [] from rfl, List.append_nil, List.append_assoc]
  rfl
 ·have e1 : ((decL enc ps).map Prod.snd).sum = (p : Int) := by
   have h1 := (sumsOf_good' (decL_pos enc ps)).2.2
   rw [<- sumL_dec h.ok, (sumL_good (allGood_of h.ok)).2, h.tot] at h1
   exact h1.symm
  rw [atsL_app, atsL_one, decL_app, decL_cons, show decL enc [] = [] from rfl, List.append_nil, tagF_app, h.tg, e1, Int.zero_add]
  show _ ++ tagF (p : Int) 0 _ = _
  rw [tagF_shift (p := (p : Int)) _ (by omega), Int.add_zero]
 ·intro x hx
  rcases List.mem_append.1 hx with hx | hx
  ·exact h.tgn x hx
  ·rw [List.mem_singleton] at hx
   subst hx
   show (p : Int) + (m : Int) <= _
   omega
def U8s (w : World) (ps : List Pc) : Prop := ∀ p ∈ ps, ∀ ad, p.A = some ad -> ∃ cs, Blk w ad.block 5 cs
def TextL (w : World) (D : Nat -> Prop) (g : Nat) (enc lim : Int) (ds ats : List (Int × Int)) : Prop := ∃ t a add, TextIn w D g enc lim t a add /\ U8s w t.list /\ decL enc t.list = ds /\ atsL enc t.list = ats /\ add = .slice none 0 0 /\ ∀ p ∈ t.list, p.tag + p.n <= 1073741824
theorem TextL.at_ {w : World} {D : Nat -> Prop} {g : Nat} {enc lim : Int} {ds ats : List (Int × Int)} (h : TextL w D g enc lim ds ats) : TextAt w D g enc ds := by
 obtain ⟨t, a, add, h, _, e, _⟩ := h
 exact ⟨lim, t, a, add, h, e⟩
theorem OpenOk.good {enc : Int} {l : List Int} {g p : Nat} {ps : List Pc} (h : OpenOk enc l g p ps) : AllGood ps := allGood_of h.ok
theorem OpenOk.text {enc lim : Int} {l : List Int} {g g2 : Nat} {ps : List Pc} {w : World} {D : Nat -> Prop} {a : Option Addr} (h : OpenOk enc l g l.length ps) (hl : l.length <= 1073741824)
  (he : enc = 1 \/ enc = 2 \/ enc = 3 \/ enc = 4) (hb : Blk w g 5 (l.map (Value.int .u8)).toArray) (hD : D g) (ht : Blk w g2 88 #[.int .i64 enc, .int .i64 lim, .pointer a, .slice none 0 0]) (hn : NodeAt w (btF ps.length ps) a) :
  TextL w D g2 enc lim (dec enc l) (tagF 0 0 (dec enc l)) := by
 have e := btF_list ps.length ps (Nat.le_refl _)
 have hall := h.all
 rw [List.drop_length, dec_nil, List.append_nil] at hall
 refine ⟨btF ps.length ps, a, .slice none 0 0, ⟨ht, he, hn, ?_, ?_, ?_, ?_⟩, ?_, ?_, ?_, rfl, ?_⟩
 ·rw [e]; have := h.len; omega
 ·rw [e, h.tot]; omega
 ·rw [e]; exact h.ok
 ·rw [e]
  intro p hp
  exact Reads.more ((h.in_ p hp).bts hb) (fun b hb _ => hb ▸ hD) (by decide)
 ·rw [e]
  intro p hp ad e
  obtain ⟨off, hA, _⟩ := h.in_ p hp
  rw [hA] at e
  injection e with e
  subst e
  exact ⟨_, hb⟩
 ·rw [e]
  exact hall
 ·rw [e, h.tg, hall]
 ·rw [e]
  intro p hp
  have := h.tgn p hp
  omega
theorem cells_new (w : World) (t : TypeId) (cs : Array Value) : ∀ j u, cs.toList[j]? = some u -> (w.alloc (.cells cs t)).cell? ((⟨w.heap.size, 0, none⟩ : Addr).add j) = some u := by
 intro j u hu
 have e : (⟨w.heap.size, 0, none⟩ : Addr).add j = ⟨w.heap.size, j, none⟩ := by
  by_cases hj : j = 0
  ·subst hj; rw [add_zero]
  ·rw [add_pos _ _ (by omega)]; simp
 rw [e, (Blk.new w t cs).cell]
 simpa using hu
end Go.Proofs.YtflhiohjikgedaaGreatDoor
