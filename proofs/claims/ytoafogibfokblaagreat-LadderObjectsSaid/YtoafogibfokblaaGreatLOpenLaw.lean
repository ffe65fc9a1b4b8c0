/-
  Pieces that lie in one block of bytes, one behind the other. (Plain.)
-/
import Derived.Test.YtoafogibfokblaaGreatLCutLaw
import Derived.Laws.CopyOwn
import Derived.OwnWalk
import Derived.Maps.AppendAt
set_option linter.unusedSimpArgs false
set_option linter.unusedVariables false
namespace Go.Proofs.YtoafogibfokblaaGreat
open Go.RowKit

theorem szs_step (enc : Int) (n : Nat) : ∀ l : List Int, szs enc l n < l.length → szs enc l (n + 1) = szs enc l n + sizeAt enc (l.drop (szs enc l n).toNat) := by
  induction n with
  | zero =>
    intro l h
    rw [szs_zero] at h ⊢
    rw [szs_succ enc l 0 (by omega), szs_zero]
    simp
  | succ n ih =>
    intro l h
    have h0 : 0 < l.length := by have := szs_bd enc (n + 1) l; omega
    have hz := sizeAt_bd enc l h0
    rw [szs_succ enc l n h0] at h ⊢
    rw [szs_succ enc l (n + 1) h0]
    have hb := szs_bd enc n (l.drop (sizeAt enc l).toNat)
    have hl : ((l.drop (sizeAt enc l).toNat).length : Int) = l.length - sizeAt enc l := by rw [List.length_drop]; omega
    rw [ih _ (by omega), List.drop_drop, show (sizeAt enc l + szs enc (l.drop (sizeAt enc l).toNat) n).toNat = (sizeAt enc l).toNat + (szs enc (l.drop (sizeAt enc l).toNat) n).toNat by omega]
    omega
theorem dec_split (enc : Int) (n : Nat) (l : List Int) : dec enc (l.take (szs enc l n).toNat) ++ dec enc (l.drop (szs enc l n).toNat) = dec enc l := by
  rw [dec_take, dec_drop, List.take_append_drop]
theorem sum_dec (enc : Int) : ∀ (k : Nat) (l : List Int), l.length ≤ k → ((dec enc l).map Prod.snd).sum = (l.length : Int) := by
  intro k
  induction k with
  | zero =>
    intro l h
    have e : l = [] := List.eq_nil_of_length_eq_zero (by omega)
    rw [e]; rfl
  | succ k ih =>
    intro l h
    by_cases h0 : 0 < l.length
    · have hz := sizeAt_bd enc l h0
      rw [dec_cons enc l h0, List.map_cons, List.sum_cons, ih _ (by rw [List.length_drop]; omega), List.length_drop]
      omega
    · have e : l = [] := List.eq_nil_of_length_eq_zero (by omega)
      rw [e]; rfl
theorem sumsOf_bytes (enc : Int) (l : List Int) : (sumsOf (dec enc l)).bytes = (l.length : Int) := by
  rw [(sumsOf_good' (dec_pos enc l)).2.2, sum_dec enc l.length l (Nat.le_refl _)]
/-- a piece of the bytes l in block g -/
def PcIn (g : Nat) (l : List Int) (p : Pc) : Prop := ∃ off, p.A = some ⟨g, off, none⟩ ∧ p.bytes = (l.drop off).take p.n ∧ off + p.n ≤ l.length
theorem PcIn.bts {g : Nat} {l : List Int} {p : Pc} {w : World} {T : TypeId} (h : PcIn g l p) (hb : Blk w g T (l.map (Value.int .u8)).toArray) : Bts w (· = g) p.A p.n p.bytes := by
  obtain ⟨off, hA, hB, hl⟩ := h
  refine ⟨by rw [hB]; simp; omega, fun _ => ⟨_, hA, rfl, fun j u hu => ?_⟩⟩
  have e : (⟨g, off, none⟩ : Addr).add j = ⟨g, off + j, none⟩ := by
    by_cases hj : j = 0
    · subst hj; rw [add_zero]; rfl
    · rw [add_pos _ _ (by omega)]
  rw [e, hb.cell]
  rw [hB, List.getElem?_map, List.getElem?_take] at hu
  rw [List.getElem?_toArray, List.getElem?_map]
  split at hu
  · rw [List.getElem?_drop] at hu
    exact hu
  · simp at hu
/-- what the rounds of Open keep -/
structure OpenOk (enc : Int) (l : List Int) (g : Nat) (p : Nat) (ps : List Pc) : Prop where
  le : p ≤ l.length
  ok : ∀ x ∈ ps, PcOk enc x
  in_ : ∀ x ∈ ps, PcIn g l x
  tot : totB ps = p
  len : ps.length ≤ p
  all : decL enc ps ++ dec enc (l.drop p) = dec enc l
theorem OpenOk.start (enc : Int) (l : List Int) (g : Nat) : OpenOk enc l g 0 [] :=
  ⟨Nat.zero_le _, fun x h => absurd h (by simp), fun x h => absurd h (by simp), rfl, Nat.le_refl _, by simp [decL]⟩
def pcOf (enc : Int) (l : List Int) (g p m : Nat) : Pc := ⟨some ⟨g, p, none⟩, m, m, (p : Int), sumsOf (dec enc ((l.drop p).take m)), (l.drop p).take m⟩
theorem OpenOk.step {enc : Int} {l : List Int} {g p m k : Nat} {ps : List Pc} (h : OpenOk enc l g p ps) (hB : Byt l) (hm : (m : Int) = szs enc (l.drop p) k) (h0 : 0 < m) (hl : p + m ≤ l.length) (hn : l.length ≤ 1073741824) :
    OpenOk enc l g (p + m) (ps ++ [pcOf enc l g p m]) := by
  have hlen : ((l.drop p).take m).length = m := by simp; omega
  refine ⟨hl, ?_, ?_, ?_, ?_, ?_⟩
  · intro x hx
    rcases List.mem_append.1 hx with hx | hx
    · exact h.ok x hx
    · rw [List.mem_singleton] at hx
      subst hx
      exact ⟨(hB.drop _).take _, hlen, h0, show m ≤ _ by omega, Nat.le_refl _, show (-1 : Int) ≤ (p : Int) by omega, show (p : Int) ≤ _ by omega, rfl⟩
  · intro x hx
    rcases List.mem_append.1 hx with hx | hx
    · exact h.in_ x hx
    · rw [List.mem_singleton] at hx
      subst hx
      exact ⟨p, rfl, rfl, hl⟩
  · rw [totB_app, h.tot, totB_cons]
    simp only [pcOf, sumsOf_bytes, hlen, totB, List.map_nil, List.sum_nil]
    omega
  · have := h.len
    simp
    omega
  · have e := dec_split enc k (l.drop p)
    rw [← hm, List.drop_drop] at e
    simp only [Int.toNat_natCast] at e
    rw [← h.all, ← e, decL_app, decL_cons, show decL enc [] = [] from rfl, List.append_nil, List.append_assoc]
    rfl
theorem OpenOk.good {enc : Int} {l : List Int} {g p : Nat} {ps : List Pc} (h : OpenOk enc l g p ps) : AllGood ps := allGood_of h.ok
theorem OpenOk.text {enc lim : Int} {l : List Int} {g g2 : Nat} {ps : List Pc} {w : World} {D : Nat → Prop} {T : TypeId} {a : Option Addr} {add : Value} (h : OpenOk enc l g l.length ps) (hl : l.length ≤ 1073741824)
    (he : enc = 1 ∨ enc = 2 ∨ enc = 3 ∨ enc = 4) (hb : Blk w g T (l.map (Value.int .u8)).toArray) (hD : D g) (ht : Blk w g2 56 #[.int .i64 enc, .int .i64 lim, .pointer a, add]) (hn : NodeAt w (btF ps.length ps) a) :
    TextAt w D g2 enc (dec enc l) := by
  have e := btF_list ps.length ps (Nat.le_refl _)
  refine ⟨lim, btF ps.length ps, a, add, ⟨ht, he, hn, ?_, ?_, ?_, ?_⟩, ?_⟩
  · rw [e]; have := h.len; omega
  · rw [e, h.tot]; omega
  · rw [e]; exact h.ok
  · rw [e]
    intro p hp
    exact Reads.more ((h.in_ p hp).bts hb) (fun b hb _ => hb ▸ hD) (by decide)
  · rw [e]
    have := h.all
    rw [List.drop_length, dec_nil, List.append_nil] at this
    exact this
theorem cells_new (w : World) (t : TypeId) (cs : Array Value) : ∀ j u, cs.toList[j]? = some u → (w.alloc (.cells cs t)).cell? ((⟨w.heap.size, 0, none⟩ : Addr).add j) = some u := by
  intro j u hu
  have e : (⟨w.heap.size, 0, none⟩ : Addr).add j = ⟨w.heap.size, j, none⟩ := by
    by_cases hj : j = 0
    · subst hj; rw [add_zero]
    · rw [add_pos _ _ (by omega)]; simp
  rw [e, (Blk.new w t cs).cell]
  simpa using hu
end Go.Proofs.YtoafogibfokblaaGreat
