/-
  What lies in memory while a text's atoms go by.
-/
import Derived.Test.YtoafogibfokblaaGreatLFeed
set_option linter.unusedSimpArgs false
set_option linter.unusedVariables false
namespace Go.Proofs.YtoafogibfokblaaGreat
open Go.RowKit

theorem ret_v {k : IntKind} {a b : Int} (h : a = b) : Value.int k a = .int k b := by rw [h]
/-- w: where the walk began; m2: where its loop began; n atoms are to be passed over, 'left' to be seen -/
structure Core {σ : Type} (J : σ → (Nat → Prop) → World → Prop) (X0 : Nat → Prop) (w : World) (m2 g : Nat) (tc : Array Value) (fv : Value) (Bn : Nat) (n left : Nat) (s : σ) (X : Nat → Prop) (wr : World) : Prop where
  j : J s X wr
  xs : ∀ b, X b → X0 b ∨ m2 ≤ b
  fr : Fr X0 w wr
  sz : m2 ≤ wr.heap.size
  b4 : Blk wr w.heap.size 24 #[.pointer (some ⟨g, 0, none⟩)]
  b7 : Blk wr (w.heap.size + 1) 69 #[fv]
  bn : Blk wr Bn 3 #[.int .i64 (n : Int)]
  bl : Blk wr (Bn + 1) 3 #[.int .i64 (left : Int)]
  tx : Blk wr g 56 tc
/-- what is known beforehand -/
structure CoreOk (X0 : Nat → Prop) (w : World) (m2 g : Nat) (Bn : Nat) : Prop where
  x0 : ∀ b, X0 b → b < w.heap.size
  h1 : w.heap.size + 1 < Bn
  h2 : Bn + 1 < m2
/-- what a round keeps -/
def Rel (m2 : Nat) (W wr : World) : Prop := KeepsFrom m2 W wr ∧ KT W wr
theorem Rel.refl (m2 : Nat) (W : World) : Rel m2 W W := ⟨KeepsFrom.refl _ _, KT.refl _⟩
theorem Rel.trans {m2 : Nat} {a b c : World} (h : Rel m2 a b) (k : Rel m2 b c) : Rel m2 a c := ⟨h.1.trans k.1, h.2.trans k.2⟩
theorem Rel.below {m2 : Nat} {W W' : World} (h : Below W.heap.size W W') : Rel m2 W W' :=
  ⟨⟨h.size, fun k o _ hk _ => (h.block k (Array.getElem?_eq_some_iff.1 hk).1).trans hk⟩, KT.below h⟩
theorem Rel.setInt {m2 : Nat} {W : World} {B : Nat} {cs : Array Value} (h : Blk W B 3 cs) (v : Value) : Rel m2 W (W.setCell ⟨B, 0, none⟩ v) :=
  ⟨(KeepsOthers.setCell W _ v).from _, by simp [World.setCell], fun b c T h1 _ hb => hb.far (fun e => Blk.ne_ hb h h1 e) v⟩
section
variable {σ : Type} {F : FuncId} {caps : Array Value} {J : σ → (Nat → Prop) → World → Prop} {step : σ → Int → Int → σ} {size : σ → Nat} {X0 X : Nat → Prop} {w wr w' : World} {m2 g Bn n left : Nat} {tc : Array Value} {fv : Value} {s s' : σ}
theorem Sees.no (hS : Sees F caps J step size) (hj : J s X wr) {b : Nat} {T : TypeId} {cs : Array Value} (hb : Blk wr b T cs) (h1 : T ≠ 3) (h2 : T ≠ 37) : ¬ X b := by
  intro hx
  obtain ⟨cs', T', hb', hT⟩ := hS.kind s X wr b hj hx
  have e : T = T' := by
    unfold Blk at hb hb'
    rw [hb] at hb'
    injection hb' with hb'
    injection hb'
  rcases hT with hT | hT
  · exact h1 (e.trans hT)
  · exact h2 (e.trans hT)
theorem Sees.noObj (hS : Sees F caps J step size) (hj : J s X wr) {b : Nat} {o : Obj} (hb : wr.heap[b]? = some o) (ho : o.isCells = false) : ¬ X b := by
  intro hx
  obtain ⟨cs', T', hb', _⟩ := hS.kind s X wr b hj hx
  unfold Blk at hb'
  rw [hb] at hb'
  injection hb' with hb'
  rw [hb'] at ho
  cases ho
theorem Core.below (hS : Sees F caps J step size) (h : Core J X0 w m2 g tc fv Bn n left s X wr) (hb : Below wr.heap.size wr w') : Core J X0 w m2 g tc fv Bn n left s X w' :=
  ⟨hS.keep _ _ _ _ h.j (fun b hx => by obtain ⟨cs, T, hbk, _⟩ := hS.kind _ _ _ b h.j hx; exact hb.block b hbk.lt), h.xs, h.fr.bel hb, Nat.le_trans h.sz hb.size, h.b4.below hb, h.b7.below hb, h.bn.below hb, h.bl.below hb, h.tx.below hb⟩
theorem Core.not {b : Nat} (hc : CoreOk X0 w m2 g Bn) (h : Core J X0 w m2 g tc fv Bn n left s X wr) (h1 : w.heap.size ≤ b) (h2 : b < m2) : ¬ X b := by
  intro hx
  rcases h.xs b hx with h3 | h3
  · have := hc.x0 b h3; omega
  · omega
theorem Core.setN (hc : CoreOk X0 w m2 g Bn) (hS : Sees F caps J step size) (h : Core J X0 w m2 g tc fv Bn n left s X wr) (k : Nat) : Core J X0 w m2 g tc fv Bn k left s X (wr.setCell ⟨Bn, 0, none⟩ (.int .i64 (k : Int))) := by
  have h1 := hc.h1
  have h2 := hc.h2
  have hn := h.not hc (b := Bn) (by omega) (by omega)
  exact ⟨hS.keep _ _ _ _ h.j (fun b hx => Below.heap_setCell wr _ _ b (fun e => hn (by rw [← (show b = Bn from e)]; exact hx))), h.xs, h.fr.setCell (.inr (show w.heap.size ≤ Bn by omega)) _, by simpa [World.setCell] using h.sz,
    h.b4.far (show w.heap.size ≠ Bn by omega) _, h.b7.far (show w.heap.size + 1 ≠ Bn by omega) _, h.bn.set_ 0 _, h.bl.far (show Bn + 1 ≠ Bn by omega) _, h.tx.far (fun e => Blk.ne_ h.tx h.bn (by decide) e) _⟩
theorem Core.setL (hc : CoreOk X0 w m2 g Bn) (hS : Sees F caps J step size) (h : Core J X0 w m2 g tc fv Bn n left s X wr) (k : Nat) : Core J X0 w m2 g tc fv Bn n k s X (wr.setCell ⟨Bn + 1, 0, none⟩ (.int .i64 (k : Int))) := by
  have h1 := hc.h1
  have h2 := hc.h2
  have hn := h.not hc (b := Bn + 1) (by omega) (by omega)
  exact ⟨hS.keep _ _ _ _ h.j (fun b hx => Below.heap_setCell wr _ _ b (fun e => hn (by rw [← (show b = Bn + 1 from e)]; exact hx))), h.xs, h.fr.setCell (.inr (show w.heap.size ≤ Bn + 1 by omega)) _, by simpa [World.setCell] using h.sz,
    h.b4.far (show w.heap.size ≠ Bn + 1 by omega) _, h.b7.far (show w.heap.size + 1 ≠ Bn + 1 by omega) _, h.bn.far (show Bn ≠ Bn + 1 by omega) _, h.bl.set_ 0 _, h.tx.far (fun e => Blk.ne_ h.tx h.bl (by decide) e) _⟩
theorem Core.see (hc : CoreOk X0 w m2 g Bn) (hS : Sees F caps J step size) (h : Core J X0 w m2 g tc fv Bn n left s X wr) {X' : Nat → Prop} (hj : J s' X' w') (hx : ∀ b, X' b → X b ∨ wr.heap.size ≤ b) (hf : Fr X wr w') : Core J X0 w m2 g tc fv Bn n left s' X' w' := by
  have h1 := hc.h1
  have h2 := hc.h2
  have hsz := h.sz
  refine ⟨hj, fun b hb => ?_, ?_, Nat.le_trans h.sz hf.size, h.b4.fr hf (h.not hc (Nat.le_refl _) (by omega)), h.b7.fr hf (h.not hc (by omega) (by omega)), h.bn.fr hf (h.not hc (by omega) (by omega)), h.bl.fr hf (h.not hc (by omega) (by omega)), h.tx.fr hf (hS.no h.j h.tx (by decide) (by decide))⟩
  · rcases hx b hb with h3 | h3
    · exact h.xs b h3
    · exact .inr (by omega)
  · refine h.fr.call hf (fun i hi hX => ?_)
    rcases h.xs i hX with h3 | h3
    · exact h3
    · omega
theorem Core.rel (hS : Sees F caps J step size) (h : Core J X0 w m2 g tc fv Bn n left s X wr) (hf : Fr X wr w') : Rel m2 wr w' :=
  ⟨⟨hf.size, fun k o _ hk ho => (hf.block k (Array.getElem?_eq_some_iff.1 hk).1 (hS.noObj h.j hk ho)).trans hk⟩, hf.size, fun b cs T h1 h2 hb => hb.fr hf (hS.no h.j hb h1 h2)⟩
theorem Core.own (hc : CoreOk X0 w m2 g Bn) (hS : Sees F caps J step size) (h : Core J X0 w m2 g tc fv Bn n left s X wr) {row : Option Nat} (hg : wr.grownBy w' row) (hr : ∀ r, row = some r → m2 ≤ r ∧ ∃ o : Obj, wr.heap[r]? = some o ∧ o.isCells = false) :
    Core J X0 w m2 g tc fv Bn n left s X w' := by
  have h1 := hc.h1
  have h2 := hc.h2
  have hne : ∀ {b : Nat} {T : TypeId} {cs : Array Value}, Blk wr b T cs → some b ≠ row := by
    intro b T cs hb e
    obtain ⟨_, o, ho, hcell⟩ := hr b e.symm
    unfold Blk at hb
    rw [hb] at ho
    injection ho with ho
    rw [← ho] at hcell
    cases hcell
  refine ⟨hS.keep _ _ _ _ h.j (fun b hx => ?_), h.xs, ?_, Nat.le_trans h.sz hg.size, h.b4.grown hg (hne h.b4), h.b7.grown hg (hne h.b7), h.bn.grown hg (hne h.bn), h.bl.grown hg (hne h.bl), h.tx.grown hg (hne h.tx)⟩
  · obtain ⟨cs, T, hbk, _⟩ := hS.kind _ _ _ b h.j hx
    exact hg.block b hbk.lt (hne hbk)
  · exact h.fr.grown hg (fun k e hk => by have := (hr k e).1; omega)
end
/-- a piece and its bytes -/
def GPc (w : World) (D : Nat → Prop) (enc : Int) (p : Pc) : Prop := PcOk enc p ∧ Bts w D p.A p.n p.bytes
/-- between two pieces -/
def WkI {σ : Type} (J : σ → (Nat → Prop) → World → Prop) (step : σ → Int → Int → σ) (size : σ → Nat) (X0 : Nat → Prop) (w : World) (m2 g : Nat) (tc : Array Value) (fv : Value) (Bn : Nat) (enc : Int) (G : Pc → Prop) (n0 left0 : Nat) (s0 : σ) (pre : List { p : Pc // G p }) (W : World) : Prop :=
  ∃ n left s X, feed step n0 left0 s0 (atsL enc (pre.map Subtype.val)) = (false, n, left, s) ∧ 1 ≤ left ∧ size s + left ≤ 2147483648 ∧ n ≤ 1073741824 ∧ Core J X0 w m2 g tc fv Bn n left s X W
/-- where the last one has been seen -/
def WkX {σ : Type} (J : σ → (Nat → Prop) → World → Prop) (step : σ → Int → Int → σ) (X0 : Nat → Prop) (w : World) (m2 g : Nat) (tc : Array Value) (fv : Value) (Bn : Nat) (enc : Int) (G : Pc → Prop) (n0 left0 : Nat) (s0 : σ) (c : Code) (pre : List { p : Pc // G p }) (W : World) : Prop :=
  c = .ret ∧ ∃ k l s X, feed step n0 left0 s0 (atsL enc (pre.map Subtype.val)) = (true, k, l, s) ∧ Core J X0 w m2 g tc fv Bn 0 0 s X W
/-- within a piece -/
def WkR {σ : Type} (J : σ → (Nat → Prop) → World → Prop) (step : σ → Int → Int → σ) (size : σ → Nat) (X0 : Nat → Prop) (w : World) (m2 g : Nat) (tc : Array Value) (fv : Value) (Bn : Nat) (enc : Int) (x : Pc) (T : Bool × Nat × Nat × σ) (W : World) (kk : Nat) (q : Value) (wr : World) : Prop :=
  ∃ (k n left : Nat) (s : σ) (X : Nat → Prop), q = .int .i64 (k : Int) ∧ Core J X0 w m2 g tc fv Bn n left s X wr ∧ Rel m2 W wr ∧ feed step n left s (tagF x.tag (k : Int) (dec enc (x.bytes.drop k))) = T ∧ 1 ≤ left ∧ size s + left ≤ 2147483648 ∧ n ≤ 1073741824 ∧ k ≤ x.n ∧ x.n - k ≤ kk
end Go.Proofs.YtoafogibfokblaaGreat
