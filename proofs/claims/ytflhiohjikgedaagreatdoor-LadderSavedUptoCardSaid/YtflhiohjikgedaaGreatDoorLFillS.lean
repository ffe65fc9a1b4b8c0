import Derived.Test.YtflhiohjikgedaaGreatDoorLBytes
import Derived.Test.YtflhiohjikgedaaGreatDoorLDisk7
import Derived.Test.YtflhiohjikgedaaGreatDoorLDisk8
import Derived.Test.YtflhiohjikgedaaGreatDoorLSaveName
import Derived.Test.YtflhiohjikgedaaGreatDoorLSnip2
set_option linter.unusedSimpArgs false
set_option linter.unusedVariables false
namespace Go.Proofs.YtflhiohjikgedaaGreatDoor
open Go.RowKit

/-- a block that a round may own: no row that a walk leans on; from B on it holds cells -/
def KindOk (B : Nat) (W : World) (b : Nat) : Prop := (∀ T cs, KTy T → ¬ Blk W b T cs) ∧ (b < B ∨ ∃ cs T, Blk W b T cs)
theorem KindOk.blk {B : Nat} {W : World} {b : Nat} {T : TypeId} {cs : Array Value} (h : Blk W b T cs) (hT : ¬ KTy T) : KindOk B W b :=
  ⟨fun T' cs' hk h' => by
    have e : T' = T := by
      unfold Blk at h h'
      rw [h] at h'
      injection h' with h'
      injection h' with _ h'
      exact h'.symm
    exact hT (e ▸ hk), .inr ⟨_, _, h⟩⟩
theorem KindOk.more {B B' : Nat} {W : World} {b : Nat} (h : KindOk B W b) (hB : B ≤ B') : KindOk B' W b := ⟨h.1, h.2.imp (fun h => Nat.lt_of_lt_of_le h hB) id⟩
theorem KindOk.of_same {B : Nat} {W W' : World} {b : Nat} (h : KindOk B W b) (e : W'.heap[b]? = W.heap[b]?) : KindOk B W' b :=
  ⟨fun T cs hk hb => h.1 T cs hk (by unfold Blk at hb ⊢; rw [← e]; exact hb), h.2.imp id (fun ⟨cs, T, hb⟩ => ⟨cs, T, by unfold Blk at hb ⊢; rw [e]; exact hb⟩)⟩
theorem rel_fr2 {m2 : Nat} {S : Nat → Prop} {W W' : World} (hf : Fr S W W') (hS : ∀ b, S b → b < W.heap.size → KindOk m2 W b) : Rel m2 W W' :=
  ⟨⟨hf.size, fun k o hm hk ho => (hf.block k (Array.getElem?_eq_some_iff.1 hk).1 (fun hs => by
    rcases (hS k hs (Array.getElem?_eq_some_iff.1 hk).1).2 with h | ⟨cs, T, hb⟩
    · omega
    · unfold Blk at hb
      rw [hb] at hk
      injection hk with hk
      rw [← hk] at ho
      cases ho)).trans hk⟩, hf.size, fun b cs T h1 hb => hb.fr hf (fun hs => (hS b hs hb.lt).1 T cs h1 hb)⟩
/-- a round has been done: s is what came so far -/
def FpPost {α : Type} (J : List α → (Nat → Prop) → World → Prop) (s : List α) (X : Nat → Prop) (W W' : World) : Prop := (∃ X', J s X' W' ∧ ∀ b, X' b → X b ∨ W.heap.size ≤ b) ∧ Fr X W W'
/-- what lies in memory by footprints -/
structure FpOk {α : Type} (B : Nat) (J : List α → (Nat → Prop) → World → Prop) : Prop where
  keep : ∀ s X W W', J s X W → Fr (fun b => ¬ X b ∧ B ≤ b) W W' → J s X W'
  kind : ∀ s X W b, J s X W → X b → KindOk B W b
  lt : ∀ s X W b, J s X W → X b → b < W.heap.size
/-- rounds that take elements; yOk: what is promised of an element, and of the value that stands for it -/
structure Takes {α : Type} (yOk : List α → α → Value → (Nat → Prop) → World → Prop) (l B : Nat) (J : List α → (Nat → Prop) → World → Prop) : Prop extends FpOk B J where
  call : ∀ (m : Nat) (s : List α) (X : Nat → Prop) (W : World) (x : α) (v : Value), J s X W → yOk s x v X W →
    YieldAt Fence.wide m Tryz.prog l #[v] W fun e W' => e = .returned (.bool true) ∧ FpPost J (s ++ [x]) X W W'
/-- a promise that a smaller footprint and a change of the footprint's blocks keep -/
def YKeeps {α : Type} (yOk : List α → α → Value → (Nat → Prop) → World → Prop) : Prop := ∀ s x v (X X1 : Nat → Prop) W W', yOk s x v X W → (∀ b, X1 b → X b) → Fr X W W' → yOk s x v X1 W'
theorem fr_putObj (W : World) (l : Nat) (o : Obj) : Fr (· = l) W (W.putObj l o) := ⟨rfl, rfl, rfl, by simp [World.putObj], fun i _ hn => World.putObj_heap_other hn⟩
section
variable {α : Type}
/-- where a round ends -/
def fpEnd (I : List α → (Nat → Prop) → World → Prop) (s : List α) (X : Nat → Prop) (W : World) : Exit → Act → World → Prop
  | .normal, _, W' => FpPost I s X W W'
  | _, _, _ => False
/-- the loop's record, and the block of the rounds' deferred calls -/
def FpRec (I : List α → (Nat → Prop) → World → Prop) (l D : Nat) (r : Loop) (s : List α) (X : Nat → Prop) (W : World) : Prop :=
  ∃ X1, I s X1 W ∧ (∀ b, X b ↔ (X1 b ∨ b = l ∨ b = D)) ∧ W.heap[l]? = some (.loop r) ∧ W.heap[D]? = some (.deferred (some []))
theorem no_blk_obj {W : World} {b : Nat} {o : Obj} (h : W.heap[b]? = some o) (ho : o.isCells = false) (T : TypeId) (cs : Array Value) : ¬ Blk W b T cs := by
  intro hb
  unfold Blk at hb
  rw [h] at hb
  injection hb with hb
  rw [hb] at ho
  cases ho
theorem FpRec.ok {I : List α → (Nat → Prop) → World → Prop} {l D B B' : Nat} {r : Loop} (h : FpOk B I) (hB : B ≤ B') (hl : l < B') (hD : D < B') : FpOk B' (FpRec I l D r) := by
  refine ⟨?_, ?_, ?_⟩
  · rintro s X W W' ⟨X1, h1, h2, h3, h4⟩ hf
    have hb : ∀ b, X b → b < W.heap.size → W'.heap[b]? = W.heap[b]? := fun b hx hlt => hf.block b hlt (fun hn => hn.1 hx)
    refine ⟨X1, h.keep s X1 W W' h1 (hf.more (fun b _ hn => ⟨fun hx => hn.1 ((h2 b).2 (.inl hx)), Nat.le_trans hB hn.2⟩)), h2, ?_, ?_⟩
    · exact (hb l ((h2 l).2 (.inr (.inl rfl))) (Array.getElem?_eq_some_iff.1 h3).1).trans h3
    · exact (hb D ((h2 D).2 (.inr (.inr rfl))) (Array.getElem?_eq_some_iff.1 h4).1).trans h4
  · rintro s X W b ⟨X1, h1, h2, h3, h4⟩ hx
    rcases (h2 b).1 hx with hx | rfl | rfl
    · exact (h.kind s X1 W b h1 hx).more hB
    · exact ⟨fun T cs _ => no_blk_obj h3 rfl T cs, .inl hl⟩
    · exact ⟨fun T cs _ => no_blk_obj h4 rfl T cs, .inl hD⟩
  · rintro s X W b ⟨X1, h1, h2, h3, h4⟩ hx
    rcases (h2 b).1 hx with hx | rfl | rfl
    · exact h.lt s X1 W b h1 hx
    · exact (Array.getElem?_eq_some_iff.1 h3).1
    · exact (Array.getElem?_eq_some_iff.1 h4).1
theorem wpIn_rangeFunc_fp {g : Operand} {p : Tmp} {assign body : Code} {Q : Exit → Act → World → Prop} {a : Act} {w : World} {n : Nat} {gf : Nat} {lb : Array Value} (hg : a.eval g = .func (.func gf) #[] lb) (eg : ∀ args w, (callFunc gf args).run Tryz.prog w = .ok (.enter gf args) w)
    (yOk : List α → α → Value → (Nat → Prop) → World → Prop) (hyk : YKeeps yOk) (I : List α → (Nat → Prop) → World → Prop) (X0 : Nat → Prop) (Yend : List α → Prop) (hI : FpOk w.heap.size I) (h0 : I [] X0 w)
    (hseq : ∀ (l : Nat) (J : List α → (Nat → Prop) → World → Prop) (X : Nat → Prop) (W : World), Below w.heap.size w W → (∀ b, X b → X0 b ∨ w.heap.size ≤ b) → Takes yOk l W.heap.size J → J [] X W → CallsIn Fence.wide (n - 1) Tryz.prog gf (#[.func (.yield l) #[] #[]] ++ lb) W fun e W' => (∃ v, e = .returned v) ∧ ∃ ys, Yend ys ∧ FpPost J ys X W W')
    (Ax : Value → Act → World → Prop) (hAx : ∀ v a' l o W, Ax v a' W → W.heap[l]? = some o → o.isCells = false → ∀ o', Ax v a' (W.putObj l o'))
    (hassign : ∀ (l : Nat) (s : List α) (X : Nat → Prop) (W : World) (x : α) (v : Value), I s X W → yOk s x v X W → assign.wpIn (Fence.wide.inRound l) (n - 1 - 1) Tryz.prog (Exit.then (fun a' W' => Below W.heap.size W W' ∧ Ax v a' W') (fun _ _ _ => False)) { tmps := (#[p].zip #[v]).foldl (fun t (p, v) => t.setIfInBounds p v) a.tmps, defers := [] } W)
    (hbody : ∀ (l : Nat) (s : List α) (X : Nat → Prop) (a' : Act) (W : World) (x : α) (v : Value), I s X W → yOk s x v X W → Ax v a' W → body.wpIn (Fence.wide.inRound l) (n - 1 - 1) Tryz.prog (fpEnd I (s ++ [x]) X W) a' W)
    (hdone : ∀ (D : Nat) (W : World) (ys : List α), w.heap.size ≤ D → Yend ys → FpPost I ys X0 w W → W.heap[D]? = some (.deferred (some [])) → (∀ X, I ys X W → ¬ X D) → Q .normal { a with defers := { target := .collected D, args := #[] } :: a.defers } W) :
    (Code.rangeFunc g #[p] assign body).wpIn Fence.wide n Tryz.prog Q a w := by
  refine wpIn_rangeFunc ?_
  intro fn hfn
  obtain ⟨rec, hrec⟩ : ∃ rec : LoopState → Option Code → Loop, rec = fun st pe => { state := st, pending := pe, fn, tmps := a.tmps, params := #[p], assign, body, defers := w.heap.size } := ⟨_, rfl⟩
  obtain ⟨W1, hW1⟩ : ∃ W1, (w.alloc (.deferred (some []))).alloc (.loop (rec .ready none)) = W1 := ⟨_, rfl⟩
  have hL1 : W1.heap[w.heap.size + 1]? = some (.loop (rec .ready none)) := by
    rw [← hW1]; have := World.alloc_heap_new (w.alloc (.deferred (some []))) (.loop (rec .ready none)); rwa [World.size_alloc] at this
  have hK1 : W1.heap[w.heap.size]? = some (.deferred (some [])) := by
    rw [← hW1]; exact (Below.heap_alloc _ _ _ (by simp)).trans (World.alloc_heap_new w _)
  have hb1 : Below w.heap.size w W1 := by rw [← hW1]; exact balloc (balloc (Below.refl _ w))
  have hs1 : W1.heap.size = w.heap.size + 1 + 1 := by rw [← hW1]; simp
  have hI1 : I [] X0 W1 := hI.keep _ _ _ _ h0 (Fr.of_below hb1)
  refine ⟨w.heap.size + 1, [{ target := .collected w.heap.size, args := #[] }], W1, { target := .fn (.func gf) lb, args := #[.func (.yield (w.heap.size + 1)) #[] #[]] }, W1, gf,
    #[.func (.yield (w.heap.size + 1)) #[] #[]] ++ lb, W1, ?_, ?_, ?_, ?_, (fun h => by cases h), ?_⟩
  · rw [← hW1, hrec]; exact run_enterLoop_outer _ _ _ _ _
  · simp only [resolve, hg]
    simp [go_sem]
  · intro f' hf'; exact trivial
  · simp [invoke, go_sem, eg]
  · have hnot : ∀ {s : List α} {X : Nat → Prop} {W : World} {b : Nat} {o : Obj}, I s X W → W.heap[b]? = some o → o.isCells = false → w.heap.size ≤ b → ¬ X b := fun h1 h2 h3 h4 hx => by
      rcases (hI.kind _ _ _ _ h1 hx).2 with h | ⟨cs, T, h⟩
      · omega
      · exact no_blk_obj h2 h3 T cs h
    refine (hseq (w.heap.size + 1) (FpRec I (w.heap.size + 1) w.heap.size (rec .ready none)) (fun b => X0 b ∨ b = w.heap.size + 1 ∨ b = w.heap.size) W1 hb1 (by
      rintro b (h | rfl | rfl)
      · exact .inl h
      · exact .inr (by omega)
      · exact .inr (by omega)) ⟨FpRec.ok hI (by omega) (by omega) (by omega), ?_⟩ ⟨X0, hI1, fun _ => Iff.rfl, hL1, hK1⟩).mono ?_
    · rintro m s X W x v ⟨X1, h1, h2, h3, h4⟩ hyy
      have hlt : w.heap.size + 1 < W.heap.size := (Array.getElem?_eq_some_iff.1 h3).1
      have hnl : ¬ X1 (w.heap.size + 1) := hnot h1 h3 rfl (by omega)
      have hnd : ¬ X1 w.heap.size := hnot h1 h4 rfl (by omega)
      have hy := run_yield (P := Tryz.prog) (args := #[v]) h3 (by rw [hrec]; rfl)
      rw [hrec] at hy
      have hy1 : yOk s x v X1 W := hyk _ _ _ _ _ _ _ hyy (fun b hb => (h2 b).2 (.inl hb)) (Fr.refl _ _)
      refine ⟨fn, _, assign, body, hy, roundIn_anyDepth rfl (roundIn_of_wpIn hfn (wpIn_mono (hassign _ s X1 W x v h1 hy1) ?_))⟩
      intro e a2 W2 he
      cases e with
      | normal =>
        obtain ⟨hb2, hax⟩ := he
        have h32 := (hb2.block _ hlt).trans h3
        have h42 := (hb2.block _ (by omega)).trans h4
        have hlt2 : w.heap.size + 1 < W2.heap.size := (Array.getElem?_eq_some_iff.1 h32).1
        have hI2 : I s X1 W2 := hI.keep _ _ _ _ h1 (Fr.of_below hb2)
        refine ⟨_, run_beginRound h32 (by rw [hrec]), ?_⟩
        have hax3 := hAx v a2 _ _ W2 hax h32 rfl (.loop { rec .ready none with state := .busy })
        obtain ⟨W3, hW3⟩ : ∃ W3, W2.putObj (w.heap.size + 1) (.loop { rec .ready none with state := .busy }) = W3 := ⟨_, rfl⟩
        have hl3 : W3.heap[w.heap.size + 1]? = some (.loop { rec .ready none with state := .busy }) := by rw [← hW3]; exact World.putObj_heap_same hlt2
        have hf3 : Fr (· = w.heap.size + 1) W2 W3 := by rw [← hW3]; exact fr_putObj _ _ _
        have hd3 : W3.heap[w.heap.size]? = some (.deferred (some [])) := (hf3.block _ (by omega) (by omega)).trans h42
        have hI3 : I s X1 W3 := hI.keep _ _ _ _ hI2 (hf3.more (fun b _ e => ⟨fun hx => hnl (by rw [← e]; exact hx), by omega⟩))
        have hfX : Fr X W W3 := (Fr.of_below hb2).trans (hf3.more (fun b _ e => (h2 b).2 (.inr (.inl e))))
        have hy3 : yOk s x v X1 W3 := hyk _ _ _ _ _ _ _ hyy (fun b hb => (h2 b).2 (.inl hb)) hfX
        rw [hW3] at hax3 ⊢
        refine wpIn_mono (hbody _ s X1 a2 W3 x v hI3 hy3 hax3) ?_
        intro e a3 W4 hp
        cases e with
        | normal =>
          obtain ⟨⟨X4, hI4, hx4⟩, hf4⟩ := hp
          have hl4 : W4.heap[w.heap.size + 1]? = some (.loop { rec .ready none with state := .busy }) := (hf4.block _ (by have := hf3.size; omega) hnl).trans hl3
          have hd4 : W4.heap[w.heap.size]? = some (.deferred (some [])) := (hf4.block _ (by have := hf3.size; omega) hnd).trans hd3
          have hlt4 : w.heap.size + 1 < W4.heap.size := (Array.getElem?_eq_some_iff.1 hl4).1
          have hr := run_endRound (P := Tryz.prog) none hl4
          rw [hrec] at hr
          have hnl4 : ¬ X4 (w.heap.size + 1) := hnot hI4 hl4 rfl (by omega)
          obtain ⟨W5, hW5⟩ : ∃ W5, W4.putObj (w.heap.size + 1) (.loop (rec .ready none)) = W5 := ⟨_, rfl⟩
          have hf5 : Fr (· = w.heap.size + 1) W4 W5 := by rw [← hW5]; exact fr_putObj _ _ _
          have hI5 : I (s ++ [x]) X4 W5 := hI.keep _ _ _ _ hI4 (hf5.more (fun b _ e => ⟨fun hx => hnl4 (by rw [← e]; exact hx), by omega⟩))
          refine ⟨_, W5, ?_, rfl, ⟨fun b => X4 b ∨ b = w.heap.size + 1 ∨ b = w.heap.size, ⟨X4, hI5, fun _ => Iff.rfl, ?_, (hf5.block _ (by omega) (by omega)).trans hd4⟩, ?_⟩, ?_⟩
          · rw [← hW5, hrec]
            exact hr
          · rw [← hW5]
            exact World.putObj_heap_same hlt4
          · rintro b (h | rfl | rfl)
            · rcases hx4 b h with h | h
              · exact .inl ((h2 b).2 (.inl h))
              · exact .inr (Nat.le_trans hb2.size (Nat.le_trans hf3.size h))
            · exact .inl ((h2 _).2 (.inr (.inl rfl)))
            · exact .inl ((h2 _).2 (.inr (.inr rfl)))
          · exact (hfX.trans (hf4.more (fun b _ h => (h2 b).2 (.inl h)))).trans (hf5.more (fun b _ e => (h2 b).2 (.inr (.inl e))))
        | _ => exact hp.elim
      | _ => exact he.elim
    · rintro e W2 ⟨⟨v, rfl⟩, ys, hys, ⟨X2, ⟨X3, h1, h2, h3, h4⟩, hx2⟩, hf2⟩
      have hlt : w.heap.size + 1 < W2.heap.size := (Array.getElem?_eq_some_iff.1 h3).1
      have hnl : ¬ X3 (w.heap.size + 1) := hnot h1 h3 rfl (by omega)
      have hr := run_endLoop (P := Tryz.prog) h3 (by rw [hrec]; simp)
      rw [hrec] at hr
      refine ⟨none, _, hr, ?_⟩
      obtain ⟨W5, hW5⟩ : ∃ W5, W2.putObj (w.heap.size + 1) (.loop { rec .ready none with state := .exhausted }) = W5 := ⟨_, rfl⟩
      rw [hrec] at hW5
      have hf5 : Fr (· = w.heap.size + 1) W2 W5 := by rw [← hW5]; exact fr_putObj _ _ _
      have hI5 : I ys X3 W5 := hI.keep _ _ _ _ h1 (hf5.more (fun b _ e => ⟨fun hx => hnl (by rw [← e]; exact hx), by omega⟩))
      have hd5 : W5.heap[w.heap.size]? = some (.deferred (some [])) := (hf5.block _ (by omega) (by omega)).trans h4
      rw [hW5]
      refine hdone w.heap.size W5 ys (Nat.le_refl _) hys ⟨⟨X3, hI5, fun b hb => ?_⟩, ?_⟩ hd5 (fun X hX => hnot hX hd5 rfl (Nat.le_refl _))
      · rcases hx2 b ((h2 b).2 (.inl hb)) with (h | rfl | rfl) | h
        · exact .inl h
        · exact .inr (by omega)
        · exact .inr (by omega)
        · exact .inr (by omega)
      · refine ((Fr.of_below hb1 : Fr X0 w W1).call hf2 (fun i hi h => ?_)).call hf5 (fun i hi h => ?_)
        · rcases h with h | rfl | rfl
          · exact h
          · omega
          · omega
        · omega
end
/-- what Items promises of a piece -/
def itOk (L : List Pc) (s : List Pc) (x : Pc) (v : Value) (_X : Nat → Prop) (_W : World) : Prop := v = .agg x.cells ∧ s ++ [x] <+: L
theorem itOk_keeps (L : List Pc) : YKeeps (itOk L) := fun _ _ _ _ _ _ _ h _ _ => h
/-- Items, by footprints -/
theorem items_fp (n : Nat) (G : Pc → Prop) (B1 B2 : Nat) (t : Tr) (a : Option Addr) (i : Int) (w : World) (hn : NodeAt w t a) (hG : ∀ p ∈ t.list, G p) (h1 : w.cell? ⟨B1, 0, none⟩ = some (.pointer a)) (h2 : w.cell? ⟨B2, 0, none⟩ = some (.int .i64 i))
    (i0 : -2147483648 ≤ i) (i1 : i ≤ 2147483648) (hlen : t.list.length ≤ 1073741824) (l : Nat) (J : List Pc → (Nat → Prop) → World → Prop) (X : Nat → Prop) (W : World) (hW : Below w.heap.size w W) (hT : Takes (itOk (t.list.drop i.toNat)) l W.heap.size J) (hj : J [] X W) :
    CallsIn Fence.wide n Tryz.prog 73 (#[.func (.yield l) #[] #[]] ++ #[.pointer (some ⟨B1, 0, none⟩), .pointer (some ⟨B2, 0, none⟩)]) W fun e W' => (∃ v, e = .returned v) ∧ ∃ ys, ys = t.list.drop i.toNat ∧ FpPost J ys X W W' := by
  refine callsIn_wide.2 ?_
  have hk : ∀ (s : List Pc) (W1 W2 : World), (∃ X1, J s X1 W1 ∧ (∀ b, X1 b → X b ∨ W.heap.size ≤ b) ∧ Fr X W W1) → Below W1.heap.size W1 W2 → ∃ X1, J s X1 W2 ∧ (∀ b, X1 b → X b ∨ W.heap.size ≤ b) ∧ Fr X W W2 := fun s W1 W2 ⟨X1, q1, q2, q3⟩ hb => ⟨X1, hT.keep _ _ _ _ q1 (Fr.of_below hb), q2, q3.bel hb⟩
  have hc := items1_any l G (fun s W1 => ∃ X1, J s X1 W1 ∧ (∀ b, X1 b → X b ∨ W.heap.size ≤ b) ∧ Fr X W W1) (fun _ _ => False) (t.list.drop i.toNat) B1 B2
    ⟨fun s W1 h => hk s W1 _ h (Below.drew (Below.refl _ _)), fun s W1 k h => hk s W1 _ h (below_drewN (Below.refl _ _) k)⟩ (fun s W1 o h => hk s W1 _ h (balloc (Below.refl _ _)))
    (fun m pre x W1 _ ⟨X1, q1, q2, q3⟩ hp => by
      refine (hT.call m pre X1 W1 x (.agg x.cells) q1 ⟨rfl, hp⟩).mono ?_
      rintro e W2 ⟨rfl, ⟨X2, r1, r2⟩, r3⟩
      refine .inl ⟨rfl, ⟨X2, r1, fun b hb => ?_, q3.call r3 (fun b hb h => ?_)⟩, (rel_fr2 (m2 := W.heap.size) r3 (fun b hb _ => hT.kind _ _ _ _ q1 hb)).2⟩
      · rcases r2 b hb with h | h
        · exact q2 b h
        · exact .inr (Nat.le_trans q3.size h)
      · rcases q2 b h with h | h
        · exact h
        · omega)
    t a i W (NodeAt.below hW t a hn) hG ((hW.cell (lt_of_cell h1)).trans h1) ((hW.cell (lt_of_cell h2)).trans h2) i0 i1 hlen ⟨X, hj, fun b h => .inl h, Fr.refl _ _⟩ (List.prefix_refl _)
  refine hc.mono ?_
  rintro e W' ⟨hv, (⟨X1, q1, q2, q3⟩ | ⟨q, _, hf⟩)⟩
  · exact ⟨hv, _, rfl, ⟨X1, q1, q2⟩, q3⟩
  · exact hf.elim
end Go.Proofs.YtflhiohjikgedaaGreatDoor
namespace Go.Proofs.YtflhiohjikgedaaGreatDoor
open Go.RowKit
attribute [local go_sem] Oper.semAt_some

/-- what Chunks promises of a chunk -/
def ckOk (L : List Int) (s : List (List Int)) (x : List Int) (v : Value) (X : Nat → Prop) (W : World) : Prop :=
  ∃ (A : Option Addr) (c : Nat) (D : Nat → Prop), v = .slice A x.length c ∧ Bts W D A x.length x ∧ (∀ b, D b → ¬ X b) ∧ 0 < x.length ∧ x.length ≤ 1024 ∧ x.length ≤ c ∧ Byt x ∧ (s ++ [x]).flatten <+: L
theorem ckOk_keeps (L : List Int) : YKeeps (ckOk L) := by
  rintro s x v X X1 W W' ⟨A, c, D, h1, h2, h3, h4⟩ hx hf
  exact ⟨A, c, D, h1, Reads.fr h2 hf (fun b hb _ => h3 b hb), fun b hb h => h3 b hb (hx b h), h4⟩
/-- what lies in memory within Chunks -/
structure ChS (J : List (List Int) → (Nat → Prop) → World → Prop) (B l q3 q4 bS : Nat) (bs : List Int) (X : Nat → Prop) (W : World) (s : List (List Int)) (cs : List Int) (A : Option Addr) (c : Nat) (X1 : Nat → Prop) : Prop where
  j : J s X1 W
  eq : s.flatten ++ cs = bs
  low : B ≤ q4
  row : W.ownsRow B 5 1 (.slice A cs.length c) cs.length (cs.map (Value.int .u8))
  b3 : Blk W q3 215 #[.func (.yield l) #[] #[]]
  b4 : Blk W q4 22 #[.slice A cs.length c]
  b5 : Blk W bS 3 #[.int .i64 1024]
  low5 : bS < B
  x : ∀ b, X b ↔ (X1 b ∨ b = q3 ∨ b = q4 ∨ (Value.slice A cs.length c).ownBlock = some b)
  n3 : ¬ X1 q3
  n4 : ¬ X1 q4
  n5 : ¬ X1 bS
  no : ∀ b, (Value.slice A cs.length c).ownBlock = some b → ¬ X1 b
def ChI (J : List (List Int) → (Nat → Prop) → World → Prop) (B l q3 q4 bS : Nat) (D : Nat → Prop) (ps pre : List Pc) (X : Nat → Prop) (W : World) : Prop :=
  (∃ s cs A c X1, ChS J B l q3 q4 bS (bytesL pre) X W s cs A c X1 ∧ cs.length < 1024) ∧ (∀ b, D b → ¬ X b) ∧ ∀ p ∈ ps, Bts W D p.A p.n p.bytes
section
variable {J : List (List Int) → (Nat → Prop) → World → Prop} {l q3 q4 bS B B' c : Nat} {bs cs : List Int} {X X1 : Nat → Prop} {W W' : World} {s : List (List Int)} {A : Option Addr}
theorem ChS.keep (h : ChS J B l q3 q4 bS bs X W s cs A c X1) (hJ : FpOk B J) (hf : Fr (fun b => ¬ X b ∧ B ≤ b) W W') : ChS J B l q3 q4 bS bs X W' s cs A c X1 := by
  have hx := h.x
  refine ⟨hJ.keep _ _ _ _ h.j (hf.more (fun b _ hn => ⟨fun hb => hn.1 ((hx b).2 (.inl hb)), hn.2⟩)), h.eq, h.low, ownsRow_fr h.row hf (fun b hb hn => hn.1 ((hx b).2 (by simp [hb]))), h.b3.fr hf (fun hn => hn.1 ((hx _).2 (by simp))), h.b4.fr hf (fun hn => hn.1 ((hx _).2 (by simp))), h.b5.fr hf (fun hn => by have := h.low5; omega), h.low5, hx, h.n3, h.n4, h.n5, h.no⟩
theorem ChS.kind (h : ChS J B l q3 q4 bS bs X W s cs A c X1) (hJ : FpOk B J) (b : Nat) (hb : X b) : KindOk B W b := by
  rcases (h.x b).1 hb with hb | rfl | rfl | hb
  · exact hJ.kind _ _ _ _ h.j hb
  · exact KindOk.blk h.b3 (by decide)
  · exact KindOk.blk h.b4 (by decide)
  · rcases h.row.2 with ⟨e, _⟩ | ⟨g, cap, cur, e, _, hg, _⟩
    · rw [e] at hb
      cases hb
    · rw [e] at hb
      injection hb with hb
      subst hb
      exact KindOk.blk hg (by decide)
theorem ChS.lt (h : ChS J B l q3 q4 bS bs X W s cs A c X1) (hJ : FpOk B J) (b : Nat) (hb : X b) : b < W.heap.size := by
  rcases (h.x b).1 hb with hb | rfl | rfl | hb
  · exact hJ.lt _ _ _ _ h.j hb
  · exact h.b3.lt
  · exact h.b4.lt
  · exact (h.row.lt b hb).2
theorem chI_ok {D : Nat → Prop} {ps : List Pc} (hJ : FpOk B J) (hB : B ≤ B') (hDB : ∀ b, D b → b < B') : FpOk B' (ChI J B l q3 q4 bS D ps) := by
  refine ⟨?_, ?_, ?_⟩
  · rintro pre X W W' ⟨⟨s, cs, A, c, X1, h, hl⟩, hD, hP⟩ hf
    exact ⟨⟨s, cs, A, c, X1, h.keep hJ (hf.more (fun b _ hn => ⟨hn.1, Nat.le_trans hB hn.2⟩)), hl⟩, hD, fun p hp => Reads.fr (hP p hp) hf (fun b hb _ hn => by have := hDB b hb; omega)⟩
  · rintro pre X W b ⟨⟨s, cs, A, c, X1, h, hl⟩, hD⟩ hb
    exact (h.kind hJ b hb).more hB
  · rintro pre X W b ⟨⟨s, cs, A, c, X1, h, hl⟩, hD⟩ hb
    exact h.lt hJ b hb
/-- bytes have been appended to the chunk -/
theorem ChS.app {W1 : World} {xs : List Int} {A' : Option Addr} {c' k : Nat} (h : ChS J B l q3 q4 bS bs X W s cs A c X1) (hJ : FpOk B J) (hBW : B ≤ W.heap.size) (hk : xs.length = k) (ha : AppH B (cs.length + k) (.slice A cs.length c) (cs.map (Value.int .u8) ++ xs.map (Value.int .u8)) W (.slice A' (cs.length + k) c') W1) :
    ∃ X2, ChS J B l q3 q4 bS (bs ++ xs) X2 (W1.setCell ⟨q4, 0, none⟩ (.slice A' (cs.length + k) c')) s (cs ++ xs) A' c' X1 ∧ (∀ b, X2 b → X b ∨ W.heap.size ≤ b) ∧ Fr X W (W1.setCell ⟨q4, 0, none⟩ (.slice A' (cs.length + k) c')) := by
  obtain ⟨ho, hf, hat⟩ := ha
  have hx := h.x
  have hXo : ∀ b, (Value.slice A cs.length c).ownBlock = some b → X b := fun b hb => (hx b).2 (by simp [hb])
  have hge : ∀ b, (Value.slice A cs.length c).ownBlock = some b → B ≤ b := fun b hb => (h.row.lt b hb).1
  have hn1 : ∀ b, (Value.slice A' (cs.length + k) c').ownBlock = some b → ¬ X1 b := fun b hb hx1 => by
    rcases hat with e | e
    · exact h.no b (e ▸ hb) hx1
    · rw [e] at hb
      injection hb with hb
      have := hJ.lt _ _ _ _ h.j hx1
      omega
  have b3' := h.b3.fr hf (fun e => own_blk_ne h.row h.b3 (by decide) e)
  have b4' := h.b4.fr hf (fun e => own_blk_ne h.row h.b4 (by decide) e)
  have b5' := h.b5.fr hf (fun e => own_blk_ne h.row h.b5 (by decide) e)
  have n34 : q3 ≠ q4 := Blk.ne_ h.b3 h.b4 (by decide)
  have n54 : bS ≠ q4 := Blk.ne_ h.b5 h.b4 (by decide)
  have hfq : Fr (fun b => b = q4) W1 (W1.setCell ⟨q4, 0, none⟩ (.slice A' (cs.length + k) c')) := (Fr.refl _ _).set1 0 _
  have hj1 : J s X1 W1 := hJ.keep _ _ _ _ h.j (hf.more (fun b _ e => ⟨h.no b e, hge b e⟩))
  have hj2 := hJ.keep _ _ _ _ hj1 (hfq.more (S' := fun b => ¬ X1 b ∧ B ≤ b) (fun b _ e => ⟨by rw [e]; exact h.n4, by rw [e]; exact h.low⟩))
  have hl : (cs ++ xs).length = cs.length + k := by rw [List.length_append, hk]
  have ho2 := ownsRow_setCell_other ho (a := ⟨q4, 0, none⟩) (own_blk_ne ho b4' (by decide)) (.slice A' (cs.length + k) c')
  refine ⟨fun b => X1 b ∨ b = q3 ∨ b = q4 ∨ (Value.slice A' (cs.length + k) c').ownBlock = some b, ⟨hj2, by rw [← h.eq, List.append_assoc], h.low, ?_, b3'.far (p := ⟨q4, 0, none⟩) n34 _, ?_, b5'.far (p := ⟨q4, 0, none⟩) n54 _, h.low5, ?_, h.n3, h.n4, h.n5, ?_⟩, ?_, ?_⟩
  · rw [hl, List.map_append]
    exact ho2
  · rw [hl]
    exact b4'.set_ 0 _
  · intro b
    rw [hl]
  · intro b hb
    rw [hl] at hb
    exact hn1 b hb
  · rintro b (hb | rfl | rfl | hb)
    · exact .inl ((hx b).2 (.inl hb))
    · exact .inl ((hx _).2 (by simp))
    · exact .inl ((hx _).2 (by simp))
    · rcases hat with e | e
      · exact .inl (hXo b (e ▸ hb))
      · rw [e] at hb
        injection hb with hb
        exact .inr (Nat.le_of_eq hb)
  · exact (hf.more (fun b _ e => hXo b e)).trans (hfq.more (fun b _ e => (hx b).2 (by simp [e])))
/-- the chunk has been handed on -/
theorem ChS.sent {W1 : World} (h : ChS J B l q3 q4 bS bs X W s cs A c X1) (hJ : FpOk B J) (hp : FpPost J (s ++ [cs]) X1 W W1) :
    Blk W1 q4 22 #[.slice A cs.length c] ∧ ∃ X2 X3, ChS J B l q3 q4 bS bs X2 (W1.setCell ⟨q4, 0, none⟩ (.slice none 0 0)) (s ++ [cs]) [] none 0 X3 ∧ (∀ b, X2 b → X b ∨ W.heap.size ≤ b) ∧ Fr X W (W1.setCell ⟨q4, 0, none⟩ (.slice none 0 0)) := by
  obtain ⟨⟨X3, hj3, hx3⟩, hf⟩ := hp
  have hx := h.x
  have b3' := h.b3.fr hf h.n3
  have b4' := h.b4.fr hf h.n4
  have b5' := h.b5.fr hf h.n5
  have l3 := h.b3.lt
  have l4 := h.b4.lt
  have l5 := h.b5.lt
  have n34 : q3 ≠ q4 := Blk.ne_ h.b3 h.b4 (by decide)
  have n54 : bS ≠ q4 := Blk.ne_ h.b5 h.b4 (by decide)
  have hno : ∀ b, b < W.heap.size → ¬ X1 b → ¬ X3 b := fun b hb hn hx' => by
    rcases hx3 b hx' with h | h
    · exact hn h
    · omega
  have m3 := hno _ l3 h.n3
  have m4 := hno _ l4 h.n4
  have m5 := hno _ l5 h.n5
  have hfq : Fr (fun b => b = q4) W1 (W1.setCell ⟨q4, 0, none⟩ (.slice none 0 0)) := (Fr.refl _ _).set1 0 _
  have hj4 := hJ.keep _ _ _ _ hj3 (hfq.more (S' := fun b => ¬ X3 b ∧ B ≤ b) (fun b _ e => ⟨by rw [e]; exact m4, by rw [e]; exact h.low⟩))
  refine ⟨b4', fun b => X3 b ∨ b = q3 ∨ b = q4, X3, ⟨hj4, by rw [List.flatten_append, List.append_nil, ← h.eq]; simp, h.low, World.ownsRow_nil _ _ _ _, b3'.far (p := ⟨q4, 0, none⟩) n34 _, b4'.set_ 0 _, b5'.far (p := ⟨q4, 0, none⟩) n54 _, h.low5, fun b => by simp [Value.ownBlock], m3, m4, m5, fun b hb => by cases hb⟩, ?_, ?_⟩
  · rintro b (hb | rfl | rfl)
    · rcases hx3 b hb with h' | h'
      · exact .inl ((hx b).2 (.inl h'))
      · exact .inr h'
    · exact .inl ((hx _).2 (by simp))
    · exact .inl ((hx _).2 (by simp))
  · exact (hf.more (fun b _ e => (hx b).2 (.inl e))).trans (hfq.more (fun b _ e => (hx b).2 (by simp [e])))
/-- the bytes of an own row -/
theorem bts_own {base n : Nat} {A : Option Addr} {c : Nat} {xs : List Int} (h : W.ownsRow base 5 1 (.slice A n c) n (xs.map (Value.int .u8))) : Bts W (fun b => (Value.slice A n c).ownBlock = some b) A n xs := by
  have := Reads.of_own h
  refine ⟨this.1, fun hn => ?_⟩
  obtain ⟨ad, e, _, hc⟩ := this.2 hn
  exact ⟨ad, e, by rw [e]; rfl, hc⟩
end
/-- within a piece: r of its bytes have gone -/
def ChR (J : List (List Int) → (Nat → Prop) → World → Prop) (B l q3 q4 bS : Nat) (D : Nat → Prop) (bs pb : List Int) (X' : Nat → Prop) (W' : World) (pn k : Nat) (q6 : Value) (wr : World) : Prop :=
  ∃ (r : Nat) (A' : Option Addr) (c' : Nat) (s : List (List Int)) (cs : List Int) (A : Option Addr) (c : Nat) (X1 Xr : Nat → Prop), q6 = .slice A' (pn - r) c' ∧ r ≤ pn ∧ pn - r ≤ c' ∧ Bts wr D A' (pn - r) (pb.drop r) ∧ pn - r ≤ k ∧
    Hid (ChS J B l q3 q4 bS (bs ++ pb.take r) Xr wr s cs A c X1) ∧ cs.length < 1024 ∧ Hid ((∀ b, Xr b → X' b ∨ W'.heap.size ≤ b) ∧ Fr X' W' wr ∧ ∀ b, D b → ¬ Xr b)
theorem bytesL_mem {ps : List Pc} {b : Int} (h : b ∈ bytesL ps) : ∃ p ∈ ps, b ∈ p.bytes := List.mem_flatMap.1 h
set_option maxRecDepth 100000 in
set_option maxHeartbeats 4000000 in
theorem chunks1_any (n : Nat) (D : Nat → Prop) (enc : Int) (t : Tr) (a : Option Addr) (bS bT l : Nat) (J : List (List Int) → (Nat → Prop) → World → Prop) (X : Nat → Prop) (W : World) (hS : Blk W bS 3 #[.int .i64 1024]) (hTr : Blk W bT 86 #[.pointer a]) (hn : NodeAt W t a)
    (hG : ∀ p ∈ t.list, GPc W D enc p) (hlen : t.list.length ≤ 1073741824) (hT : Takes (ckOk (bytesL t.list)) l W.heap.size J) (hj : J [] X W) (hX : ¬ X bS) (hD : ∀ b, D b → ¬ X b) (hD2 : ∀ b, D b → b < W.heap.size ∧ b ≠ bS) :
    CallsIn Fence.wide n Tryz.prog 124 (#[.func (.yield l) #[] #[]] ++ #[.pointer (some ⟨bS, 0, none⟩), .pointer (some ⟨bT, 0, none⟩)]) W fun e W' => (∃ v, e = .returned v) ∧ ∃ ys : List (List Int), ys.flatten = bytesL t.list ∧ FpPost J ys X W W' := by
  have c1 := hS.cell 0
  have c2 := hTr.cell 0
  simp at c1 c2
  have l1 := hS.lt
  have l2 := hTr.lt
  have HI := Lib.hid (fun w => items_any a 0 w)
  have hany : ∀ b, X b → b < W.heap.size := fun b hb => hT.lt _ _ _ _ hj hb
  refine callsIn_wide.2 ((callsIn_wide (n := 7)).1 ?_)
  refine callsIn_of_wp_marks Tryz.func124 rfl trivial ?_ rfl
  simp only [Tryz.ntmps124, List.size_toArray, List.length_cons, List.length_nil, Nat.reduceAdd, Nat.reduceSub, Array.replicate_succ, Array.replicate_zero, List.push_toArray, List.append_toArray, List.nil_append, List.cons_append]
  gi_wp2_with fail
  refine ⟨trivial, CallsIn.mono (callsIn_wide.2 (HI.out _)) ?_⟩
  rintro e w4 ⟨rfl, hw4⟩
  obtain ⟨q3, hq3⟩ : ∃ b, W.heap.size = b := ⟨_, rfl⟩
  have hb4 : Below W.heap.size W w4 := by rw [← hw4]; exact balloc (balloc (balloc (balloc (Below.refl _ _))))
  have k3 : Blk w4 q3 215 #[.func (.yield l) #[] #[]] := by rw [← hw4, ← hq3]; exact (((Blk.new W _ _).alloc _).alloc _).alloc _
  have k4 : Blk w4 (q3 + 1) 22 #[.slice none 0 0] := by
    rw [← hw4, ← hq3]
    have := Blk.new (W.alloc (.cells #[.func (.yield l) #[] #[]] 215)) 22 #[.slice none 0 0]
    rw [World.size_alloc] at this
    exact (this.alloc _).alloc _
  have t1 : w4.cell? ⟨q3 + 1 + 1, 0, none⟩ = some (.pointer a) := by
    have := Blk.new ((W.alloc (.cells #[.func (.yield l) #[] #[]] 215)).alloc (.cells #[.slice none 0 0] 22)) 86 #[.pointer a]
    rw [World.size_alloc, World.size_alloc, hq3] at this
    rw [← hw4]
    exact (this.alloc _).cell 0
  have t2 : w4.cell? ⟨q3 + 1 + 1 + 1, 0, none⟩ = some (.int .i64 0) := by
    have := Blk.new (((W.alloc (.cells #[.func (.yield l) #[] #[]] 215)).alloc (.cells #[.slice none 0 0] 22)).alloc (.cells #[.pointer a] 86)) 3 #[.int .i64 0]
    rw [World.size_alloc, World.size_alloc, World.size_alloc, hq3, hw4] at this
    exact this.cell 0
  have hz4 : w4.heap.size = q3 + 1 + 1 + 1 + 1 := by rw [← hw4, ← hq3]; simp
  simp only [World.size_alloc, hq3]
  have h0 : ChI J W.heap.size l q3 (q3 + 1) bS D t.list [] (fun b => X b ∨ b = q3 ∨ b = q3 + 1) w4 := by
    refine ⟨⟨[], [], none, 0, X, ⟨hT.keep _ _ _ _ hj (Fr.of_below hb4), rfl, by omega, World.ownsRow_nil _ _ _ _, k3, k4, hS.below hb4, l1, fun b => by simp [Value.ownBlock], fun h => by have := hany _ h; omega, fun h => by have := hany _ h; omega, hX, fun b h => by cases h⟩, by decide⟩, ?_, fun p hp => Reads.below (hG p hp).2 hb4⟩
    rintro b hb (h | h | h)
    · exact hD b hb h
    · have := (hD2 b hb).1; omega
    · have := (hD2 b hb).1; omega
  have hIok := chI_ok (l := l) (q3 := q3) (q4 := q3 + 1) (bS := bS) (D := D) (ps := t.list) (B' := w4.heap.size) hT.toFpOk (by omega) (fun b hb => by have := (hD2 b hb).1; omega)
  have HW4 := Lib.hid (show W.heap.size = q3 ∧ w4.heap.size = q3 + 1 + 1 + 1 + 1 from ⟨hq3, hz4⟩)
  clear hw4 k3 k4 hq3 hz4 HI
  gi_wp2_with fail
  refine wpIn_rangeFunc_fp rfl Tryz.call73 (itOk (t.list.drop (0 : Int).toNat)) (itOk_keeps _) (ChI J W.heap.size l q3 (q3 + 1) bS D t.list) (fun b => X b ∨ b = q3 ∨ b = q3 + 1) (fun ys => ys = t.list.drop (0 : Int).toNat) hIok h0
    (fun l2 J2 X2 W2 hW2 _ hT2 hj2 => items_fp _ (fun _ => True) (q3 + 1 + 1) (q3 + 1 + 1 + 1) t a 0 w4 (NodeAt.below hb4 t a hn) (fun _ _ => trivial) t1 t2 (by decide) (by decide) hlen l2 J2 X2 W2 hW2 hT2 hj2)
    (fun v a' W' => ∃ (Bx : Nat) (cx : Array Value), v = .agg cx ∧ Blk W' Bx 94 cx ∧ a' = { tmps := #[.func (.yield l) #[] #[], .pointer (some ⟨bS, 0, none⟩), .pointer (some ⟨bT, 0, none⟩), .pointer (some ⟨q3, 0, none⟩), .pointer (some ⟨q3 + 1, 0, none⟩), .pointer (some ⟨Bx, 0, none⟩), undef, undef, .int .i64 1024, .bool false, .agg #[.pointer a],
      .func (.func 73) #[] #[.pointer (some ⟨q3 + 1 + 1, 0, none⟩), .pointer (some ⟨q3 + 1 + 1 + 1, 0, none⟩)], .agg cx, undef, undef, undef, undef, undef, undef, undef, undef, undef, undef, undef, undef, undef, undef, undef, undef, undef, undef, undef, undef, undef, undef, undef, undef, undef, undef, undef, undef, undef, undef, undef, undef, undef, undef], defers := [] }) ?hAx ?hassign ?hbody ?hdone
  case hAx =>
    rintro v a' l2 o W' ⟨Bx, cx, rfl, h2, h3⟩ ho hc o'
    exact ⟨Bx, cx, rfl, h2.fr (fr_putObj W' l2 o') (fun e => no_blk_obj ho hc _ _ (e ▸ h2)), h3⟩
  case hassign =>
    rintro l2 s X' W' x v hI ⟨rfl, hp⟩
    simp only [Pc.cells, partC]
    gi_wp2
    exact ⟨balloc (Below.refl _ _), _, _, rfl, Blk.new W' _ _, rfl⟩
  case hbody =>
    rintro l2 pre X' a' W' x v hI ⟨rfl, hp⟩ ⟨Bx, cx, hcx, hbx, rfl⟩
    obtain ⟨⟨s0, cs0, A0, c0, X0, hC0, hl0⟩, hD0, hP0⟩ := hI
    have hxm : x ∈ t.list := by
      have := hp.subset (show x ∈ pre ++ [x] by simp)
      exact List.mem_of_mem_drop this
    obtain ⟨⟨xb, xl, xp, xn, xc, xt0, xt1, -⟩, -⟩ := hG x hxm
    have hbt0 := hP0 x hxm
    have hpre : bytesL (pre ++ [x]) <+: bytesL t.list := by
      obtain ⟨rest, hr⟩ := hp
      rw [show (0 : Int).toNat = 0 from rfl, List.drop_zero] at hr
      exact ⟨bytesL rest, by rw [← bytesL_app, hr]⟩
    have hBY : Byt (bytesL t.list) := fun z hz => by
      obtain ⟨p, hp, hz⟩ := bytesL_mem hz
      exact (hG p hp).1.byt z hz
    obtain ⟨pA, pn, pc, ptag, psum, pb⟩ := x
    injection hcx with hcx
    subst hcx
    dsimp only at xb xl xp xn xc xt0 xt1 hbt0
    have hap : bytesL (pre ++ [(⟨pA, pn, pc, ptag, psum, pb⟩ : Pc)]) = bytesL pre ++ pb := by
      rw [bytesL_app]
      simp [bytesL]
    obtain ⟨bs, hbs⟩ : ∃ bs, bytesL pre = bs := ⟨_, rfl⟩
    rw [hap, hbs] at hpre
    rw [hbs] at hC0 hap
    have d5 := hbx.cell 0
    simp [Pc.cells, partC] at d5
    have HPRE := Lib.hid hpre
    have HBY := Lib.hid hBY
    have HAP := Lib.hid hap
    have HC0 := Lib.hid hC0
    have HXL := Lib.hid xl
    have HT := Lib.hid hT
    have HP0 := Lib.hid hP0
    clear hpre hBY hap hC0 hbs hp hxm h0 hIok t1 t2 hG hP0 hn hTr hS c1 c2 xl hT
    gi_wp2
    gi_loopg [6] pn (fun k q wr => ChR J W.heap.size l q3 (q3 + 1) bS D bs pb X' W' pn k q wr)
    case atStart => exact ⟨0, pA, pc, s0, cs0, A0, c0, X0, X', rfl, Nat.zero_le _, xc, hbt0, Nat.le_refl _, Lib.hid (by rw [List.take_zero, List.append_nil]; exact HC0.out), hl0, Lib.hid ⟨fun b h => .inl h, Fr.refl _ _, hD0⟩⟩
    case round =>
      obtain ⟨r, A', c', s, cs, A, c, X1, Xr, rfl, hr, hc', hbt, hk, HC, hl, HF⟩ := hrel
      obtain ⟨m, hm⟩ : ∃ m, pn - r = m := ⟨_, rfl⟩
      obtain ⟨n0, hn0⟩ : ∃ n0, cs.length = n0 := ⟨_, rfl⟩
      have e4 := HC.out.b4.cell 0
      have e5 := HC.out.b5.cell 0
      have f4 := HC.out.b4.frozen 0
      have e3 := HC.out.b3.cell 0
      simp at e3 e4 e5
      rw [hm] at hbt hc' hk ⊢
      rw [hn0] at hl e4
      have HM := Lib.hid hm
      have HN0 := Lib.hid hn0
      clear d5 hbx hm hn0
      by_cases hrp : 0 < m
      · have i0 : ((0 : Int) < (m : Int)) = True := by simp; omega
        have e1 : IntKind.i64.wrap (1024 - (n0 : Int)) = 1024 - (n0 : Int) := IntWalk.i64_in _ (by omega)
        gi_upto_region 7 with fail
        gi_cut [7] from 47 (fun q7 wx => (∃ k : Nat, q7 = .int .i64 (k : Int) ∧ 0 < k ∧ k ≤ m ∧ n0 + k ≤ 1024 ∧ (n0 + k = 1024 ∨ k = m)) ∧ wx = wr)
        case first =>
          by_cases hfull : 1024 ≤ n0 + m
          · have z1 : ((m : Int) < 1024 - (n0 : Int)) = False := by simp; omega
            gi_wp2
            gi_meet
            exact ⟨⟨1024 - n0, by congr 1; omega, by omega, by omega, by omega, .inl (by omega)⟩, rfl⟩
          · have z1 : ((m : Int) < 1024 - (n0 : Int)) = True := by simp; omega
            gi_wp2
            gi_meet
            exact ⟨⟨m, rfl, by omega, by omega, by omega, .inr rfl⟩, rfl⟩
        case rest =>
          obtain ⟨⟨k, rfl, k0, k1, k2, k3⟩, rfl⟩ := hcut
          obtain ⟨ad, rfl, had, -⟩ := hbt.at_ (show 0 < m by omega)
          have hb8 : Bts wc.drew D (some ad) k ((pb.drop r).take k) := by
            have := Reads.take (Reads.below hbt (Below.drew (Below.refl _ _))) k1
            rw [Nat.mul_one, ← List.map_take] at this
            exact this
          have HFF : Hid (∀ w', Fr (fun b => (Value.slice A n0 c).ownBlock = some b) wc w' → w'.cell? ⟨q3 + 1, 0, none⟩ = some (.slice A n0 c) ∧ w'.frozen? ⟨q3 + 1, 0, none⟩ = false) := Lib.hid (fun w' h => by
            have h1 := HC.out.b4
            have h2 := HC.out.row
            rw [HN0.out] at h1 h2
            have h3 := h1.fr h (fun e => own_blk_ne h2 h1 (by decide) e)
            exact ⟨h3.cell 0, h3.frozen 0⟩)
          have HO : Hid (wc.drew.ownsRow W.heap.size 5 1 (.slice A n0 c) n0 (cs.map (Value.int .u8))) := Lib.hid (by
            have h2 := HC.out.row
            rw [HN0.out] at h2
            exact ownsRow_below h2 (Below.drew (Below.refl _ _)))
          have hkl : ((pb.drop r).take k).length = k := hb8.len
          obtain ⟨ys, hys⟩ : ∃ ys, (pb.drop r).take k = ys := ⟨_, rfl⟩
          rw [hys] at hb8 hkl
          have HB8 := Lib.hid hb8
          have HYS := Lib.hid hys
          have HKL := Lib.hid hkl
          have j0 : k ≤ c' := Nat.le_trans k1 hc'
          have j1 : (k : Int) ≤ (c' : Int) := by omega
          have hWw : W.heap.size ≤ wc.heap.size := Nat.le_trans (Nat.le_of_eq HW4.out.1) (Nat.le_trans (by omega) (Nat.le_of_lt HC.out.b4.lt))
          obtain ⟨ib, hib, hb0, hb1, hb2⟩ := info_parts byte_info
          have HIB := Lib.hid hib
          clear hb8 hkl e3 e4 e5 f4 hib hys
          gi_upto_region 8 with fail
          refine wpIn_round_lin (fun w' => Fr (fun b => (Value.slice A n0 c).ownBlock = some b) wc w') (fun w' => w' = wc.drew) (fun k => k == 4 || k == 5) (fun k => k == 5) (fun _ => false) (by kernel_rfl) (by kernel_rfl) (fun ⟨_, _, h⟩ => h) (by kernel_rfl) rfl (fun w' h => by subst h; exact (Fr.refl _ _).drew) ?_
          repeat ((first
            | (refine wpL_read (v := ?_) (by rfl) (by rfl) (fun w6 hSw => ?_) ?_; rotate_left; (· (obtain ⟨y0, y1⟩ := HFF.out _ hSw; go_simp; try with_reducible rfl)))
            | (refine wpL_free (v := ?_) (by rfl) (fun w6 => ?_) ?_; rotate_left; (· (go_simp; try with_reducible rfl)))
            | refine wpL_not (by rfl) ?_); (try simp only [Act.put, List.setIfInBounds_toArray, List.set_cons_zero, List.set_cons_succ]))
          refine wpL_heavy (AppH W.heap.size (n0 + k) (.slice A n0 c) (cs.map (Value.int .u8) ++ ys.map (Value.int .u8)) wc) (by rfl) (by rfl) (fun w6 hSw => ?_) (.inr (fun v6 w6 hT6 => ?_)) (fun v6 hv6 => ?_)
          · (subst hSw; exact hrun_append_own 22 rfl W.heap.size 5 ib (.int .u8 0) 1 1 Tryz.underlying22 HIB.out hb0 hb1 hb2 rfl (by decide) (.slice A n0 c) n0 _ rfl (by exact HO.out) ad k c' (ys.map (Value.int .u8)) rfl (by rw [List.length_map, HKL.out, Nat.mul_one]) (by exact bts_cells HB8.out) (by intro u hu; obtain ⟨x, _, rfl⟩ := List.mem_map.1 hu; rfl) (by unfold maxLen; omega) (by omega) hWw (fun v' w' ho' hg' _ hat' => ⟨ho', (Fr.refl _ wc).drew.grown hg' (fun r hr _ => hr), hat'⟩))
          · (exact hT6.2.1)
          obtain ⟨wz, hz7, -, -⟩ := hv6; obtain ⟨A7, c7, rfl, -⟩ := own_slice hz7
          (try simp only [Act.put, List.setIfInBounds_toArray, List.set_cons_zero, List.set_cons_succ])
          repeat ((first
            | (refine wpL_read (v := ?_) (by rfl) (by rfl) (fun w6 hSw => ?_) ?_; rotate_left; (· (skip; go_simp; try with_reducible rfl)))
            | (refine wpL_free (v := ?_) (by rfl) (fun w6 => ?_) ?_; rotate_left; (· (go_simp; try with_reducible rfl)))
            | refine wpL_not (by rfl) ?_); (try simp only [Act.put, List.setIfInBounds_toArray, List.set_cons_zero, List.set_cons_succ]))
          refine wpL_heavy (fun _ w'' => ∃ w', AppH W.heap.size (n0 + k) (.slice A n0 c) (cs.map (Value.int .u8) ++ ys.map (Value.int .u8)) wc (.slice A7 (n0 + k) c7) w' ∧ w'' = w'.setCell ⟨q3 + 1, 0, none⟩ (.slice A7 (n0 + k) c7)) (by rfl) (by rfl) (fun w6 hSw => ?_) (.inl (by rfl)) (fun v6 hv6 => ?_)
          · (obtain ⟨y0, y1⟩ := HFF.out _ hSw.2.1; go_simp; exact ⟨w6, hSw, rfl⟩)
          skip
          (try simp only [Act.put, List.setIfInBounds_toArray, List.set_cons_zero, List.set_cons_succ])
          refine wpL_nil ?_
          rintro w9 ⟨w8, hA8, rfl⟩
          have hC9 := HC.out.app (xs := ys) (A' := A7) (c' := c7) (k := k) (W1 := w8) HT.out.toFpOk hWw HKL.out (by rw [HN0.out]; exact hA8)
          rw [HN0.out] at hC9
          obtain ⟨X9, hC9, hx9, hf9⟩ := hC9
          obtain ⟨wA, hwA⟩ : ∃ wA, w8.setCell ⟨q3 + 1, 0, none⟩ (.slice A7 (n0 + k) c7) = wA := ⟨_, rfl⟩
          rw [hwA] at hC9 hf9 ⊢
          have hl9 : (cs ++ ys).length = n0 + k := by rw [List.length_append, HN0.out, HKL.out]
          have e4 := hC9.b4.cell 0
          have e5 := hC9.b5.cell 0
          have e3 := hC9.b3.cell 0
          rw [hl9] at e4
          simp at e3 e4 e5
          have htk : bs ++ pb.take r ++ ys = bs ++ pb.take (r + k) := by rw [List.append_assoc, ← HYS.out, List.take_add]
          rw [htk] at hC9
          obtain ⟨A9, hA9⟩ : ∃ A9, (if c' = k then some ad else some (ad.add k)) = A9 := ⟨_, rfl⟩
          have hbt9 : Bts wA D A9 (m - k) (pb.drop (r + k)) := by
            have h1 : Bts wA D (some ad) m (pb.drop r) := Reads.fr hbt hf9 (fun b hb _ h => HF.out.2.2 b hb h)
            rcases Nat.eq_zero_or_pos (m - k) with hz | hz
            · rw [hz]
              have : pb.drop (r + k) = [] := List.drop_eq_nil_of_le (by have := HM.out; have := HXL.out; omega)
              rw [this]
              exact ⟨by simp, fun h => absurd h (by omega)⟩
            · rw [← hA9, if_neg (by omega), ← List.drop_drop, add_pos ad k (by omega)]
              exact h1.cut_ k0 k1
          have hXD : (∀ b, X9 b → X' b ∨ W'.heap.size ≤ b) ∧ Fr X' W' wA ∧ ∀ b, D b → ¬ X9 b := by
            obtain ⟨r1, r2, r3⟩ := HF.out
            refine ⟨fun b hb => ?_, r2.call hf9 (fun b hb h => ?_), fun b hb h => ?_⟩
            · rcases hx9 b hb with h | h
              · exact r1 b h
              · exact .inr (Nat.le_trans r2.size h)
            · rcases r1 b h with h | h
              · exact h
              · omega
            · rcases hx9 b h with h | h
              · exact r3 b hb h
              · have := (hD2 b hb).1
                omega
          have HC9 := Lib.hid hC9
          have HBT9 := Lib.hid hbt9
          have HXD := Lib.hid hXD
          have HL9 := Lib.hid hl9
          have HTK := Lib.hid htk
          obtain ⟨N, hN⟩ : ∃ N, n0 + k = N := ⟨_, rfl⟩
          rw [hN] at e4 k2 k3
          have HN := Lib.hid hN
          clear hA8 hwA hz7 hv6 hC9 hbt9 hXD hf9 hx9 hl9 htk hN hbt HO HFF HB8
          rcases Nat.lt_or_ge N 1024 with hlt | hge
          · have z1 : ((N : Int) == 1024) = false := by rw [beq_eq_false_iff_ne]; omega
            gi_wp2
            gi_roundg (m - k)
            case measure => omega
            case rel =>
              refine ⟨r + k, A9, c' - k, s, cs ++ ys, A7, c7, X1, X9, ?_, ?_, ?_, ?_, ?_, Lib.hid HC9.out, ?_, Lib.hid HXD.out⟩
              · congr 1
                have := HM.out
                omega
              · have := HM.out
                omega
              · have := HM.out
                omega
              · have := HBT9.out
                rwa [show m - k = pn - (r + k) by have := HM.out; omega] at this
              · have := HM.out
                omega
              · rw [HL9.out, HN.out]
                exact hlt
          · obtain rfl : N = 1024 := by omega
            have hle7 : 1024 ≤ c7 := by
              have h1 := HC9.out.row
              rw [HL9.out, HN.out] at h1
              obtain ⟨A0', c0', e, h2⟩ := own_slice h1
              injection e with _ _ e
              omega
            have hlen9 : (cs ++ ys).length = 1024 := by rw [HL9.out, HN.out]
            have hfl : (s ++ [cs ++ ys]).flatten = bs ++ pb.take (r + k) := by rw [List.flatten_append, ← HC9.out.eq]; simp
            have hpx : (s ++ [cs ++ ys]).flatten <+: bytesL t.list := by
              rw [hfl]
              exact ((List.prefix_append_right_inj bs).2 (List.take_prefix _ _)).trans HPRE.out
            have hck : ckOk (bytesL t.list) s (cs ++ ys) (.slice A7 1024 c7) X1 wA := by
              have h1 := HC9.out.row
              have h2 := HC9.out.no
              rw [hlen9] at h1 h2
              refine ⟨A7, c7, _, by rw [hlen9], by rw [hlen9]; exact bts_own h1, h2, by omega, by omega, by omega, fun z hz => HBY.out z (hpx.subset ?_), hpx⟩
              rw [List.flatten_append]
              simp only [List.flatten_cons, List.flatten_nil, List.append_nil]
              exact List.mem_append_right _ hz
            obtain ⟨fn, tmps, assign, body, hyy, hR⟩ := HT.out.call 4 s X1 wA (cs ++ ys) _ HC9.out.j hck
            have HLEN9 := Lib.hid hlen9
            clear hfl hpx hck hlen9
            gi_wp2_with fail
            refine RoundIn.mono (F := Fence.wide.inRound l2) hR ?_
            rintro e w6 ⟨rfl, hpost⟩
            obtain ⟨b46, X6, X7, hC6, hx6, hf6⟩ := HC9.out.sent HT.out.toFpOk hpost
            have g4 := b46.frozen 0
            have e6 := b46.cell 0
            simp at e6
            have hfX : Fr X' W' (w6.setCell ⟨q3 + 1, 0, none⟩ (.slice none 0 0)) := HXD.out.2.1.call hf6 (fun b hb h => by
              rcases HXD.out.1 b h with h | h
              · exact h
              · omega)
            have hX6 : ∀ b, X6 b → X' b ∨ W'.heap.size ≤ b := fun b hb => by
              rcases hx6 b hb with h | h
              · exact HXD.out.1 b h
              · exact .inr (Nat.le_trans HXD.out.2.1.size h)
            have hD6 : ∀ b, D b → ¬ X6 b := fun b hb h => by
              rcases hx6 b h with h | h
              · exact HXD.out.2.2 b hb h
              · have := (hD2 b hb).1
                have := HC9.out.b3.lt
                have := HW4.out.1
                omega
            have hbt6 : Bts (w6.setCell ⟨q3 + 1, 0, none⟩ (.slice none 0 0)) D A9 (m - k) (pb.drop (r + k)) := Reads.fr HBT9.out hf6 (fun b hb _ h => HXD.out.2.2 b hb h)
            have HC6 := Lib.hid hC6
            have HF6 := Lib.hid (show (∀ b, X6 b → X' b ∨ W'.heap.size ≤ b) ∧ Fr X' W' (w6.setCell ⟨q3 + 1, 0, none⟩ (.slice none 0 0)) ∧ ∀ b, D b → ¬ X6 b from ⟨hX6, hfX, hD6⟩)
            have HBT6 := Lib.hid hbt6
            clear hyy hR hpost b46 hC6 hx6 hf6 hfX hX6 hD6 hbt6 e3 e4 e5 hle7
            gi_wp2
            gi_roundg (m - k)
            case measure => omega
            case rel =>
              refine ⟨r + k, A9, c' - k, s ++ [cs ++ ys], [], none, 0, X7, X6, ?_, ?_, ?_, ?_, ?_, Lib.hid HC6.out, by decide, Lib.hid HF6.out⟩
              · congr 1
                have := HM.out
                omega
              · have := HM.out
                omega
              · have := HM.out
                omega
              · have := HBT6.out
                rwa [show m - k = pn - (r + k) by have := HM.out; omega] at this
              · have := HM.out
                omega
      · obtain rfl : m = 0 := by omega
        gi_wp2
        have hrn : pb.take r = pb := List.take_of_length_le (by have := HM.out; have := HXL.out; omega)
        have hC := HC.out
        rw [hrn, ← HAP.out] at hC
        obtain ⟨r1, r2, r3⟩ := HF.out
        exact ⟨⟨Xr, ⟨⟨s, cs, A, c, X1, hC, by rw [HN0.out]; exact hl⟩, r3, fun p hp => Reads.fr (HP0.out p hp) r2 (fun b hb _ h => hD0 b hb h)⟩, r1⟩, r2⟩
  case hdone =>
    rintro D2 W5 ys hD2 rfl ⟨⟨X5, ⟨⟨s, cs, A, c, X1, hC, hl⟩, hD5, -⟩, hx5⟩, hf5⟩ hK hnD
    obtain ⟨n0, hn0⟩ : ∃ n0, cs.length = n0 := ⟨_, rfl⟩
    have e4 := hC.b4.cell 0
    have e3 := hC.b3.cell 0
    simp at e3 e4
    rw [hn0] at e4
    rw [show (0 : Int).toNat = 0 from rfl, List.drop_zero] at hC
    have HN0 := Lib.hid hn0
    have HC := Lib.hid hC
    have HT := Lib.hid hT
    clear hC hn0 hIok h0 t1 t2 hnD hT hTr hn c1 c2
    have hkey : ∀ (W6 : World) (s' : List (List Int)) (X6 : Nat → Prop), J s' X6 W6 → (∀ b, X6 b → X1 b ∨ W5.heap.size ≤ b) → Fr X1 W5 W6 → FpPost J s' X W (W6.putObj D2 (.deferred none)) ∧ W6.heap[D2]? = some (.deferred (some [])) := by
      intro W6 s' X6 hj6 hx6 hf6
      have hn1 : ¬ X1 D2 := fun h => by
        rcases (HT.out.kind _ _ _ _ HC.out.j h).2 with h | ⟨cs, T, h⟩
        · have := hb4.size
          omega
        · exact no_blk_obj hK rfl T cs h
      have hlt := (Array.getElem?_eq_some_iff.1 hK).1
      have hn6 : ¬ X6 D2 := fun h => by
        rcases hx6 D2 h with h | h
        · exact hn1 h
        · omega
      have hg := hb4.size
      refine ⟨⟨⟨X6, HT.out.keep _ _ _ _ hj6 ((fr_putObj W6 D2 _).more (fun b _ e => ⟨by rw [e]; exact hn6, by rw [e]; omega⟩)), fun b hb => ?_⟩, ?_⟩, (hf6.block _ hlt hn1).trans hK⟩
      · rcases hx6 b hb with h | h
        · rcases hx5 b ((HC.out.x b).2 (.inl h)) with (h | h | h) | h
          · exact .inl h
          · exact .inr (by have := HW4.out.1; omega)
          · exact .inr (by have := HW4.out.1; omega)
          · exact .inr (by omega)
        · exact .inr (by have := hf5.size; omega)
      · refine (((Fr.of_below hb4 : Fr X W w4).call hf5 (fun b hb h => ?_)).call hf6 (fun b hb h => ?_)).call (fr_putObj W6 D2 _) (fun b hb h => ?_)
        · rcases h with h | h | h
          · exact h
          · have := HW4.out.1; omega
          · have := HW4.out.1; omega
        · rcases hx5 b ((HC.out.x b).2 (.inl h)) with (h | h | h) | h
          · exact h
          · have := HW4.out.1; omega
          · have := HW4.out.1; omega
          · omega
        · omega
    rcases Nat.eq_zero_or_pos n0 with rfl | hpos
    · gi_wp2_with fail
      obtain ⟨p1, p2⟩ := hkey W5 s X1 HC.out.j (fun b h => .inl h) (Fr.refl _ _)
      refine ⟨by simp, .inl ⟨_, _, rfl, run_takeDeferred hK, ?_⟩⟩
      refine ⟨_, results_none rfl _ _ _, ⟨_, rfl⟩, s, ?_, p1⟩
      have := HC.out.eq
      rwa [List.eq_nil_of_length_eq_zero HN0.out, List.append_nil] at this
    · have z1 : ((0 : Int) < (n0 : Int)) = True := by simp; omega
      have hBY : Byt (bytesL t.list) := fun z hz => by
        obtain ⟨p, hp, hz⟩ := bytesL_mem hz
        exact (hG p hp).1.byt z hz
      have hle7 : n0 ≤ c := by
        have h1 := HC.out.row
        rw [HN0.out] at h1
        obtain ⟨A0', c0', e, h2⟩ := own_slice h1
        injection e with _ _ e
        omega
      have hfl : (s ++ [cs]).flatten = bytesL t.list := by rw [List.flatten_append, ← HC.out.eq]; simp
      have hck : ckOk (bytesL t.list) s cs (.slice A n0 c) X1 W5 := by
        have h1 := HC.out.row
        have h2 := HC.out.no
        rw [HN0.out] at h1 h2
        refine ⟨A, c, _, by rw [HN0.out], by rw [HN0.out]; exact bts_own h1, h2, by rw [HN0.out]; omega, by omega, by rw [HN0.out]; exact hle7, fun z hz => hBY z ?_, by rw [hfl]; exact List.prefix_refl _⟩
        rw [← HC.out.eq]
        exact List.mem_append_right _ hz
      obtain ⟨fn, tmps, assign, body, hyy, hR⟩ := HT.out.call 6 s X1 W5 cs _ HC.out.j hck
      clear hck hBY
      gi_wp2_with fail
      refine RoundIn.mono (F := Fence.wide) hR ?_
      rintro e w6 ⟨rfl, ⟨X6, hj6, hx6⟩, hf6⟩
      obtain ⟨p1, p2⟩ := hkey w6 _ X6 hj6 hx6 hf6
      clear hyy hR
      gi_wp2_with fail
      refine ⟨by simp, .inl ⟨_, _, rfl, run_takeDeferred p2, ?_⟩⟩
      exact ⟨_, results_none rfl _ _ _, ⟨_, rfl⟩, _, hfl, p1⟩
end Go.Proofs.YtflhiohjikgedaaGreatDoor
namespace Go.Proofs.YtflhiohjikgedaaGreatDoor
open Go.RowKit

/-- what stays while a file is filled -/
structure Fx where
  (b0 fb d sb f fA q3 q4 q7 nA cA : Nat)
  (ls ac : Value)
  (last num sy numA syA ctA : Int)
  AA : Option Addr
  fc : Array Value
/-- the directory: the file, and the one beside it -/
def Fx.dir (x : Fx) : List (ByteArray × Value) := [(sA, .pointer (some ⟨x.fA, 0, none⟩)), (sT, .pointer (some ⟨x.f, 0, none⟩))]
theorem sT_ne : sT ≠ sA := fun e => by
  have := congrArg ByteArray.size e
  exact absurd this (by decide)
theorem Fx.get (x : Fx) : getS x.dir sT = some (.pointer (some ⟨x.f, 0, none⟩)) := by
  unfold Fx.dir
  rw [getS_cons, if_neg sT_ne, getS_cons, if_pos rfl]
theorem Fx.getA (x : Fx) : getS x.dir sA = some (.pointer (some ⟨x.fA, 0, none⟩)) := by
  unfold Fx.dir
  rw [getS_cons, if_pos rfl]
structure FiS (x : Fx) (W : World) (X : Nat → Prop) (st ct : Int) (A0 : Option Addr) (c0 : Nat) (fby : List Int) (A : Option Addr) (c : Nat) (rdy : List Int) : Prop where
  b3 : Blk W x.q3 32 #[.pointer (some ⟨x.fb, 0, none⟩)]
  b4 : Blk W x.q4 9 #[.string sT]
  bf : Blk W x.fb 75 x.fc
  fc : x.fc[0]? = some (.pointer (some ⟨x.d, 0, none⟩))
  mp : MapS W x.sb x.dir
  fl : FlAt W x.fA x.numA (.slice x.AA x.nA x.cA) x.syA x.ctA
  dk : DkAt W x.d x.sb x.ls x.ac x.last st
  fT : FlAt W x.f x.num (.slice A0 fby.length c0) x.sy ct
  row : W.ownsRow x.b0 5 1 (.slice A0 fby.length c0) fby.length (fby.map (Value.int .u8))
  b7 : Blk W x.q7 22 #[.slice A rdy.length c]
  row2 : W.ownsRow x.b0 5 1 (.slice A rdy.length c) rdy.length (rdy.map (Value.int .u8))
  ne : ∀ b, (Value.slice A0 fby.length c0).ownBlock = some b → (Value.slice A rdy.length c).ownBlock ≠ some b
  fne : x.f ≠ x.fA
  x : ∀ b, X b ↔ (b = x.d ∨ b = x.f ∨ b = x.q7 ∨ (Value.slice A0 fby.length c0).ownBlock = some b ∨ (Value.slice A rdy.length c).ownBlock = some b)
section
variable {x : Fx} {W W' W1 : World} {X : Nat → Prop} {st ct : Int} {A0 A : Option Addr} {c0 c B : Nat} {fby rdy : List Int}
/-- blocks below B, and those of X, stay -/
theorem FiS.keep (h : FiS x W X st ct A0 c0 fby A c rdy) (hB : x.q3 < B ∧ x.q4 < B ∧ x.fb < B ∧ x.sb < B ∧ x.fA < B) (hf : Fr (fun b => ¬ X b ∧ B ≤ b) W W') : FiS x W' X st ct A0 c0 fby A c rdy := by
  obtain ⟨l1, l2, l3, l4, l5⟩ := hB
  have hx := h.x
  exact ⟨h.b3.fr hf (fun hn => by omega), h.b4.fr hf (fun hn => by omega), h.bf.fr hf (fun hn => by omega), h.fc, h.mp.fr hf (fun hn => by omega), Blk.fr h.fl hf (fun hn => by omega), Blk.fr h.dk hf (fun hn => hn.1 ((hx _).2 (by simp))), Blk.fr h.fT hf (fun hn => hn.1 ((hx _).2 (by simp))),
    ownsRow_fr h.row hf (fun b hb hn => hn.1 ((hx b).2 (by simp [hb]))), h.b7.fr hf (fun hn => hn.1 ((hx _).2 (by simp))), ownsRow_fr h.row2 hf (fun b hb hn => hn.1 ((hx b).2 (by simp [hb]))), h.ne, h.fne, hx⟩
theorem FiS.kind (h : FiS x W X st ct A0 c0 fby A c rdy) (b : Nat) (hb : X b) : KindOk B W b := by
  have hrow : ∀ {v : Value} {k : Nat} {xs : List Value}, W.ownsRow x.b0 5 1 v k xs → v.ownBlock = some b → KindOk B W b := fun hr hb => by
    rcases hr.2 with ⟨e, _⟩ | ⟨g, cap, cur, e, _, hg, _⟩
    · rw [e] at hb
      cases hb
    · rw [e] at hb
      injection hb with hb
      subst hb
      exact KindOk.blk hg (by decide)
  rcases (h.x b).1 hb with rfl | rfl | rfl | hb | hb
  · exact KindOk.blk h.dk (by decide)
  · exact KindOk.blk h.fT (by decide)
  · exact KindOk.blk h.b7 (by decide)
  · exact hrow h.row hb
  · exact hrow h.row2 hb
theorem FiS.lt (h : FiS x W X st ct A0 c0 fby A c rdy) (b : Nat) (hb : X b) : b < W.heap.size := by
  rcases (h.x b).1 hb with rfl | rfl | rfl | hb | hb
  · exact Blk.lt h.dk
  · exact Blk.lt h.fT
  · exact h.b7.lt
  · exact (h.row.lt b hb).2
  · exact (h.row2.lt b hb).2
/-- the bytes that are ready are others -/
theorem FiS.ready (h : FiS x W X st ct A0 c0 fby A c rdy) {A' : Option Addr} {c' : Nat} {rdy' : List Int} (hf : Fr (fun b => (Value.slice A rdy.length c).ownBlock = some b) W W1) (ho : W1.ownsRow x.b0 5 1 (.slice A' rdy'.length c') rdy'.length (rdy'.map (Value.int .u8)))
    (hat : (Value.slice A' rdy'.length c').ownBlock = (Value.slice A rdy.length c).ownBlock ∨ ∀ b, (Value.slice A' rdy'.length c').ownBlock = some b → W.heap.size ≤ b) :
    ∃ X2, FiS x (W1.setCell ⟨x.q7, 0, none⟩ (.slice A' rdy'.length c')) X2 st ct A0 c0 fby A' c' rdy' ∧ (∀ b, X2 b → X b ∨ W.heap.size ≤ b) ∧ Fr X W (W1.setCell ⟨x.q7, 0, none⟩ (.slice A' rdy'.length c')) := by
  have hx := h.x
  have r2 := h.row2
  have k3 := h.b3.fr hf (fun e => own_blk_ne r2 h.b3 (by decide) e)
  have k4 := h.b4.fr hf (fun e => own_blk_ne r2 h.b4 (by decide) e)
  have kf := h.bf.fr hf (fun e => own_blk_ne r2 h.bf (by decide) e)
  have kl := Blk.fr h.fl hf (fun e => own_blk_ne r2 h.fl (by decide) e)
  have kd := Blk.fr h.dk hf (fun e => own_blk_ne r2 h.dk (by decide) e)
  have kT := Blk.fr h.fT hf (fun e => own_blk_ne r2 h.fT (by decide) e)
  have k7 := h.b7.fr hf (fun e => own_blk_ne r2 h.b7 (by decide) e)
  have km := h.mp.fr hf (fun e => by
    rcases r2.2 with ⟨e2, _⟩ | ⟨g, cap, cur, e2, _, hg, _⟩
    · rw [e2] at e
      cases e
    · rw [e2] at e
      injection e with e
      exact h.mp.ne_blk hg e.symm)
  have kr := ownsRow_fr h.row hf (fun b hb e => h.ne b hb e)
  have n7 : ∀ {b : Nat} {T : TypeId} {cs : Array Value}, Blk W1 b T cs → T ≠ 22 → b ≠ x.q7 := fun hb hT => Blk.ne_ hb k7 hT
  have hfq : Fr (fun b => b = x.q7) W1 (W1.setCell ⟨x.q7, 0, none⟩ (.slice A' rdy'.length c')) := (Fr.refl _ _).set1 0 _
  have hm7 : x.sb ≠ x.q7 := km.ne_blk k7
  have hlt := h.lt
  refine ⟨fun b => b = x.d ∨ b = x.f ∨ b = x.q7 ∨ (Value.slice A0 fby.length c0).ownBlock = some b ∨ (Value.slice A' rdy'.length c').ownBlock = some b, ⟨k3.fr hfq (n7 k3 (by decide)), k4.fr hfq (n7 k4 (by decide)), kf.fr hfq (n7 kf (by decide)), h.fc, km.fr hfq hm7, Blk.fr kl hfq (n7 kl (by decide)), Blk.fr kd hfq (n7 kd (by decide)), Blk.fr kT hfq (n7 kT (by decide)),
    ownsRow_fr kr hfq (fun b hb e => own_blk_ne kr k7 (by decide) (e ▸ hb)), k7.set_ 0 _, ownsRow_fr ho hfq (fun b hb e => own_blk_ne ho k7 (by decide) (e ▸ hb)), ?_, h.fne, fun _ => Iff.rfl⟩, ?_, ?_⟩
  · intro b hb e
    rcases hat with h1 | h1
    · exact h.ne b hb (h1 ▸ e)
    · have := h1 b e
      have := hlt b ((hx b).2 (by simp [hb]))
      omega
  · rintro b (rfl | rfl | rfl | hb | hb)
    · exact .inl ((hx _).2 (by simp))
    · exact .inl ((hx _).2 (by simp))
    · exact .inl ((hx _).2 (by simp))
    · exact .inl ((hx _).2 (by simp [hb]))
    · rcases hat with h1 | h1
      · exact .inl ((hx _).2 (.inr (.inr (.inr (.inr (h1.symm.trans hb))))))
      · exact .inr (h1 b hb)
  · exact (hf.more (fun b _ e => (hx b).2 (by simp [e]))).trans (hfq.more (fun b _ e => (hx b).2 (by simp [e])))
/-- bytes have been written into the file -/
theorem FiS.put (h : FiS x W X st ct A0 c0 fby A c rdy) {ms : List Int} (hq : ApdQ x.d x.sb x.f x.b0 x.ls x.ac x.last (st + 1) x.num x.sy (ct + 1) (.slice A0 fby.length c0) (fby ++ ms) W W1) :
    ∃ A0' c0' X2, FiS x W1 X2 (st + 1) (ct + 1) A0' c0' (fby ++ ms) A c rdy ∧ (∀ b, X2 b → X b ∨ W.heap.size ≤ b) ∧ Fr X W W1 := by
  obtain ⟨hd, v', hT, ho, hf, hat⟩ := hq
  obtain ⟨A0', c0', rfl, -⟩ := own_slice ho
  have hx := h.x
  have r1 := h.row
  have keep : ∀ {b : Nat} {T : TypeId} {cs : Array Value}, Blk W b T cs → T ≠ 63 → T ≠ 66 → T ≠ 5 → Blk W1 b T cs := fun hb h1 h2 h3 => hb.fr hf (by
    rintro (e | e | e)
    · exact Blk.ne_ hb h.dk h1 e
    · exact Blk.ne_ hb h.fT h2 e
    · exact own_blk_ne r1 hb (fun e => h3 e.symm) e)
  have kl := Blk.fr h.fl hf (by
    rintro (e | e | e)
    · exact Blk.ne_ h.fl h.dk (by decide) e
    · exact h.fne e.symm
    · exact own_blk_ne r1 h.fl (by decide) e)
  have km := h.mp.fr hf (by
    rintro (e | e | e)
    · exact h.mp.ne_blk h.dk e
    · exact h.mp.ne_blk h.fT e
    · rcases r1.2 with ⟨e2, _⟩ | ⟨g, cap, cur, e2, _, hg, _⟩
      · rw [e2] at e
        cases e
      · rw [e2] at e
        injection e with e
        exact h.mp.ne_blk hg e.symm)
  have kr := ownsRow_fr h.row2 hf (by
    rintro b hb (e | e | e)
    · exact own_blk_ne h.row2 h.dk (by decide) (e ▸ hb)
    · exact own_blk_ne h.row2 h.fT (by decide) (e ▸ hb)
    · exact h.ne b e hb)
  have hlt := h.lt
  refine ⟨A0', c0', fun b => b = x.d ∨ b = x.f ∨ b = x.q7 ∨ (Value.slice A0' (fby ++ ms).length c0').ownBlock = some b ∨ (Value.slice A rdy.length c).ownBlock = some b, ⟨keep h.b3 (by decide) (by decide) (by decide), keep h.b4 (by decide) (by decide) (by decide), keep h.bf (by decide) (by decide) (by decide), h.fc, km, kl, hd, hT, ho, keep h.b7 (by decide) (by decide) (by decide), kr, ?_, h.fne, fun _ => Iff.rfl⟩, ?_, ?_⟩
  · intro b hb e
    rcases hat with h1 | ⟨k, h1, h2⟩
    · exact h.ne b (h1 ▸ hb) e
    · rw [h1] at hb
      injection hb with hb
      have := hlt b ((hx b).2 (by simp [e]))
      omega
  · rintro b (rfl | rfl | rfl | hb | hb)
    · exact .inl ((hx _).2 (by simp))
    · exact .inl ((hx _).2 (by simp))
    · exact .inl ((hx _).2 (by simp))
    · rcases hat with h1 | ⟨k, h1, h2⟩
      · exact .inl ((hx _).2 (.inr (.inr (.inr (.inl (h1.symm.trans hb))))))
      · rw [h1] at hb
        injection hb with hb
        exact .inr (by omega)
    · exact .inl ((hx _).2 (by simp [hb]))
  · refine hf.more ?_
    rintro b _ (e | e | e)
    · exact (hx b).2 (by simp [e])
    · exact (hx b).2 (by simp [e])
    · exact (hx b).2 (by simp [e])
/-- what is read while bytes are written into the file -/
theorem FiS.facts (h : FiS x W X st ct A0 c0 fby A c rdy) (hf : Fr (fun b => b = x.d ∨ b = x.f ∨ (Value.slice A0 fby.length c0).ownBlock = some b) W W1) :
    W1.cell? ⟨x.q3, 0, none⟩ = some (.pointer (some ⟨x.fb, 0, none⟩)) ∧ W1.cell? ⟨x.q4, 0, none⟩ = some (.string sT) ∧ W1.cell? ⟨x.fb, 0, none⟩ = some (.pointer (some ⟨x.d, 0, none⟩)) ∧ W1.cell? ⟨x.q7, 0, none⟩ = some (.slice A rdy.length c) := by
  have r1 := h.row
  have keep : ∀ {b : Nat} {T : TypeId} {cs : Array Value}, Blk W b T cs → T ≠ 63 → T ≠ 66 → T ≠ 5 → Blk W1 b T cs := fun hb h1 h2 h3 => hb.fr hf (by
    rintro (e | e | e)
    · exact Blk.ne_ hb h.dk h1 e
    · exact Blk.ne_ hb h.fT h2 e
    · exact own_blk_ne r1 hb (fun e => h3 e.symm) e)
  exact ⟨(keep h.b3 (by decide) (by decide) (by decide)).cell 0, (keep h.b4 (by decide) (by decide) (by decide)).cell 0, ((keep h.bf (by decide) (by decide) (by decide)).cell 0).trans h.fc, (keep h.b7 (by decide) (by decide) (by decide)).cell 0⟩
theorem FiS.drew (h : FiS x W X st ct A0 c0 fby A c rdy) : FiS x W.drew X st ct A0 c0 fby A c rdy :=
  h.keep (B := x.q3 + x.q4 + x.fb + x.sb + x.fA + 1) (by omega) (Fr.refl _ _).drew
/-- the call that writes m of the bytes that are ready -/
theorem FiS.append (h : FiS x W X st ct A0 c0 fby A c rdy) (hst : 0 ≤ st ∧ st ≤ 1073741824) (hct : 0 ≤ ct ∧ ct ≤ 1073741824) (hroom : x.nA + fby.length + rdy.length ≤ 1048576) (hb0 : x.b0 ≤ W.heap.size) (m : Nat) (ad : Addr) (hA : A = some ad) (h0 : 0 < m) (hm : m ≤ rdy.length) (hmc : m ≤ c) :
    Calls Tryz.prog 114 #[.pointer (some ⟨x.d, 0, none⟩), .string sT, .slice (some ad) m c] W fun e w' => e = .returned (.tuple #[.int .i64 (m : Int), .nilIface]) ∧ ApdQ x.d x.sb x.f x.b0 x.ls x.ac x.last (st + 1) x.num x.sy (ct + 1) (.slice A0 fby.length c0) (fby ++ rdy.take m) W w' := by
  subst hA
  have hbt : Bts W (fun b => (Value.slice (some ad) rdy.length c).ownBlock = some b) (some ad) m (rdy.take m) := by
    have := Reads.take (bts_own h.row2) hm
    rw [Nat.mul_one, ← List.map_take] at this
    exact this
  refine append_any sT sT_ok x.d x.sb x.f x.b0 x.ls x.ac x.last st x.num x.sy ct (fun p => if p.1 = sT then fby.length else x.nA) x.dir A0 c0 fby _ ad m c (rdy.take m) W h.dk hst h.mp ?_ ?_ x.get h.fT hct h.row (by omega) hbt (fun b hb e => own_blk_ne h.row2 h.dk (by decide) (e ▸ hb)) h0 hmc hb0
  · intro p hp
    unfold Fx.dir at hp
    simp only [List.mem_cons, List.not_mem_nil, or_false] at hp
    rcases hp with rfl | rfl
    · exact ⟨x.fA, _, _, _, _, _, rfl, by
        dsimp only
        rw [if_neg (fun e => sT_ne e.symm)]
        exact h.fl⟩
    · exact ⟨x.f, _, _, _, _, _, rfl, by
        dsimp only
        rw [if_pos rfl]
        exact h.fT⟩
  · unfold Fx.dir
    simp only [List.map_cons, List.map_nil, List.sum_cons, List.sum_nil, if_true]
    rw [if_neg (fun e => sT_ne e.symm)]
    omega
end
end Go.Proofs.YtflhiohjikgedaaGreatDoor
