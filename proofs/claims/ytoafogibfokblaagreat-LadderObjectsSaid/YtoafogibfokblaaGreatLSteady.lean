/-
  A region that draws its order, whose operations all keep a condition S on the world and yield, in every world that meets S, one and the same value each: then the text's order stands for all orders. Operations whose guard says no are let in, calls too.
-/
import Derived.Test.YtoafogibfokblaaGreatLStill
import Derived.OrdersHeld
set_option linter.unusedSimpArgs false
set_option linter.unusedVariables false
namespace Go.Proofs.YtoafogibfokblaaGreat
open Go.RowKit

def SteadyRun (P : Program) (S : World → Prop) (v : Value) : Result Next → Prop
  | .ok (.value u) w' => u = v ∧ S w'
  | .ok (.enter f args) w' => Calls P f args w' fun e w'' => e = .returned v ∧ S w''
  | _ => False
def Steady (P : Program) (ops : Array Oper) (S : World → Prop) (o : Oper) (v : Value) (a : Act) : Prop :=
  (Region.wanted o (yielded ops a.tmps) = true ∧ ∀ w, S w → SteadyRun P S v ((execOp a.eval o).run P w)) ∨ (Region.wanted o (yielded ops a.tmps) = false ∧ v = undef)
section
variable {P : Program} {ops : Array Oper} {md : Region.Mode} {S : World → Prop} {Q : Exit → Act → World → Prop}
theorem Steady.of_same {o : Oper} {v : Value} {a a' : Act} (hy : Steady P ops S o v a) (he : execOp a'.eval o = execOp a.eval o)
    (hw : Region.wanted o (yielded ops a'.tmps) = Region.wanted o (yielded ops a.tmps)) : Steady P ops S o v a' := by
  unfold Steady at *
  rw [he, hw]
  exact hy
theorem Steady.wpOp {i : Nat} {o : Oper} {v : Value} {a : Act} {K : Act → World → Prop} {w : World} (hi : ops[i]? = some o) (hy : Steady P ops S o v a) (hS : S w)
    (h : ∀ w', S w' → K (a.put o.dst v) w') : Go.wpOp P ops Q i K a w := by
  unfold Go.wpOp
  simp only [hi]
  rcases hy with ⟨hw, hv⟩ | ⟨hw, rfl⟩
  · simp only [hw, if_true]
    refine .inl ?_
    have h1 := hv w hS
    unfold Oper.wp
    generalize (execOp a.eval o).run P w = r at *
    cases r with
    | ok n w' =>
      cases n <;> simp only [SteadyRun] at h1 <;> simp only [Oper.upon]
      case value u => obtain ⟨rfl, h2⟩ := h1; exact h _ h2
      case enter f args => exact Calls.mono h1 fun e w'' ⟨he, h2⟩ => by subst he; exact h _ h2
    | halt x w' => simp only [SteadyRun] at h1
  · simp only [hw, Bool.false_eq_true, if_false]
    exact h w hS
/-- the operations of a list yield, one behind the other -/
def Lin (P : Program) (ops : Array Oper) (S : World → Prop) (L : Act → Prop) : List Nat → Act → Prop
  | [], a => L a
  | i :: is, a => ∃ o v, ops[i]? = some o ∧ Steady P ops S o v a ∧ Lin P ops S L is (a.put o.dst v)
theorem Lin.pull {L : Act → Prop} (hsel : ∀ (j : Nat) (o : Oper) cs b, ops[j]? = some o → o.op ≠ .select cs b) {j : Nat} :
    ∀ (is : List Nat) (a : Act), j ∈ is → is.Pairwise (· < ·) → (∀ i ∈ is, i < j → ∀ oi oj, ops[i]? = some oi → ops[j]? = some oj → oi.apart ops oj = true) → Lin P ops S L is a →
      ∃ o v, ops[j]? = some o ∧ Steady P ops S o v a ∧ Lin P ops S L (is.erase j) (a.put o.dst v) := by
  intro is
  induction is with
  | nil => intro a hj; cases hj
  | cons i is ih =>
    intro a hj hp hap H
    by_cases hij : i = j
    · subst hij
      rw [List.erase_cons_head]
      exact H
    · have hj' : j ∈ is := (List.mem_cons.1 hj).resolve_left (fun e => hij e.symm)
      obtain ⟨hlt, hp'⟩ := List.pairwise_cons.1 hp
      obtain ⟨oi, vi, hoi, hyi, H'⟩ := H
      obtain ⟨oj, vj, hoj, hyj, H''⟩ := ih _ hj' hp' (fun k hk => hap k (List.mem_cons_of_mem _ hk)) H'
      obtain ⟨h1, h2, h3⟩ := Oper.apart_spec (hap i List.mem_cons_self (hlt j hj') oi oj hoi hoj)
      refine ⟨oj, vj, hoj, hyj.of_same (execOp_put oj (fun cs b => hsel j oj cs b hoj) a oi.dst vi h1).symm (wanted_put oj a oi.dst vi h1).symm, ?_⟩
      rw [List.erase_cons_tail (by simpa using hij)]
      refine ⟨oi, vi, hoi, hyi.of_same (execOp_put oi (fun cs b => hsel i oi cs b hoi) a oj.dst vj h3) (wanted_put oi a oj.dst vj h3), ?_⟩
      rw [← Act.put_comm a vi vj h2]
      exact H''
/-- what the region's text must be: nothing waits for what stands behind it; two that do not wait for one another are apart -/
def steadyB (md : Region.Mode) (ops : Array Oper) : Bool :=
  Region.noSelect ops && (List.range ops.size).all fun j => match ops[j]? with
    | none => true
    | some oj => (oj.after.all fun e => !Region.binds md e || decide (e.on < j)) && (List.range j).all fun i => oj.after.any (fun e => Region.binds md e && e.on == i) || match ops[i]? with
      | none => true
      | some oi => oi.apart ops oj
theorem steadyB_spec (h : steadyB md ops = true) : Region.noSelect ops = true ∧ (∀ j oj, ops[j]? = some oj → ∀ e ∈ oj.after, Region.binds md e = true → e.on < j) ∧
    ∀ i j oi oj, i < j → ops[i]? = some oi → ops[j]? = some oj → (∀ e ∈ oj.after, Region.binds md e = true → e.on ≠ i) → oi.apart ops oj = true := by
  unfold steadyB at h
  rw [Bool.and_eq_true] at h
  have h2 := List.all_eq_true.1 h.2
  refine ⟨h.1, fun j oj hj e he hb => ?_, fun i j oi oj hij hi hj hno => ?_⟩
  · have h3 := h2 j (List.mem_range.2 (Array.getElem?_eq_some_iff.1 hj).1)
    simp only [hj, Bool.and_eq_true] at h3
    have h4 := Array.all_eq_true_iff_forall_mem.1 h3.1 e he
    simp only [hb, Bool.not_true, Bool.false_or, decide_eq_true_eq] at h4
    exact h4
  · have h3 := h2 j (List.mem_range.2 (Array.getElem?_eq_some_iff.1 hj).1)
    simp only [hj, Bool.and_eq_true] at h3
    have h4 := List.all_eq_true.1 h3.2 i (List.mem_range.2 hij)
    simp only [hi, Bool.or_eq_true] at h4
    rcases h4 with h4 | h4
    · obtain ⟨e, he, hb⟩ := Array.any_eq_true'.1 h4
      simp only [Bool.and_eq_true, beq_iff_eq] at hb
      exact absurd hb.2 (hno e he hb.1)
    · exact h4
theorem wpAny_of_lin (hB : steadyB md ops = true) : ∀ (fuel : Nat) (is : List Nat) (listed : Array Bool) (a : Act) (w : World), is.length ≤ fuel → listed.size = ops.size →
    (∀ j, j < ops.size → (listed.getD j true = false ↔ j ∈ is)) → (∀ j ∈ is, j < ops.size) → is.Pairwise (· < ·) → S w → Lin P ops S (fun a => ∀ w, S w → Q .normal a w) is a → wpAny P md ops Q fuel listed a w := by
  obtain ⟨hsel, hlt, hap⟩ := steadyB_spec hB
  intro fuel
  have hnil : ∀ (is : List Nat) (listed : Array Bool), listed.size = ops.size → (∀ j, j < ops.size → (listed.getD j true = false ↔ j ∈ is)) → (∀ j ∈ is, j < ops.size) → is.Pairwise (· < ·) → Region.ready md ops listed = [] → is = [] := by
    intro is listed hsz hmem hin hp hr
    cases is with
    | nil => rfl
    | cons i is =>
      exfalso
      have hi := hin i List.mem_cons_self
      have : i ∈ Region.ready md ops listed := by
        refine mem_ready.2 ⟨(hmem i hi).2 List.mem_cons_self, ops[i], Array.getElem?_eq_getElem hi, fun e he hb => ?_⟩
        have h1 := hlt i _ (Array.getElem?_eq_getElem hi) e he hb
        cases h2 : listed.getD e.on false with
        | true => rfl
        | false =>
          have h3 := (hmem e.on (by omega)).1 (getD_in (by omega) h2)
          rcases List.mem_cons.1 h3 with h3 | h3
          · omega
          · have := (List.pairwise_cons.1 hp).1 _ h3; omega
      rw [hr] at this
      cases this
  induction fuel with
  | zero =>
    intro is listed a w hf hsz hmem hin hp hS H
    have e : is = [] := List.eq_nil_of_length_eq_zero (by omega)
    subst e
    refine ⟨?_, H w hS⟩
    rw [List.eq_nil_iff_forall_not_mem]
    intro j hj
    obtain ⟨h1, o, ho, _⟩ := mem_ready.1 hj
    have := (hmem j (Array.getElem?_eq_some_iff.1 ho).1).1 h1
    cases this
  | succ fuel ih =>
    intro is listed a w hf hsz hmem hin hp hS H
    refine ⟨fun hr => ?_, fun j hj => ?_⟩
    · have e := hnil is listed hsz hmem hin hp hr
      subst e
      exact H w hS
    · obtain ⟨h1, oj, hoj, hall⟩ := mem_ready.1 hj
      have hjs := (Array.getElem?_eq_some_iff.1 hoj).1
      have hji := (hmem j hjs).1 h1
      obtain ⟨o, v, ho, hy, H'⟩ := Lin.pull (Region.noSelect_spec hsel) is a hji hp (fun i hi hij oi oj' hoi hoj' => by
        refine hap i j oi oj' hij hoi hoj' (fun e he hb heq => ?_)
        have : oj' = oj := Option.some.inj (hoj'.symm.trans hoj)
        subst this
        have h2 := hall e he hb
        have h3 := (hmem i (hin i hi)).2 hi
        rw [heq] at h2
        rw [getD_both h3] at h2
        cases h2) H
      refine hy.wpOp ho hS (fun w' hS' => ?_)
      have hnd : is.Nodup := hp.imp (fun h => Nat.ne_of_lt h)
      refine ih (is.erase j) _ _ w' (by rw [List.length_erase_of_mem hji]; omega) (by simpa using hsz) (fun k hk => ?_) (fun k hk => hin k (List.mem_of_mem_erase hk)) (hp.sublist List.erase_sublist) hS' H'
      rw [hnd.mem_erase_iff]
      by_cases hkj : k = j
      · subst hkj
        simp [hsz, hk]
      · rw [getD_set_ne true (Ne.symm hkj), hmem k hk]
        simp [hkj]
/-- the same, the operations written out -/
def wpSt (P : Program) (ops : Array Oper) (S : World → Prop) (L : Act → Prop) : List Oper → Act → Prop
  | [], a => L a
  | o :: os, a => ∃ v, Steady P ops S o v a ∧ wpSt P ops S L os (a.put o.dst v)
theorem lin_of_st {L : Act → Prop} : ∀ (os : List Oper) (k : Nat) (a : Act), (∀ j, os[j]? = ops[k + j]?) → wpSt P ops S L os a → Lin P ops S L (List.range' k os.length) a := by
  intro os
  induction os with
  | nil => intro k a _ h; exact h
  | cons o os ih =>
    intro k a hj h
    obtain ⟨v, hy, h⟩ := h
    rw [List.length_cons, List.range'_succ]
    refine ⟨o, v, by have := hj 0; simpa using this.symm, hy, ih (k + 1) _ (fun j => ?_) h⟩
    have := hj (j + 1)
    rw [List.getElem?_cons_succ] at this
    rw [this, Nat.add_right_comm, Nat.add_assoc]
theorem wp_region_steady {id : Nat} {a : Act} {w : World} {l : List Oper} (S : World → Prop) (hm : P.follows .mixedOrders = true) (hB : steadyB .any l.toArray = true) (hS : S w.drew)
    (h : wpSt P l.toArray S (fun a => ∀ w, S w → Q .normal a w) l a) : (Code.region id l.toArray true).wp P Q a w := by
  refine wp_region_any hm (wpAny_of_lin hB _ (List.range' 0 l.length) _ a _ (by simp) (by simp) (fun j hj => ?_) (fun j hj => by simpa using hj) (List.pairwise_lt_range' ..) hS (lin_of_st l 0 a (fun j => by simp) h))
  simp at hj
  simp [hj]
theorem wpSt_nil {L : Act → Prop} {a : Act} (h : L a) : wpSt P ops S L [] a := h
theorem wpSt_read {L : Act → Prop} {o : Oper} {os : List Oper} {a : Act} {v : Value} (hw : Region.wanted o (yielded ops a.tmps) = true) (hy : ∀ w, S w → (execOp a.eval o).run P w = .ok (.value v) w)
    (h : wpSt P ops S L os (a.put o.dst v)) : wpSt P ops S L (o :: os) a := ⟨v, .inl ⟨hw, fun w hS => by rw [hy w hS]; exact ⟨rfl, hS⟩⟩, h⟩
theorem wpSt_not {L : Act → Prop} {o : Oper} {os : List Oper} {a : Act} (hw : Region.wanted o (yielded ops a.tmps) = false) (h : wpSt P ops S L os (a.put o.dst undef)) : wpSt P ops S L (o :: os) a :=
  ⟨undef, .inr ⟨hw, rfl⟩, h⟩
theorem wpSt_call {L : Act → Prop} {o : Oper} {os : List Oper} {a : Act} {f : FuncId} {args : Array Value} {v : Value} (hw : Region.wanted o (yielded ops a.tmps) = true) (he : ∀ w, S w → (execOp a.eval o).run P w = .ok (.enter f args) w)
    (hy : ∀ w, S w → Calls P f args w fun e w' => e = .returned v ∧ S w') (h : wpSt P ops S L os (a.put o.dst v)) : wpSt P ops S L (o :: os) a :=
  ⟨v, .inl ⟨hw, fun w hS => by rw [he w hS]; exact hy w hS⟩, h⟩
end
end Go.Proofs.YtoafogibfokblaaGreat
