/-
  append in a drawn region, as a heavy operation.
-/
import Derived.Test.YtflhiohjikgedaaGreatDoorLStrMap
import Derived.Deep.CutBlock
import Derived.OrdersHeld
import Derived.StillTail
import Derived.StillTactics
import Derived.OrdersIn
import Derived.TacticsIn
import Derived.Laws.AppendOwn
import Derived.Maps.AppendAt
set_option linter.unusedSimpArgs false
set_option linter.unusedVariables false
set_option maxRecDepth 100000
set_option maxHeartbeats 32000000
namespace Go.Proofs.YtflhiohjikgedaaGreatDoor
open Go.RowKit
def KeepBut (T : TypeId) (w w' : World) : Prop := ∀ (b : Nat) (o : Obj), w.heap[b]? = some o -> (∀ cs f, o ≠ Obj.cells cs T f) -> w'.heap[b]? = some o
theorem KeepBut.of_fr {T : TypeId} {w w' : World} {g : Nat} {cs : Array Value} (h : Fr (· = g) w w') (hb : Blk w g T cs) : KeepBut T w w' := by
 intro b o ho hn
 have hlt : b < w.heap.size := by
  rcases Nat.lt_or_ge b w.heap.size with hlt | hge
  ·exact hlt
  ·rw [Array.getElem?_eq_none hge] at ho; cases ho
 rw [h.block b hlt (fun e => ?_)]
 ·exact ho
 ·subst e
  unfold Blk at hb
  rw [hb] at ho
  injection ho with ho
  exact hn _ _ ho.symm
theorem cell_keep {w w1 : World} {p : Addr} {v : Value} (hb : Below w.heap.size w w1) (h : w.cell? p = some v) : w1.cell? p = some v := (hb.cell (lt_of_cell h)).trans h
theorem bdrew {w w1 : World} (h : Below w.drew.heap.size w.drew w1) : Below w.heap.size w w1 := ⟨h.os, h.tape, h.output, h.size, h.block⟩
theorem keep2 {w w1 : World} {p q : Addr} {u v : Value} (hb : Below w.heap.size w w1) (h : w.cell? p = some u /\ w.cell? q = some v) : w1.cell? p = some u /\ w1.cell? q = some v :=
 ⟨cell_keep hb h.1, cell_keep hb h.2⟩
theorem add_pos (a : Addr) (n : Nat) (h : 0 < n) : a.add n = ⟨a.block, a.off + n, none⟩ := by unfold Addr.add; rw [if_neg (by omega)]
theorem int_info : (Tryz.prog.info? 3).map (fun i => (i.zero, i.size, i.bytes)) = some (some (.int .i64 0), 1, 8) := by kernel_rfl
theorem own_blk_ne {w : World} {base g : Nat} {e t : TypeId} {cs : Array Value} {size n : Nat} {v : Value} {xs : List Value} (h : w.ownsRow base e size v n xs) (hg : Blk w g t cs) (hne : e ≠ t) : v.ownBlock ≠ some g := by
 rcases h.2 with ⟨rfl, _⟩ | ⟨g', cap, cur, rfl, _, hh, _⟩
 ·simp [Value.ownBlock]
 ·intro he
  have : g' = g := by simpa [Value.ownBlock] using he
  subst this
  exact Blk.ne_ (t := e) hh hg hne rfl
theorem own_ge {w : World} {base r : Nat} {e : TypeId} {size n : Nat} {v : Value} {xs : List Value} (h : w.ownsRow base e size v n xs) (hr : v.ownBlock = some r) : base <= r := by
 rcases h.2 with ⟨rfl, _⟩ | ⟨g', cap, cur, rfl, hb, _⟩
 ·simp [Value.ownBlock] at hr
 ·have : g' = r := by simpa [Value.ownBlock] using hr
  omega
theorem pA {α : Type} (l : List α) (i : Nat) (a : α) : l.toArray.setIfInBounds i a = (l.set i a).toArray := List.setIfInBounds_toArray ..
theorem pB {α : Type} (a b : α) (l : List α) : (a :: l).set 0 b = b :: l := List.set_cons_zero ..
theorem pC {α : Type} (a b : α) (l : List α) (n : Nat) : (a :: l).set (n + 1) b = a :: l.set n b := List.set_cons_succ ..
def SteadyRun (P : Program) (S : World -> Prop) (v : Value) : Result Next -> Prop
 | .ok (.value u) w' => u = v /\ S w'
 | .ok (.enter f args) w' => Calls P f args w' fun e w'' => e = .returned v /\ S w''
 | _ => False
def Steady (P : Program) (ops : Array Oper) (S : World -> Prop) (o : Oper) (v : Value) (a : Act) : Prop :=
 (Region.wanted o (yielded ops a.tmps) = true /\ ∀ w, S w -> SteadyRun P S v ((execOp a.eval o).run P w)) \/ (Region.wanted o (yielded ops a.tmps) = false /\ v = undef)
section
variable {P : Program} {ops : Array Oper} {md : Region.Mode} {S : World -> Prop} {Q : Exit -> Act -> World -> Prop}
theorem Steady.of_same {o : Oper} {v : Value} {a a' : Act} (hy : Steady P ops S o v a) (he : execOp a'.eval o = execOp a.eval o)
  (hw : Region.wanted o (yielded ops a'.tmps) = Region.wanted o (yielded ops a.tmps)) : Steady P ops S o v a' := by
 unfold Steady at *
 rw [he, hw]
 exact hy
theorem Steady.wpOp {i : Nat} {o : Oper} {v : Value} {a : Act} {K : Act -> World -> Prop} {w : World} (hi : ops[i]? = some o) (hy : Steady P ops S o v a) (hS : S w)
  (h : ∀ w', S w' -> K (a.put o.dst v) w') : Go.wpOp P ops Q i K a w := by
 unfold Go.wpOp
 simp only [hi]
 rcases hy with ⟨hw, hv⟩ | ⟨hw, rfl⟩
 ·simp only [hw, if_true]
  refine .inl ?_
  have h1 := hv w hS
  unfold Oper.wp
  generalize (execOp a.eval o).run P w = r at *
  cases r with
  | ok n w' =>
   cases n <;> simp only [SteadyRun] at h1 <;> simp only [Oper.upon]
   case value u => obtain ⟨rfl, h2⟩ := h1; exact h _ h2
   case enter f args => exact Calls.mono h1 fun e w'' ⟨he, h2⟩ => by subst he; exact h _ h2
  | halt x w' => simp only [SteadyRun] at h1
 ·simp only [hw, Bool.false_eq_true, if_false]
  exact h w hS
def Lin (P : Program) (ops : Array Oper) (S : World -> Prop) (L : Act -> Prop) : List Nat -> Act -> Prop
 | [], a => L a
 | i :: is, a => ∃ o v, ops[i]? = some o /\ Steady P ops S o v a /\ Lin P ops S L is (a.put o.dst v)
theorem Lin.pull {L : Act -> Prop} (hsel : ∀ (j : Nat) (o : Oper) cs b, ops[j]? = some o -> o.op ≠ .select cs b) {j : Nat} :
  ∀ (is : List Nat) (a : Act), j ∈ is -> is.Pairwise (· < ·) -> (∀ i ∈ is, i < j -> ∀ oi oj, ops[i]? = some oi -> ops[j]? = some oj -> oi.apart ops oj = true) -> Lin P ops S L is a ->
   ∃ o v, ops[j]? = some o /\ Steady P ops S o v a /\ Lin P ops S L (is.erase j) (a.put o.dst v) := by
 intro is
 induction is with
 | nil => intro a hj; cases hj
 | cons i is ih =>
  intro a hj hp hap H
  by_cases hij : i = j
  ·subst hij
   rw [List.erase_cons_head]
   exact H
  ·have hj' : j ∈ is := (List.mem_cons.1 hj).resolve_left (fun e => hij e.symm)
   obtain ⟨hlt, hp'⟩ := List.pairwise_cons.1 hp
   obtain ⟨oi, vi, hoi, hyi, H'⟩ := H
   obtain ⟨oj, vj, hoj, hyj, H''⟩ := ih _ hj' hp' (fun k hk => hap k (List.mem_cons_of_mem _ hk)) H'
   obtain ⟨h1, h2, h3⟩ := Oper.apart_spec (hap i List.mem_cons_self (hlt j hj') oi oj hoi hoj)
   refine ⟨oj, vj, hoj, hyj.of_same (execOp_put oj (fun cs b => hsel j oj cs b hoj) a oi.dst vi h1).symm (wanted_put oj a oi.dst vi h1).symm, ?_⟩
   rw [List.erase_cons_tail (by simpa using hij)]
   refine ⟨oi, vi, hoi, hyi.of_same (execOp_put oi (fun cs b => hsel i oi cs b hoi) a oj.dst vj h3) (wanted_put oi a oj.dst vj h3), ?_⟩
   rw [<- Act.put_comm a vi vj h2]
   exact H''
def steadyB (md : Region.Mode) (ops : Array Oper) : Bool :=
 Region.noSelect ops && (List.range ops.size).all fun j => match ops[j]? with
  | none => true
  | some oj => (oj.after.all fun e => !Region.binds md e || decide (e.on < j)) && (List.range j).all fun i => oj.after.any (fun e => Region.binds md e && e.on == i) || match ops[i]? with
   | none => true
   | some oi => oi.apart ops oj
theorem steadyB_spec (h : steadyB md ops = true) : Region.noSelect ops = true /\ (∀ j oj, ops[j]? = some oj -> ∀ e ∈ oj.after, Region.binds md e = true -> e.on < j) /\
  ∀ i j oi oj, i < j -> ops[i]? = some oi -> ops[j]? = some oj -> (∀ e ∈ oj.after, Region.binds md e = true -> e.on ≠ i) -> oi.apart ops oj = true := by
 unfold steadyB at h
 rw [Bool.and_eq_true] at h
 have h2 := List.all_eq_true.1 h.2
 refine ⟨h.1, fun j oj hj e he hb => ?_, fun i j oi oj hij hi hj hno => ?_⟩
 ·have h3 := h2 j (List.mem_range.2 (Array.getElem?_eq_some_iff.1 hj).1)
  simp only [hj, Bool.and_eq_true] at h3
  have h4 := Array.all_eq_true_iff_forall_mem.1 h3.1 e he
  simp only [hb, Bool.not_true, Bool.false_or, decide_eq_true_eq] at h4
  exact h4
 ·have h3 := h2 j (List.mem_range.2 (Array.getElem?_eq_some_iff.1 hj).1)
  simp only [hj, Bool.and_eq_true] at h3
  have h4 := List.all_eq_true.1 h3.2 i (List.mem_range.2 hij)
  simp only [hi, Bool.or_eq_true] at h4
  rcases h4 with h4 | h4
  ·obtain ⟨e, he, hb⟩ := Array.any_eq_true'.1 h4
   simp only [Bool.and_eq_true, beq_iff_eq] at hb
   exact absurd hb.2 (hno e he hb.1)
  ·exact h4
theorem wpAny_of_lin (hB : steadyB md ops = true) : ∀ (fuel : Nat) (is : List Nat) (listed : Array Bool) (a : Act) (w : World), is.length <= fuel -> listed.size = ops.size ->
  (∀ j, j < ops.size -> (listed.getD j true = false ↔ j ∈ is)) -> (∀ j ∈ is, j < ops.size) -> is.Pairwise (· < ·) -> S w -> Lin P ops S (fun a => ∀ w, S w -> Q .normal a w) is a -> wpAny P md ops Q fuel listed a w := by
 obtain ⟨hsel, hlt, hap⟩ := steadyB_spec hB
 intro fuel
 have hnil : ∀ (is : List Nat) (listed : Array Bool), listed.size = ops.size -> (∀ j, j < ops.size -> (listed.getD j true = false ↔ j ∈ is)) -> (∀ j ∈ is, j < ops.size) -> is.Pairwise (· < ·) -> Region.ready md ops listed = [] -> is = [] := by
  intro is listed hsz hmem hin hp hr
  cases is with
  | nil => rfl
  | cons i is =>
   exfalso
   have hi := hin i List.mem_cons_self
   have : i ∈ Region.ready md ops listed := by
    refine mem_ready.2 ⟨(hmem i hi).2 List.mem_cons_self, ops[i], Array.getElem?_eq_getElem hi, fun e he hb => ?_⟩
    have h1 := hlt i _ (Array.getElem?_eq_getElem hi) e he hb
    cases h2 : listed.getD e.on false with
    | true => rfl
    | false =>
     have h3 := (hmem e.on (by omega)).1 (getD_in (by omega) h2)
     rcases List.mem_cons.1 h3 with h3 | h3
     ·omega
     ·have := (List.pairwise_cons.1 hp).1 _ h3; omega
   rw [hr] at this
   cases this
 induction fuel with
 | zero =>
  intro is listed a w hf hsz hmem hin hp hS H
  have e : is = [] := List.eq_nil_of_length_eq_zero (by omega)
  subst e
  refine ⟨?_, H w hS⟩
  rw [List.eq_nil_iff_forall_not_mem]
  intro j hj
  obtain ⟨h1, o, ho, _⟩ := mem_ready.1 hj
  have := (hmem j (Array.getElem?_eq_some_iff.1 ho).1).1 h1
  cases this
 | succ fuel ih =>
  intro is listed a w hf hsz hmem hin hp hS H
  refine ⟨fun hr => ?_, fun j hj => ?_⟩
  ·have e := hnil is listed hsz hmem hin hp hr
   subst e
   exact H w hS
  ·obtain ⟨h1, oj, hoj, hall⟩ := mem_ready.1 hj
   have hjs := (Array.getElem?_eq_some_iff.1 hoj).1
   have hji := (hmem j hjs).1 h1
   obtain ⟨o, v, ho, hy, H'⟩ := Lin.pull (Region.noSelect_spec hsel) is a hji hp (fun i hi hij oi oj' hoi hoj' => by
    refine hap i j oi oj' hij hoi hoj' (fun e he hb heq => ?_)
    have : oj' = oj := Option.some.inj (hoj'.symm.trans hoj)
    subst this
    have h2 := hall e he hb
    have h3 := (hmem i (hin i hi)).2 hi
    rw [heq] at h2
    rw [getD_both h3] at h2
    cases h2) H
   refine hy.wpOp ho hS (fun w' hS' => ?_)
   have hnd : is.Nodup := hp.imp (fun h => Nat.ne_of_lt h)
   refine ih (is.erase j) _ _ w' (by rw [List.length_erase_of_mem hji]; omega) (by simpa using hsz) (fun k hk => ?_) (fun k hk => hin k (List.mem_of_mem_erase hk)) (hp.sublist List.erase_sublist) hS' H'
   rw [hnd.mem_erase_iff]
   by_cases hkj : k = j
   ·subst hkj
    simp [hsz, hk]
   ·rw [getD_set_ne true (Ne.symm hkj), hmem k hk]
    simp [hkj]
def wpSt (P : Program) (ops : Array Oper) (S : World -> Prop) (L : Act -> Prop) : List Oper -> Act -> Prop
 | [], a => L a
 | o :: os, a => ∃ v, Steady P ops S o v a /\ wpSt P ops S L os (a.put o.dst v)
theorem lin_of_st {L : Act -> Prop} : ∀ (os : List Oper) (k : Nat) (a : Act), (∀ j, os[j]? = ops[k + j]?) -> wpSt P ops S L os a -> Lin P ops S L (List.range' k os.length) a := by
 intro os
 induction os with
 | nil => intro k a _ h; exact h
 | cons o os ih =>
  intro k a hj h
  obtain ⟨v, hy, h⟩ := h
  rw [List.length_cons, List.range'_succ]
  refine ⟨o, v, by have := hj 0; simpa using this.symm, hy, ih (k + 1) _ (fun j => ?_) h⟩
  have := hj (j + 1)
  rw [List.getElem?_cons_succ] at this
  rw [this, Nat.add_right_comm, Nat.add_assoc]
theorem wp_region_steady {id : Nat} {a : Act} {w : World} {l : List Oper} (S : World -> Prop) (hm : P.follows .mixedOrders = true) (hB : steadyB .any l.toArray = true) (hS : S w.drew)
  (h : wpSt P l.toArray S (fun a => ∀ w, S w -> Q .normal a w) l a) : (Code.region id l.toArray true).wp P Q a w := by
 refine wp_region_any hm (wpAny_of_lin hB _ (List.range' 0 l.length) _ a _ (by simp) (by simp) (fun j hj => ?_) (fun j hj => by simpa using hj) (List.pairwise_lt_range' ..) hS (lin_of_st l 0 a (fun j => by simp) h))
 simp at hj
 simp [hj]
theorem wpSt_nil {L : Act -> Prop} {a : Act} (h : L a) : wpSt P ops S L [] a := h
theorem wpSt_read {L : Act -> Prop} {o : Oper} {os : List Oper} {a : Act} {v : Value} (hw : Region.wanted o (yielded ops a.tmps) = true) (hy : ∀ w, S w -> (execOp a.eval o).run P w = .ok (.value v) w)
  (h : wpSt P ops S L os (a.put o.dst v)) : wpSt P ops S L (o :: os) a := ⟨v, .inl ⟨hw, fun w hS => by rw [hy w hS]; exact ⟨rfl, hS⟩⟩, h⟩
theorem wpSt_not {L : Act -> Prop} {o : Oper} {os : List Oper} {a : Act} (hw : Region.wanted o (yielded ops a.tmps) = false) (h : wpSt P ops S L os (a.put o.dst undef)) : wpSt P ops S L (o :: os) a :=
 ⟨undef, .inr ⟨hw, rfl⟩, h⟩
theorem wpSt_call {L : Act -> Prop} {o : Oper} {os : List Oper} {a : Act} {f : FuncId} {args : Array Value} {v : Value} (hw : Region.wanted o (yielded ops a.tmps) = true) (he : ∀ w, S w -> (execOp a.eval o).run P w = .ok (.enter f args) w)
  (hy : ∀ w, S w -> Calls P f args w fun e w' => e = .returned v /\ S w') (h : wpSt P ops S L os (a.put o.dst v)) : wpSt P ops S L (o :: os) a :=
 ⟨v, .inl ⟨hw, fun w hS => by rw [he w hS]; exact hy w hS⟩, h⟩
end
section
variable {P : Program} {ops : Array Oper} {md : Region.Mode} {S0 : World -> Prop} {hv fin fr : Nat -> Bool} {Q : Exit -> Act -> World -> Prop}
def RS (P : Program) (ops : Array Oper) (S0 : World -> Prop) (o : Oper) (v : Value) (a : Act) : Prop :=
 (Region.wanted o (yielded ops a.tmps) = true /\ ∀ w, S0 w -> (execOp a.eval o).run P w = .ok (.value v) w) \/ (Region.wanted o (yielded ops a.tmps) = false /\ v = undef)
def HRun (P : Program) (T : Value -> World -> Prop) : Result Next -> Prop
 | .ok (.value u) w' => T u w'
 | .ok .skip w' => T undef w'
 | .ok (.enter f args) w' => Calls P f args w' fun e w'' => ∃ v, e = .returned v /\ T v w''
 | _ => False
theorem HRun.some {T : Value -> World -> Prop} {r : Result Next} (h : HRun P T r) : ∃ v w, T v w := by
 cases r with
 | ok n w' =>
  cases n <;> simp only [HRun] at h
  case value u => exact ⟨u, w', h⟩
  case skip => exact ⟨_, w', h⟩
  case enter f args =>
   obtain ⟨e, w'', fr, ⟨v, _, ht⟩, _⟩ := h []
   exact ⟨v, w'', ht⟩
 | halt x w' => simp only [HRun] at h
def HS (P : Program) (ops : Array Oper) (S : World -> Prop) (o : Oper) (T : Value -> World -> Prop) (a : Act) : Prop :=
 Region.wanted o (yielded ops a.tmps) = true /\ ∀ w, S w -> HRun P T ((execOp a.eval o).run P w)
theorem RS.of_same {o : Oper} {v : Value} {a a' : Act} (hy : RS P ops S0 o v a) (he : execOp a'.eval o = execOp a.eval o)
  (hw : Region.wanted o (yielded ops a'.tmps) = Region.wanted o (yielded ops a.tmps)) : RS P ops S0 o v a' := by
 unfold RS at *
 rw [he, hw]
 exact hy
theorem RS.uniq {o : Oper} {v v' : Value} {a : Act} {w : World} (h : RS P ops S0 o v a) (h' : RS P ops S0 o v' a) (hw : S0 w) : v = v' := by
 rcases h with ⟨h1, h2⟩ | ⟨h1, rfl⟩ <;> rcases h' with ⟨h3, h4⟩ | ⟨h3, rfl⟩
 ·have := (h2 w hw).symm.trans (h4 w hw)
  injection this with this
  injection this
 ·rw [h1] at h3; cases h3
 ·rw [h1] at h3; cases h3
 ·rfl
theorem HS.of_same {S : World -> Prop} {o : Oper} {T : Value -> World -> Prop} {a a' : Act} (hy : HS P ops S o T a) (he : execOp a'.eval o = execOp a.eval o)
  (hw : Region.wanted o (yielded ops a'.tmps) = Region.wanted o (yielded ops a.tmps)) : HS P ops S o T a' := by
 unfold HS at *
 rw [he, hw]
 exact hy
def Lin2 (P : Program) (ops : Array Oper) (S0 : World -> Prop) (hv fin fr : Nat -> Bool) (L : Act -> World -> Prop) : (World -> Prop) -> List Nat -> Act -> Prop
  | S, [], a => ∀ w, S w -> L a w
  | S, i :: is, a => ∃ o, ops[i]? = some o /\
      ((∃ v, RS P ops (fun w => fr i = true \/ S0 w) o v a /\ Lin2 P ops S0 hv fin fr L S is (a.put o.dst v)) \/
       (hv i = true /\ ∃ T, HS P ops S o T a /\ (fin i = true \/ ∀ v w, T v w -> S0 w) /\ ∀ v, (∃ w, T v w) -> Lin2 P ops S0 hv fin fr L (T v) is (a.put o.dst v)))
theorem Lin2.pull {L : Act -> World -> Prop} (hsel : ∀ (j : Nat) (o : Oper) cs b, ops[j]? = some o -> o.op ≠ .select cs b) {j : Nat} :
    ∀ (is : List Nat) (S : World -> Prop) (a : Act), j ∈ is -> is.Pairwise (· < ·) -> (∀ i ∈ is, i < j -> ∀ oi oj, ops[i]? = some oi -> ops[j]? = some oj -> oi.apart ops oj = true) ->
      (∀ i ∈ is, i < j -> hv i = true -> hv j = false) -> (∀ i ∈ is, i < j -> fin i = false \/ fr j = true) -> (∃ w, S w) -> (∀ w, S w -> fr j = true \/ S0 w) -> Lin2 P ops S0 hv fin fr L S is a ->
      ∃ o, ops[j]? = some o /\ ((∃ v, RS P ops (fun w => fr j = true \/ S0 w) o v a /\ Lin2 P ops S0 hv fin fr L S (is.erase j) (a.put o.dst v)) \/
       (hv j = true /\ ∃ T, HS P ops S o T a /\ (fin j = true \/ ∀ v w, T v w -> S0 w) /\ ∀ v, (∃ w, T v w) -> Lin2 P ops S0 hv fin fr L (T v) (is.erase j) (a.put o.dst v))) := by
  intro is
  induction is with
  | nil => intro S a hj; cases hj
  | cons i is ih =>
    intro S a hj hp hap hhv hfin hS hSS H
    by_cases hij : i = j
    · subst hij
      rw [List.erase_cons_head]
      exact H
    · have hj' : j ∈ is := (List.mem_cons.1 hj).resolve_left (fun e => hij e.symm)
      obtain ⟨hlt, hp'⟩ := List.pairwise_cons.1 hp
      have hij' := hlt j hj'
      rw [List.erase_cons_tail (by simpa using hij)]
      obtain ⟨oi, hoi, H⟩ := H
      rcases H with ⟨vi, hyi, H⟩ | ⟨hh, T, hT, hT0, H⟩
      · obtain ⟨oj, hoj, H'⟩ := ih S _ hj' hp' (fun k hk => hap k (List.mem_cons_of_mem _ hk)) (fun k hk => hhv k (List.mem_cons_of_mem _ hk)) (fun k hk => hfin k (List.mem_cons_of_mem _ hk)) hS hSS H
        obtain ⟨h1, h2, h3⟩ := Oper.apart_spec (hap i List.mem_cons_self hij' oi oj hoi hoj)
        refine ⟨oj, hoj, ?_⟩
        rcases H' with ⟨vj, hyj, H'⟩ | ⟨hhj, T, hT, hT0, H'⟩
        · refine .inl ⟨vj, hyj.of_same (execOp_put oj (fun cs b => hsel j oj cs b hoj) a oi.dst vi h1).symm (wanted_put oj a oi.dst vi h1).symm, oi, hoi, .inl ⟨vi, hyi.of_same (execOp_put oi (fun cs b => hsel i oi cs b hoi) a oj.dst vj h3) (wanted_put oi a oj.dst vj h3), ?_⟩⟩
          rw [<- Act.put_comm a vi vj h2]
          exact H'
        · refine .inr ⟨hhj, T, hT.of_same (execOp_put oj (fun cs b => hsel j oj cs b hoj) a oi.dst vi h1).symm (wanted_put oj a oi.dst vi h1).symm, hT0, fun v hv => ?_⟩
          refine ⟨oi, hoi, .inl ⟨vi, hyi.of_same (execOp_put oi (fun cs b => hsel i oi cs b hoi) a oj.dst v h3) (wanted_put oi a oj.dst v h3), ?_⟩⟩
          rw [<- Act.put_comm a vi v h2]
          exact H' v hv
      · have hjn : hv j = false := hhv i List.mem_cons_self hij' hh
        have hT1 : ∀ v w, T v w -> fr j = true \/ S0 w := by
          rcases hT0 with h | h
          · rcases hfin i List.mem_cons_self hij' with h1 | h1
            · rw [h1] at h; cases h
            · exact fun _ _ _ => .inl h1
          · exact fun v w hw => .inr (h v w hw)
        obtain ⟨w0, hw0⟩ := hS
        obtain ⟨v0, w1, ht0⟩ := (hT.2 w0 hw0).some
        have key : ∀ v, (∃ w, T v w) -> ∃ oj vj, ops[j]? = some oj /\ RS P ops (fun w => fr j = true \/ S0 w) oj vj a /\ oi.apart ops oj = true /\ Lin2 P ops S0 hv fin fr L (T v) (is.erase j) ((a.put oi.dst v).put oj.dst vj) := by
          intro v hv'
          obtain ⟨oj, hoj, H'⟩ := ih (T v) _ hj' hp' (fun k hk => hap k (List.mem_cons_of_mem _ hk)) (fun k hk => hhv k (List.mem_cons_of_mem _ hk)) (fun k hk => hfin k (List.mem_cons_of_mem _ hk)) hv' (fun w h => hT1 v w h) (H v hv')
          have hapj := hap i List.mem_cons_self hij' oi oj hoi hoj
          obtain ⟨h1, h2, h3⟩ := Oper.apart_spec hapj
          rcases H' with ⟨vj, hyj, H'⟩ | ⟨hhj, _⟩
          · exact ⟨oj, vj, hoj, hyj.of_same (execOp_put oj (fun cs b => hsel j oj cs b hoj) a oi.dst v h1).symm (wanted_put oj a oi.dst v h1).symm, hapj, H'⟩
          · rw [hjn] at hhj; cases hhj
        obtain ⟨oj, vj, hoj, hyj, hapj, _⟩ := key v0 ⟨w1, ht0⟩
        obtain ⟨h1, h2, h3⟩ := Oper.apart_spec hapj
        refine ⟨oj, hoj, .inl ⟨vj, hyj, oi, hoi, .inr ⟨hh, T, hT.of_same (execOp_put oi (fun cs b => hsel i oi cs b hoi) a oj.dst vj h3) (wanted_put oi a oj.dst vj h3), hT0, fun v hv' => ?_⟩⟩⟩
        obtain ⟨oj', vj', hoj', hyj', _, H'⟩ := key v hv'
        have e1 : oj' = oj := Option.some.inj (hoj'.symm.trans hoj)
        subst e1
        have e2 : vj' = vj := hyj'.uniq hyj (hSS w0 hw0)
        subst e2
        rw [<- Act.put_comm a v vj' h2]
        exact H'
def reachB (md : Region.Mode) (ops : Array Oper) (i : Nat) : Nat -> Nat -> Bool
 | 0, _ => false
 | f + 1, j => match ops[j]? with
  | none => false
  | some oj => oj.after.any fun e => Region.binds md e && (e.on == i || reachB md ops i f e.on)
def linB (md : Region.Mode) (ops : Array Oper) (hv fin fr : Nat -> Bool) : Bool :=
 steadyB md ops && (List.range ops.size).all fun j => (List.range j).all fun i =>
  (!(hv i && hv j) || reachB md ops i ops.size j) && (!(fin i) || fr j) && (!(fin j) || reachB md ops i ops.size j || fr i)
def ClosedL (md : Region.Mode) (ops : Array Oper) (listed : Array Bool) : Prop := ∀ j oj, ops[j]? = some oj -> listed.getD j false = true -> ∀ e ∈ oj.after, Region.binds md e = true -> listed.getD e.on false = true
theorem reach_listed {listed : Array Bool} (hc : ClosedL md ops listed) {i : Nat} : ∀ (f j : Nat) oj, ops[j]? = some oj -> (∀ e ∈ oj.after, Region.binds md e = true -> listed.getD e.on false = true) -> reachB md ops i f j = true -> listed.getD i false = true := by
 intro f
 induction f with
 | zero => intro j oj _ _ h; cases h
 | succ f ih =>
  intro j oj hoj hall h
  simp only [reachB, hoj] at h
  obtain ⟨e, he, hb⟩ := Array.any_eq_true'.1 h
  rw [Bool.and_eq_true, Bool.or_eq_true, beq_iff_eq] at hb
  rcases hb.2 with h1 | h1
  ·rw [<- h1]; exact hall e he hb.1
  ·have hl := hall e he hb.1
   cases ho : ops[e.on]? with
   | none =>
    cases f with
    | zero => cases h1
    | succ f => simp only [reachB, ho] at h1; cases h1
   | some o' => exact ih e.on o' ho (hc e.on o' ho hl) h1
theorem linB_spec (h : linB md ops hv fin fr = true) : steadyB md ops = true /\ ∀ i j oj, i < j -> ops[j]? = some oj -> (hv i = true -> hv j = true -> reachB md ops i ops.size j = true) /\ (fin i = false \/ fr j = true) /\ (fin j = true -> reachB md ops i ops.size j = true \/ fr i = true) := by
 unfold linB at h
 rw [Bool.and_eq_true] at h
 refine ⟨h.1, fun i j oj hij hj => ?_⟩
 have h1 := List.all_eq_true.1 (List.all_eq_true.1 h.2 j (List.mem_range.2 (Array.getElem?_eq_some_iff.1 hj).1)) i (List.mem_range.2 hij)
 simp only [hj, Bool.and_eq_true, Bool.or_eq_true, Bool.not_eq_true', Bool.and_eq_false_iff] at h1
 obtain ⟨⟨h2, h3⟩, h4⟩ := h1
 refine ⟨fun a b => ?_, h3, fun hf => ?_⟩
 ·rcases h2 with (h2 | h2) | h2
  ·rw [a] at h2; cases h2
  ·rw [b] at h2; cases h2
  ·exact h2
 ·rcases h4 with (h4 | h4) | h4
  ·rw [hf] at h4; cases h4
  ·exact .inl h4
  ·exact .inr h4
theorem wpAny_of_lin2 (hB : linB md ops hv fin fr = true) : ∀ (fuel : Nat) (S : World -> Prop) (is : List Nat) (listed : Array Bool) (a : Act) (w : World), is.length <= fuel -> listed.size = ops.size ->
  (∀ j, j < ops.size -> (listed.getD j true = false ↔ j ∈ is)) -> (∀ j ∈ is, j < ops.size) -> is.Pairwise (· < ·) -> ClosedL md ops listed -> ((∀ i ∈ is, fr i = true) \/ ∀ w, S w -> S0 w) -> S w -> Lin2 P ops S0 hv fin fr (Q .normal) S is a -> wpAny P md ops Q fuel listed a w := by
 obtain ⟨hB1, hB2⟩ := linB_spec hB
 obtain ⟨hsel, hlt, hap⟩ := steadyB_spec hB1
 intro fuel
 have hnil : ∀ (is : List Nat) (listed : Array Bool), listed.size = ops.size -> (∀ j, j < ops.size -> (listed.getD j true = false ↔ j ∈ is)) -> (∀ j ∈ is, j < ops.size) -> is.Pairwise (· < ·) -> Region.ready md ops listed = [] -> is = [] := by
  intro is listed hsz hmem hin hp hr
  cases is with
  | nil => rfl
  | cons i is =>
   exfalso
   have hi := hin i List.mem_cons_self
   have : i ∈ Region.ready md ops listed := by
    refine mem_ready.2 ⟨(hmem i hi).2 List.mem_cons_self, ops[i], Array.getElem?_eq_getElem hi, fun e he hb => ?_⟩
    have h1 := hlt i _ (Array.getElem?_eq_getElem hi) e he hb
    cases h2 : listed.getD e.on false with
    | true => rfl
    | false =>
     have h3 := (hmem e.on (by omega)).1 (getD_in (by omega) h2)
     rcases List.mem_cons.1 h3 with h3 | h3
     ·omega
     ·have := (List.pairwise_cons.1 hp).1 _ h3; omega
   rw [hr] at this
   cases this
 induction fuel with
 | zero =>
  intro S is listed a w hf hsz hmem hin hp hcl hS0 hS H
  have e : is = [] := List.eq_nil_of_length_eq_zero (by omega)
  subst e
  refine ⟨?_, H w hS⟩
  rw [List.eq_nil_iff_forall_not_mem]
  intro j hj
  obtain ⟨h1, o, ho, _⟩ := mem_ready.1 hj
  have := (hmem j (Array.getElem?_eq_some_iff.1 ho).1).1 h1
  cases this
 | succ fuel ih =>
  intro S is listed a w hf hsz hmem hin hp hcl hS0 hS H
  refine ⟨fun hr => ?_, fun j hj => ?_⟩
  ·have e := hnil is listed hsz hmem hin hp hr
   subst e
   exact H w hS
  ·obtain ⟨h1, oj, hoj, hall⟩ := mem_ready.1 hj
   have hjs := (Array.getElem?_eq_some_iff.1 hoj).1
   have hji := (hmem j hjs).1 h1
   have hSS : ∀ w, S w -> fr j = true \/ S0 w := by
    rcases hS0 with h | h
    ·exact fun _ _ => .inl (h j hji)
    ·exact fun w hw => .inr (h w hw)
   have hS1 : (∀ i ∈ is.erase j, fr i = true) \/ ∀ w, S w -> S0 w := hS0.imp (fun h k hk => h k (List.mem_of_mem_erase hk)) id
   have hno : ∀ i ∈ is, listed.getD i false ≠ true := by
    intro i hi h2
    have h3 := (hmem i (hin i hi)).2 hi
    rw [getD_both h3] at h2
    cases h2
   obtain ⟨o, ho, H'⟩ := Lin2.pull (Region.noSelect_spec hsel) is S a hji hp (fun i hi hij oi oj' hoi hoj' => by
    refine hap i j oi oj' hij hoi hoj' (fun e he hb heq => ?_)
    have : oj' = oj := Option.some.inj (hoj'.symm.trans hoj)
    subst this
    have h2 := hall e he hb
    rw [heq] at h2
    exact hno i hi h2)
    (fun i hi hij h2 => by
     cases h3 : hv j with
     | false => rfl
     | true =>
      exfalso
      exact hno i hi (reach_listed hcl _ j oj hoj hall ((hB2 i j oj hij hoj).1 h2 h3)))
    (fun i hi hij => (hB2 i j oj hij hoj).2.1) ⟨w, hS⟩ hSS H
   have e1 : o = oj := Option.some.inj (ho.symm.trans hoj)
   subst e1
   have hnd : is.Nodup := hp.imp (fun h => Nat.ne_of_lt h)
   have hcl' : ClosedL md ops (listed.setIfInBounds j true) := by
    intro k ok hok hk e he hb
    have hkey : listed.getD e.on false = true := by
     by_cases hkj : k = j
     ·subst hkj
      have : ok = o := Option.some.inj (hok.symm.trans hoj)
      subst this
      exact hall e he hb
     ·rw [getD_set_ne false (Ne.symm hkj)] at hk
      exact hcl k ok hok hk e he hb
    by_cases hej : e.on = j
    ·rw [hej]
     simp [hsz, hjs]
    ·rw [getD_set_ne false (Ne.symm hej)]
     exact hkey
   have hmem' : ∀ k, k < ops.size -> ((listed.setIfInBounds j true).getD k true = false ↔ k ∈ is.erase j) := by
    intro k hk
    rw [hnd.mem_erase_iff]
    by_cases hkj : k = j
    ·subst hkj
     simp [hsz, hk]
    ·rw [getD_set_ne true (Ne.symm hkj), hmem k hk]
     simp [hkj]
   have go := fun (S' : World -> Prop) (a' : Act) (w' : World) (h0 : (∀ i ∈ is.erase j, fr i = true) \/ ∀ w, S' w -> S0 w) (hS' : S' w') (HH : Lin2 P ops S0 hv fin fr (Q .normal) S' (is.erase j) a') =>
    ih S' (is.erase j) (listed.setIfInBounds j true) a' w' (by rw [List.length_erase_of_mem hji]; omega) (by simpa using hsz) hmem' (fun k hk => hin k (List.mem_of_mem_erase hk)) (hp.sublist List.erase_sublist) hcl' h0 hS' HH
   unfold Go.wpOp
   simp only [hoj]
   rcases H' with ⟨v, hy, H'⟩ | ⟨hhj, T, ⟨hw, hT⟩, hT0, H'⟩
   ·rcases hy with ⟨hw, hr⟩ | ⟨hw, rfl⟩
    ·simp only [hw, if_true]
     refine .inl ?_
     unfold Oper.wp
     rw [hr w (hSS w hS)]
     exact go S _ w hS1 hS H'
    ·simp only [hw, Bool.false_eq_true, if_false]
     exact go S _ w hS1 hS H'
   ·simp only [hw, if_true]
    refine .inl ?_
    have hfinL : ∀ v, (∀ k ∈ is.erase j, fr k = true) \/ ∀ w, T v w -> S0 w := by
     intro v
     rcases hT0 with hf' | hf'
     ·refine .inl ?_
      intro k hk
      obtain ⟨hkj, hk'⟩ := hnd.mem_erase_iff.1 hk
      rcases Nat.lt_or_ge k j with h2 | h2
      ·rcases (hB2 k j o h2 hoj).2.2 hf' with h3 | h3
       ·exact absurd (reach_listed hcl _ j o hoj hall h3) (hno k hk')
       ·exact h3
      ·have h3 : j < k := by omega
       have hks := hin k hk'
       rcases (hB2 j k ops[k] h3 (Array.getElem?_eq_getElem hks)).2.1 with h4 | h4
       ·rw [hf'] at h4
        cases h4
       ·exact h4
     ·exact .inr (hf' v)
    have h2 := hT w hS
    unfold Oper.wp
    generalize (execOp a.eval o).run P w = r at *
    cases r with
    | ok n w' =>
     cases n <;> simp only [HRun] at h2 <;> simp only [Oper.upon]
     case value u => exact go (T u) _ w' (hfinL u) h2 (H' u ⟨w', h2⟩)
     case skip => exact go (T undef) _ w' (hfinL undef) h2 (H' undef ⟨w', h2⟩)
     case enter f args =>
      refine Calls.mono h2 fun e w'' he => ?_
      obtain ⟨v, rfl, ht⟩ := he
      exact go (T v) _ w'' (hfinL v) ht (H' v ⟨w'', ht⟩)
    | halt x w' => simp only [HRun] at h2
def wpL (P : Program) (ops : Array Oper) (S0 : World -> Prop) (hv fin fr : Nat -> Bool) (L : Act -> World -> Prop) : Nat -> (World -> Prop) -> List Oper -> Act -> Prop
  | _, S, [], a => ∀ w, S w -> L a w
  | k, S, o :: os, a => (∃ v, RS P ops (fun w => fr k = true \/ S0 w) o v a /\ wpL P ops S0 hv fin fr L (k + 1) S os (a.put o.dst v)) \/
      (hv k = true /\ ∃ T, HS P ops S o T a /\ (fin k = true \/ ∀ v w, T v w -> S0 w) /\ ∀ v, (∃ w, T v w) -> wpL P ops S0 hv fin fr L (k + 1) (T v) os (a.put o.dst v))
theorem lin2_of_l {L : Act -> World -> Prop} : ∀ (os : List Oper) (k : Nat) (S : World -> Prop) (a : Act), (∀ j, os[j]? = ops[k + j]?) -> wpL P ops S0 hv fin fr L k S os a -> Lin2 P ops S0 hv fin fr L S (List.range' k os.length) a := by
 intro os
 induction os with
 | nil => intro k S a _ h; exact h
 | cons o os ih =>
  intro k S a hj h
  rw [List.length_cons, List.range'_succ]
  have hj' : ∀ j, os[j]? = ops[k + 1 + j]? := fun j => by
   have := hj (j + 1)
   rw [List.getElem?_cons_succ] at this
   rw [this, Nat.add_right_comm, Nat.add_assoc]
  refine ⟨o, by have := hj 0; simpa using this.symm, ?_⟩
  rcases h with ⟨v, hy, h⟩ | ⟨hh, T, hT, hT0, h⟩
  ·exact .inl ⟨v, hy, ih (k + 1) S _ hj' h⟩
  ·exact .inr ⟨hh, T, hT, hT0, fun v hv' => ih (k + 1) (T v) _ hj' (h v hv')⟩
theorem wp_region_lin {id : Nat} {a : Act} {w : World} {l : List Oper} (S0 S : World -> Prop) (hv fin fr : Nat -> Bool) (hm : P.follows .mixedOrders = true) (hB : linB .any l.toArray hv fin fr = true) (hS : S w.drew) (hSS : ∀ w, S w -> S0 w)
  (h : wpL P l.toArray S0 hv fin fr (Q .normal) 0 S l a) : (Code.region id l.toArray true).wp P Q a w := by
 refine wp_region_any hm (wpAny_of_lin2 hB _ S (List.range' 0 l.length) _ a _ (by simp) (by simp) (fun j hj => ?_) (fun j hj => by simpa using hj) (List.pairwise_lt_range' ..) (fun j oj hj hl => ?_) (.inr hSS) hS (lin2_of_l l 0 S a (fun j => by simp) h))
 ·simp at hj
  simp [hj]
 ·exfalso
  rw [Array.getD_eq_getD_getElem?] at hl
  rw [Array.getElem?_replicate] at hl
  split at hl <;> simp at hl
theorem wpL_nil {L : Act -> World -> Prop} {k : Nat} {S : World -> Prop} {a : Act} (h : ∀ w, S w -> L a w) : wpL P ops S0 hv fin fr L k S [] a := h
theorem wpL_read {L : Act -> World -> Prop} {k : Nat} {S : World -> Prop} {o : Oper} {os : List Oper} {a : Act} {v : Value} (hf : fr k = false) (hw : Region.wanted o (yielded ops a.tmps) = true) (hy : ∀ w, S0 w -> (execOp a.eval o).run P w = .ok (.value v) w)
  (h : wpL P ops S0 hv fin fr L (k + 1) S os (a.put o.dst v)) : wpL P ops S0 hv fin fr L k S (o :: os) a := .inl ⟨v, .inl ⟨hw, fun w hh => hy w (hh.resolve_left (by rw [hf]; simp))⟩, h⟩
theorem wpL_free {L : Act -> World -> Prop} {k : Nat} {S : World -> Prop} {o : Oper} {os : List Oper} {a : Act} {v : Value} (hw : Region.wanted o (yielded ops a.tmps) = true) (hy : ∀ w, (execOp a.eval o).run P w = .ok (.value v) w)
  (h : wpL P ops S0 hv fin fr L (k + 1) S os (a.put o.dst v)) : wpL P ops S0 hv fin fr L k S (o :: os) a := .inl ⟨v, .inl ⟨hw, fun w _ => hy w⟩, h⟩
theorem wpL_not {L : Act -> World -> Prop} {k : Nat} {S : World -> Prop} {o : Oper} {os : List Oper} {a : Act} (hw : Region.wanted o (yielded ops a.tmps) = false) (h : wpL P ops S0 hv fin fr L (k + 1) S os (a.put o.dst undef)) : wpL P ops S0 hv fin fr L k S (o :: os) a :=
 .inl ⟨undef, .inr ⟨hw, rfl⟩, h⟩
theorem wpL_call {L : Act -> World -> Prop} {k : Nat} {S : World -> Prop} {o : Oper} {os : List Oper} {a : Act} {f : FuncId} {args : Array Value} (T : Value -> World -> Prop) (hk : hv k = true) (hw : Region.wanted o (yielded ops a.tmps) = true) (he : ∀ w, S w -> (execOp a.eval o).run P w = .ok (.enter f args) w)
  (hy : ∀ w, S w -> Calls P f args w fun e w' => ∃ v, e = .returned v /\ T v w') (h0 : fin k = true \/ ∀ v w, T v w -> S0 w) (h : ∀ v, (∃ w, T v w) -> wpL P ops S0 hv fin fr L (k + 1) (T v) os (a.put o.dst v)) : wpL P ops S0 hv fin fr L k S (o :: os) a :=
 .inr ⟨hk, T, ⟨hw, fun w hS => by rw [he w hS]; exact hy w hS⟩, h0, h⟩
theorem wpL_call1 {L : Act -> World -> Prop} {k : Nat} {S : World -> Prop} {o : Oper} {os : List Oper} {a : Act} {f : FuncId} {args : Array Value} {v : Value} (hk : hv k = true) (hw : Region.wanted o (yielded ops a.tmps) = true) (he : ∀ w, S w -> (execOp a.eval o).run P w = .ok (.enter f args) w)
  (hSS : ∀ w, S w -> S0 w) (hy : ∀ w, S w -> Calls P f args w fun e w' => e = .returned v /\ S w') (h : wpL P ops S0 hv fin fr L (k + 1) S os (a.put o.dst v)) : wpL P ops S0 hv fin fr L k S (o :: os) a :=
 .inr ⟨hk, fun u w => u = v /\ S w, ⟨hw, fun w hS => by
  rw [he w hS]
  exact Calls.mono (hy w hS) fun e w' ⟨h1, h2⟩ => ⟨v, h1, rfl, h2⟩⟩, .inr (fun u w h => hSS w h.2), fun u hu => by
   obtain ⟨w, rfl, _⟩ := hu
   have : (fun w => u = u /\ S w) = S := by funext w; simp
   dsimp only
   rw [this]
   exact h⟩
theorem wpL_heavy {L : Act -> World -> Prop} {k : Nat} {S : World -> Prop} {o : Oper} {os : List Oper} {a : Act} (T : Value -> World -> Prop) (hk : hv k = true) (hw : Region.wanted o (yielded ops a.tmps) = true) (hy : ∀ w, S w -> HRun P T ((execOp a.eval o).run P w))
  (h0 : fin k = true \/ ∀ v w, T v w -> S0 w) (h : ∀ v, (∃ w, T v w) -> wpL P ops S0 hv fin fr L (k + 1) (T v) os (a.put o.dst v)) : wpL P ops S0 hv fin fr L k S (o :: os) a :=
 .inr ⟨hk, T, ⟨hw, hy⟩, h0, h⟩
end
theorem hrun_append {P : Program} {T : Value -> World -> Prop} {o : Oper} {a : Act} {s x : Operand} {t : TypeId} {v sl v' : Value} {w w' : World}
  (ho : o.op = .call { callee := .builtin .append, args := #[s, x], argTypes := #[t, t] }) (hs : a.eval s = v) (hx : a.eval x = sl) (hr : (Builtin.append_ #[t, t] o.type #[v, sl]).run P w = .ok v' w') (hT : T v' w') : HRun P T ((execOp a.eval o).run P w) := by
 unfold execOp
 simp only [ho, resolve, invoke, builtin, Sem.run_bind, Sem.run_pure, Result.andThen_ok, List.map_toArray, List.map_cons, List.map_nil, hs, hx, hr]
 exact hT
theorem hrun_append_own {P : Program} {T : Value -> World -> Prop} {o : Oper} {a : Act} {s x : Operand} {w : World} (t : TypeId)
  (ho : o.op = .call { callee := .builtin .append, args := #[s, x], argTypes := #[t, t] })
  (base : Nat) (e : TypeId) (i : TypeInfo) (z : Value) (size bytes : Nat) (ht : P.underlying t = some (.slice e)) (hi : P.info? e = some i) (hz : i.zero = some z)
  (hsize : i.size = size) (hby : i.bytes = bytes) (hzs : z.cells.size = size) (hsz : 0 < size)
  (v : Value) (n : Nat) (xs : List Value) (hs : a.eval s = v) (hown : w.ownsRow base e size v n xs)
  (ad : Addr) (m c : Nat) (news : List Value) (hx : a.eval x = .slice (some ad) m c) (hl : news.length = m * size) (hnews : ∀ j u, news[j]? = some u -> w.cell? (ad.add j) = some u) (h1 : ∀ u ∈ news, u.oneCell' = true)
  (h63 : n + m <= maxLen) (hbytes : (n + m) * bytes <= 140737488355328) (hbase : base <= w.heap.size)
  (h : ∀ v' w', w'.ownsRow base e size v' (n + m) (xs ++ news) -> w.grownBy w' v.ownBlock -> (v' = .slice none 0 0 ↔ v = .slice none 0 0 /\ m = 0) -> (v'.ownBlock = v.ownBlock \/ v'.ownBlock = some w.heap.size) -> T v' w') : HRun P T ((execOp a.eval o).run P w) := by
 obtain ⟨v', w', hr, h2, h3, h4, h5⟩ := run_append_own_at (P := P) w base t o.type e i z size bytes ht hi hz hsize hby hzs hsz v n xs hown ad m c news hl hnews h1 h63 hbytes hbase
 exact hrun_append ho hs hx hr (h v' w' h2 h3 h4 h5)
end Go.Proofs.YtflhiohjikgedaaGreatDoor
