/-
  operate.Put, for a register of characters.
-/
import Derived.Test.YtgiihhikdoikgaaGreatLHeavy
import Derived.Test.YtgiihhikdoikgaaGreatLSums
import Derived.Test.YtgiihhikdoikgaaGreatLOften
import Derived.Test.YtgiihhikdoikgaaGreatLOfLaw
import Derived.Test.YtgiihhikdoikgaaGreatLType
set_option linter.unusedSimpArgs false
set_option linter.unusedVariables false
set_option maxRecDepth 100000
set_option maxHeartbeats 32000000
namespace Go.Proofs.YtgiihhikdoikgaaGreat
open Go.RowKit
def SCRun (P : Program) (v : Value) (w : World) : Result Next -> Prop
 | .ok (.enter f args) w' => w' = w /\ Calls P f args w fun e w'' => e = .returned v /\ Below w.heap.size w w''
 | _ => False
section
variable {P : Program} {ops : Array Oper} {md : Region.Mode} {S0 : World -> Prop} {hv fin fr sc : Nat -> Bool} {V : Nat -> Value} {Q : Exit -> Act -> World -> Prop}
def SC (P : Program) (ops : Array Oper) (S0 : World -> Prop) (o : Oper) (v : Value) (a : Act) : Prop :=
 Region.wanted o (yielded ops a.tmps) = true /\ ∀ w, S0 w -> SCRun P v w ((execOp a.eval o).run P w)
def St (P : Program) (ops : Array Oper) (S0 : World -> Prop) (fr sc : Nat -> Bool) (V : Nat -> Value) (i : Nat) (o : Oper) (v : Value) (a : Act) : Prop :=
 (sc i = false /\ RS P ops (fun w => fr i = true \/ S0 w) o v a) \/ (sc i = true /\ v = V i /\ SC P ops S0 o v a)
theorem St.of_same {i : Nat} {o : Oper} {v : Value} {a a' : Act} (hy : St P ops S0 fr sc V i o v a) (he : execOp a'.eval o = execOp a.eval o)
  (hw : Region.wanted o (yielded ops a'.tmps) = Region.wanted o (yielded ops a.tmps)) : St P ops S0 fr sc V i o v a' := by
 rcases hy with ⟨h1, h2⟩ | ⟨h1, h2, h3⟩
 ·exact .inl ⟨h1, h2.of_same he hw⟩
 ·refine .inr ⟨h1, h2, ?_⟩
  unfold SC at *
  rw [he, hw]
  exact h3
theorem St.uniq {i : Nat} {o : Oper} {v v' : Value} {a : Act} {w : World} (h : St P ops S0 fr sc V i o v a) (h' : St P ops S0 fr sc V i o v' a) (hw : fr i = true \/ S0 w) : v = v' := by
 rcases h with ⟨h1, h2⟩ | ⟨h1, h2, _⟩ <;> rcases h' with ⟨h3, h4⟩ | ⟨h3, h4, _⟩
 ·exact h2.uniq h4 hw
 ·rw [h1] at h3; cases h3
 ·rw [h1] at h3; cases h3
 ·rw [h2, h4]
def Lin3 (P : Program) (ops : Array Oper) (S0 : World -> Prop) (hv fin fr sc : Nat -> Bool) (V : Nat -> Value) (L : Act -> World -> Prop) : (World -> Prop) -> List Nat -> Act -> Prop
  | S, [], a => ∀ w, S w -> L a w
  | S, i :: is, a => ∃ o, ops[i]? = some o /\
      ((∃ v, St P ops S0 fr sc V i o v a /\ Lin3 P ops S0 hv fin fr sc V L S is (a.put o.dst v)) \/
       (hv i = true /\ ∃ T, HS P ops S o T a /\ (fin i = true \/ (∀ v w, T v w -> S0 w) /\ ∀ v w w', T v w -> Below w.heap.size w w' -> T v w') /\ ∀ v, (∃ w, T v w) -> Lin3 P ops S0 hv fin fr sc V L (T v) is (a.put o.dst v)))
theorem Lin3.pull {L : Act -> World -> Prop} (hsel : ∀ (j : Nat) (o : Oper) cs b, ops[j]? = some o -> o.op ≠ .select cs b) {j : Nat} :
    ∀ (is : List Nat) (S : World -> Prop) (a : Act), j ∈ is -> is.Pairwise (· < ·) -> (∀ i ∈ is, i < j -> ∀ oi oj, ops[i]? = some oi -> ops[j]? = some oj -> oi.apart ops oj = true) ->
      (∀ i ∈ is, i < j -> hv i = true -> hv j = false) -> (∀ i ∈ is, i < j -> fin i = false \/ fr j = true) -> (∃ w, S w) -> (∀ w, S w -> fr j = true \/ S0 w) -> Lin3 P ops S0 hv fin fr sc V L S is a ->
      ∃ o, ops[j]? = some o /\ ((∃ v, St P ops S0 fr sc V j o v a /\ Lin3 P ops S0 hv fin fr sc V L S (is.erase j) (a.put o.dst v)) \/
       (hv j = true /\ ∃ T, HS P ops S o T a /\ (fin j = true \/ (∀ v w, T v w -> S0 w) /\ ∀ v w w', T v w -> Below w.heap.size w w' -> T v w') /\ ∀ v, (∃ w, T v w) -> Lin3 P ops S0 hv fin fr sc V L (T v) (is.erase j) (a.put o.dst v))) := by
  intro is
  induction is with
  | nil => intro S a hj; cases hj
  | cons i is ih =>
    intro S a hj hp hap hhv hfin hS hSS H
    by_cases hij : i = j
    · subst hij
      rw [List.erase_cons_head]
      exact H
    · have hj' : j ∈ is := (List.mem_cons.1 hj).resolve_left (fun e => hij e.symm)
      obtain ⟨hlt, hp'⟩ := List.pairwise_cons.1 hp
      have hij' := hlt j hj'
      rw [List.erase_cons_tail (by simpa using hij)]
      obtain ⟨oi, hoi, H⟩ := H
      rcases H with ⟨vi, hyi, H⟩ | ⟨hh, T, hT, hT0, H⟩
      · obtain ⟨oj, hoj, H'⟩ := ih S _ hj' hp' (fun k hk => hap k (List.mem_cons_of_mem _ hk)) (fun k hk => hhv k (List.mem_cons_of_mem _ hk)) (fun k hk => hfin k (List.mem_cons_of_mem _ hk)) hS hSS H
        obtain ⟨h1, h2, h3⟩ := Oper.apart_spec (hap i List.mem_cons_self hij' oi oj hoi hoj)
        refine ⟨oj, hoj, ?_⟩
        rcases H' with ⟨vj, hyj, H'⟩ | ⟨hhj, T, hT, hT0, H'⟩
        · refine .inl ⟨vj, hyj.of_same (execOp_put oj (fun cs b => hsel j oj cs b hoj) a oi.dst vi h1).symm (wanted_put oj a oi.dst vi h1).symm, oi, hoi, .inl ⟨vi, hyi.of_same (execOp_put oi (fun cs b => hsel i oi cs b hoi) a oj.dst vj h3) (wanted_put oi a oj.dst vj h3), ?_⟩⟩
          rw [<- Act.put_comm a vi vj h2]
          exact H'
        · refine .inr ⟨hhj, T, hT.of_same (execOp_put oj (fun cs b => hsel j oj cs b hoj) a oi.dst vi h1).symm (wanted_put oj a oi.dst vi h1).symm, hT0, fun v hv => ?_⟩
          refine ⟨oi, hoi, .inl ⟨vi, hyi.of_same (execOp_put oi (fun cs b => hsel i oi cs b hoi) a oj.dst v h3) (wanted_put oi a oj.dst v h3), ?_⟩⟩
          rw [<- Act.put_comm a vi v h2]
          exact H' v hv
      · have hjn : hv j = false := hhv i List.mem_cons_self hij' hh
        have hT1 : ∀ v w, T v w -> fr j = true \/ S0 w := by
          rcases hT0 with h | h
          · rcases hfin i List.mem_cons_self hij' with h1 | h1
            · rw [h1] at h; cases h
            · exact fun _ _ _ => .inl h1
          · exact fun v w hw => .inr (h.1 v w hw)
        obtain ⟨w0, hw0⟩ := hS
        obtain ⟨v0, w1, ht0⟩ := (hT.2 w0 hw0).some
        have key : ∀ v, (∃ w, T v w) -> ∃ oj vj, ops[j]? = some oj /\ St P ops S0 fr sc V j oj vj a /\ oi.apart ops oj = true /\ Lin3 P ops S0 hv fin fr sc V L (T v) (is.erase j) ((a.put oi.dst v).put oj.dst vj) := by
          intro v hv'
          obtain ⟨oj, hoj, H'⟩ := ih (T v) _ hj' hp' (fun k hk => hap k (List.mem_cons_of_mem _ hk)) (fun k hk => hhv k (List.mem_cons_of_mem _ hk)) (fun k hk => hfin k (List.mem_cons_of_mem _ hk)) hv' (fun w h => hT1 v w h) (H v hv')
          have hapj := hap i List.mem_cons_self hij' oi oj hoi hoj
          obtain ⟨h1, h2, h3⟩ := Oper.apart_spec hapj
          rcases H' with ⟨vj, hyj, H'⟩ | ⟨hhj, _⟩
          · exact ⟨oj, vj, hoj, hyj.of_same (execOp_put oj (fun cs b => hsel j oj cs b hoj) a oi.dst v h1).symm (wanted_put oj a oi.dst v h1).symm, hapj, H'⟩
          · rw [hjn] at hhj; cases hhj
        obtain ⟨oj, vj, hoj, hyj, hapj, _⟩ := key v0 ⟨w1, ht0⟩
        obtain ⟨h1, h2, h3⟩ := Oper.apart_spec hapj
        refine ⟨oj, hoj, .inl ⟨vj, hyj, oi, hoi, .inr ⟨hh, T, hT.of_same (execOp_put oi (fun cs b => hsel i oi cs b hoi) a oj.dst vj h3) (wanted_put oi a oj.dst vj h3), hT0, fun v hv' => ?_⟩⟩⟩
        obtain ⟨oj', vj', hoj', hyj', _, H'⟩ := key v hv'
        have e1 : oj' = oj := Option.some.inj (hoj'.symm.trans hoj)
        subst e1
        have e2 : vj' = vj := hyj'.uniq hyj (hSS w0 hw0)
        subst e2
        rw [<- Act.put_comm a v vj' h2]
        exact H'
theorem wpAny_of_lin3 (hB : linB md ops hv fin fr = true) (hsc : ∀ j, j < ops.size -> sc j = true -> fr j = false) : ∀ (fuel : Nat) (S : World -> Prop) (is : List Nat) (listed : Array Bool) (a : Act) (w : World), is.length <= fuel -> listed.size = ops.size ->
  (∀ j, j < ops.size -> (listed.getD j true = false ↔ j ∈ is)) -> (∀ j ∈ is, j < ops.size) -> is.Pairwise (· < ·) -> ClosedL md ops listed -> ((∀ i ∈ is, fr i = true) \/ (∀ w, S w -> S0 w) /\ ∀ w w', S w -> Below w.heap.size w w' -> S w') -> S w -> Lin3 P ops S0 hv fin fr sc V (Q .normal) S is a -> wpAny P md ops Q fuel listed a w := by
 obtain ⟨hB1, hB2⟩ := linB_spec hB
 obtain ⟨hsel, hlt, hap⟩ := steadyB_spec hB1
 intro fuel
 have hnil : ∀ (is : List Nat) (listed : Array Bool), listed.size = ops.size -> (∀ j, j < ops.size -> (listed.getD j true = false ↔ j ∈ is)) -> (∀ j ∈ is, j < ops.size) -> is.Pairwise (· < ·) -> Region.ready md ops listed = [] -> is = [] := by
  intro is listed hsz hmem hin hp hr
  cases is with
  | nil => rfl
  | cons i is =>
   exfalso
   have hi := hin i List.mem_cons_self
   have : i ∈ Region.ready md ops listed := by
    refine mem_ready.2 ⟨(hmem i hi).2 List.mem_cons_self, ops[i], Array.getElem?_eq_getElem hi, fun e he hb => ?_⟩
    have h1 := hlt i _ (Array.getElem?_eq_getElem hi) e he hb
    cases h2 : listed.getD e.on false with
    | true => rfl
    | false =>
     have h3 := (hmem e.on (by omega)).1 (getD_in (by omega) h2)
     rcases List.mem_cons.1 h3 with h3 | h3
     ·omega
     ·have := (List.pairwise_cons.1 hp).1 _ h3; omega
   rw [hr] at this
   cases this
 induction fuel with
 | zero =>
  intro S is listed a w hf hsz hmem hin hp hcl hS0 hS H
  have e : is = [] := List.eq_nil_of_length_eq_zero (by omega)
  subst e
  refine ⟨?_, H w hS⟩
  rw [List.eq_nil_iff_forall_not_mem]
  intro j hj
  obtain ⟨h1, o, ho, _⟩ := mem_ready.1 hj
  have := (hmem j (Array.getElem?_eq_some_iff.1 ho).1).1 h1
  cases this
 | succ fuel ih =>
  intro S is listed a w hf hsz hmem hin hp hcl hS0 hS H
  refine ⟨fun hr => ?_, fun j hj => ?_⟩
  ·have e := hnil is listed hsz hmem hin hp hr
   subst e
   exact H w hS
  ·obtain ⟨h1, oj, hoj, hall⟩ := mem_ready.1 hj
   have hjs := (Array.getElem?_eq_some_iff.1 hoj).1
   have hji := (hmem j hjs).1 h1
   have hSS : ∀ w, S w -> fr j = true \/ S0 w := by
    rcases hS0 with h | h
    ·exact fun _ _ => .inl (h j hji)
    ·exact fun w hw => .inr (h.1 w hw)
   have hS1 : (∀ i ∈ is.erase j, fr i = true) \/ (∀ w, S w -> S0 w) /\ ∀ w w', S w -> Below w.heap.size w w' -> S w' := hS0.imp (fun h k hk => h k (List.mem_of_mem_erase hk)) id
   have hno : ∀ i ∈ is, listed.getD i false ≠ true := by
    intro i hi h2
    have h3 := (hmem i (hin i hi)).2 hi
    rw [getD_both h3] at h2
    cases h2
   obtain ⟨o, ho, H'⟩ := Lin3.pull (Region.noSelect_spec hsel) is S a hji hp (fun i hi hij oi oj' hoi hoj' => by
    refine hap i j oi oj' hij hoi hoj' (fun e he hb heq => ?_)
    have : oj' = oj := Option.some.inj (hoj'.symm.trans hoj)
    subst this
    have h2 := hall e he hb
    rw [heq] at h2
    exact hno i hi h2)
    (fun i hi hij h2 => by
     cases h3 : hv j with
     | false => rfl
     | true =>
      exfalso
      exact hno i hi (reach_listed hcl _ j oj hoj hall ((hB2 i j oj hij hoj).1 h2 h3)))
    (fun i hi hij => (hB2 i j oj hij hoj).2.1) ⟨w, hS⟩ hSS H
   have e1 : o = oj := Option.some.inj (ho.symm.trans hoj)
   subst e1
   have hnd : is.Nodup := hp.imp (fun h => Nat.ne_of_lt h)
   have hcl' : ClosedL md ops (listed.setIfInBounds j true) := by
    intro k ok hok hk e he hb
    have hkey : listed.getD e.on false = true := by
     by_cases hkj : k = j
     ·subst hkj
      have : ok = o := Option.some.inj (hok.symm.trans hoj)
      subst this
      exact hall e he hb
     ·rw [getD_set_ne false (Ne.symm hkj)] at hk
      exact hcl k ok hok hk e he hb
    by_cases hej : e.on = j
    ·rw [hej]
     simp [hsz, hjs]
    ·rw [getD_set_ne false (Ne.symm hej)]
     exact hkey
   have hmem' : ∀ k, k < ops.size -> ((listed.setIfInBounds j true).getD k true = false ↔ k ∈ is.erase j) := by
    intro k hk
    rw [hnd.mem_erase_iff]
    by_cases hkj : k = j
    ·subst hkj
     simp [hsz, hk]
    ·rw [getD_set_ne true (Ne.symm hkj), hmem k hk]
     simp [hkj]
   have go := fun (S' : World -> Prop) (a' : Act) (w' : World) (h0 : (∀ i ∈ is.erase j, fr i = true) \/ (∀ w, S' w -> S0 w) /\ ∀ w w', S' w -> Below w.heap.size w w' -> S' w') (hS' : S' w') (HH : Lin3 P ops S0 hv fin fr sc V (Q .normal) S' (is.erase j) a') =>
    ih S' (is.erase j) (listed.setIfInBounds j true) a' w' (by rw [List.length_erase_of_mem hji]; omega) (by simpa using hsz) hmem' (fun k hk => hin k (List.mem_of_mem_erase hk)) (hp.sublist List.erase_sublist) hcl' h0 hS' HH
   unfold Go.wpOp
   simp only [hoj]
   rcases H' with ⟨v, hy, H'⟩ | ⟨hhj, T, ⟨hw, hT⟩, hT0, H'⟩
   ·rcases hy with ⟨hs, hy⟩ | ⟨hs, rfl, hw, hr⟩
    ·rcases hy with ⟨hw, hr⟩ | ⟨hw, rfl⟩
     ·simp only [hw, if_true]
      refine .inl ?_
      unfold Oper.wp
      rw [hr w (hSS w hS)]
      exact go S _ w hS1 hS H'
     ·simp only [hw, Bool.false_eq_true, if_false]
      exact go S _ w hS1 hS H'
    ·simp only [hw, if_true]
     refine .inl ?_
     have hcS : (∀ w, S w -> S0 w) /\ ∀ w w', S w -> Below w.heap.size w w' -> S w' := hS0.resolve_left (fun h => by
      have := h j hji
      rw [hsc j hjs hs] at this
      cases this)
     have h2 := hr w (hcS.1 w hS)
     unfold Oper.wp
     generalize (execOp a.eval o).run P w = r at *
     cases r with
     | ok n w' =>
      cases n <;> simp only [SCRun] at h2 <;> simp only [Oper.upon]
      case enter f args =>
       obtain ⟨rfl, h2⟩ := h2
       refine Calls.mono h2 fun e w'' he => ?_
       obtain ⟨rfl, hb⟩ := he
       exact go S _ w'' hS1 (hcS.2 _ _ hS hb) H'
     | halt x w' => simp only [SCRun] at h2
   ·simp only [hw, if_true]
    refine .inl ?_
    have hfinL : ∀ v, (∀ k ∈ is.erase j, fr k = true) \/ (∀ w, T v w -> S0 w) /\ ∀ w w', T v w -> Below w.heap.size w w' -> T v w' := by
     intro v
     rcases hT0 with hf' | hf'
     ·refine .inl ?_
      intro k hk
      obtain ⟨hkj, hk'⟩ := hnd.mem_erase_iff.1 hk
      rcases Nat.lt_or_ge k j with h2 | h2
      ·rcases (hB2 k j o h2 hoj).2.2 hf' with h3 | h3
       ·exact absurd (reach_listed hcl _ j o hoj hall h3) (hno k hk')
       ·exact h3
      ·have h3 : j < k := by omega
       have hks := hin k hk'
       rcases (hB2 j k ops[k] h3 (Array.getElem?_eq_getElem hks)).2.1 with h4 | h4
       ·rw [hf'] at h4
        cases h4
       ·exact h4
     ·exact .inr ⟨hf'.1 v, hf'.2 v⟩
    have h2 := hT w hS
    unfold Oper.wp
    generalize (execOp a.eval o).run P w = r at *
    cases r with
    | ok n w' =>
     cases n <;> simp only [HRun] at h2 <;> simp only [Oper.upon]
     case value u => exact go (T u) _ w' (hfinL u) h2 (H' u ⟨w', h2⟩)
     case skip => exact go (T undef) _ w' (hfinL undef) h2 (H' undef ⟨w', h2⟩)
     case enter f args =>
      refine Calls.mono h2 fun e w'' he => ?_
      obtain ⟨v, rfl, ht⟩ := he
      exact go (T v) _ w'' (hfinL v) ht (H' v ⟨w'', ht⟩)
    | halt x w' => simp only [HRun] at h2
def wpL3 (P : Program) (ops : Array Oper) (S0 : World -> Prop) (hv fin fr sc : Nat -> Bool) (V : Nat -> Value) (L : Act -> World -> Prop) : Nat -> (World -> Prop) -> List Oper -> Act -> Prop
  | _, S, [], a => ∀ w, S w -> L a w
  | k, S, o :: os, a => (∃ v, St P ops S0 fr sc V k o v a /\ wpL3 P ops S0 hv fin fr sc V L (k + 1) S os (a.put o.dst v)) \/
      (hv k = true /\ ∃ T, HS P ops S o T a /\ (fin k = true \/ (∀ v w, T v w -> S0 w) /\ ∀ v w w', T v w -> Below w.heap.size w w' -> T v w') /\ ∀ v, (∃ w, T v w) -> wpL3 P ops S0 hv fin fr sc V L (k + 1) (T v) os (a.put o.dst v))
theorem lin3_of_l {L : Act -> World -> Prop} : ∀ (os : List Oper) (k : Nat) (S : World -> Prop) (a : Act), (∀ j, os[j]? = ops[k + j]?) -> wpL3 P ops S0 hv fin fr sc V L k S os a -> Lin3 P ops S0 hv fin fr sc V L S (List.range' k os.length) a := by
 intro os
 induction os with
 | nil => intro k S a _ h; exact h
 | cons o os ih =>
  intro k S a hj h
  rw [List.length_cons, List.range'_succ]
  have hj' : ∀ j, os[j]? = ops[k + 1 + j]? := fun j => by
   have := hj (j + 1)
   rw [List.getElem?_cons_succ] at this
   rw [this, Nat.add_right_comm, Nat.add_assoc]
  refine ⟨o, by have := hj 0; simpa using this.symm, ?_⟩
  rcases h with ⟨v, hy, h⟩ | ⟨hh, T, hT, hT0, h⟩
  ·exact .inl ⟨v, hy, ih (k + 1) S _ hj' h⟩
  ·exact .inr ⟨hh, T, hT, hT0, fun v hv' => ih (k + 1) (T v) _ hj' (h v hv')⟩
theorem wp_region_lin3 {id : Nat} {a : Act} {w : World} {l : List Oper} (S0 S : World -> Prop) (hv fin fr sc : Nat -> Bool) (V : Nat -> Value) (hm : P.follows .mixedOrders = true) (hB : linB .any l.toArray hv fin fr = true) (hsc : ((List.range l.length).all fun j => !(sc j) || !(fr j)) = true) (hS : S w.drew) (hSS : ∀ w, S w -> S0 w) (hSC : ∀ w w', S w -> Below w.heap.size w w' -> S w')
  (h : wpL3 P l.toArray S0 hv fin fr sc V (Q .normal) 0 S l a) : (Code.region id l.toArray true).wp P Q a w := by
 refine wp_region_any hm (wpAny_of_lin3 hB (fun j hj hs => by
  have h1 := List.all_eq_true.1 hsc j (List.mem_range.2 (by simpa using hj))
  rw [hs] at h1
  simpa using h1) _ S (List.range' 0 l.length) _ a _ (by simp) (by simp) (fun j hj => ?_) (fun j hj => by simpa using hj) (List.pairwise_lt_range' ..) (fun j oj hj hl => ?_) (.inr ⟨hSS, hSC⟩) hS (lin3_of_l l 0 S a (fun j => by simp) h))
 ·simp at hj
  simp [hj]
 ·exfalso
  rw [Array.getD_eq_getD_getElem?] at hl
  rw [Array.getElem?_replicate] at hl
  split at hl <;> simp at hl
theorem wpL3_nil {L : Act -> World -> Prop} {k : Nat} {S : World -> Prop} {a : Act} (h : ∀ w, S w -> L a w) : wpL3 P ops S0 hv fin fr sc V L k S [] a := h
theorem wpL3_read {L : Act -> World -> Prop} {k : Nat} {S : World -> Prop} {o : Oper} {os : List Oper} {a : Act} {v : Value} (hs : sc k = false) (hf : fr k = false) (hw : Region.wanted o (yielded ops a.tmps) = true) (hy : ∀ w, S0 w -> (execOp a.eval o).run P w = .ok (.value v) w)
  (h : wpL3 P ops S0 hv fin fr sc V L (k + 1) S os (a.put o.dst v)) : wpL3 P ops S0 hv fin fr sc V L k S (o :: os) a := .inl ⟨v, .inl ⟨hs, .inl ⟨hw, fun w hh => hy w (hh.resolve_left (by rw [hf]; simp))⟩⟩, h⟩
theorem wpL3_free {L : Act -> World -> Prop} {k : Nat} {S : World -> Prop} {o : Oper} {os : List Oper} {a : Act} {v : Value} (hs : sc k = false) (hw : Region.wanted o (yielded ops a.tmps) = true) (hy : ∀ w, (execOp a.eval o).run P w = .ok (.value v) w)
  (h : wpL3 P ops S0 hv fin fr sc V L (k + 1) S os (a.put o.dst v)) : wpL3 P ops S0 hv fin fr sc V L k S (o :: os) a := .inl ⟨v, .inl ⟨hs, .inl ⟨hw, fun w _ => hy w⟩⟩, h⟩
theorem wpL3_not {L : Act -> World -> Prop} {k : Nat} {S : World -> Prop} {o : Oper} {os : List Oper} {a : Act} (hs : sc k = false) (hw : Region.wanted o (yielded ops a.tmps) = false) (h : wpL3 P ops S0 hv fin fr sc V L (k + 1) S os (a.put o.dst undef)) : wpL3 P ops S0 hv fin fr sc V L k S (o :: os) a :=
 .inl ⟨undef, .inl ⟨hs, .inr ⟨hw, rfl⟩⟩, h⟩
theorem wpL3_call {L : Act -> World -> Prop} {k : Nat} {S : World -> Prop} {o : Oper} {os : List Oper} {a : Act} {f : FuncId} {args : Array Value} {v : Value} (hs : sc k = true) (hV : v = V k) (hw : Region.wanted o (yielded ops a.tmps) = true) (he : ∀ w, S0 w -> (execOp a.eval o).run P w = .ok (.enter f args) w)
  (hy : ∀ w, S0 w -> Calls P f args w fun e w' => e = .returned v /\ Below w.heap.size w w') (h : wpL3 P ops S0 hv fin fr sc V L (k + 1) S os (a.put o.dst v)) : wpL3 P ops S0 hv fin fr sc V L k S (o :: os) a :=
 .inl ⟨v, .inr ⟨hs, hV, hw, fun w hS => by rw [he w hS]; exact ⟨rfl, hy w hS⟩⟩, h⟩
theorem wpL3_heavy {L : Act -> World -> Prop} {k : Nat} {S : World -> Prop} {o : Oper} {os : List Oper} {a : Act} (T : Value -> World -> Prop) (hk : hv k = true) (hw : Region.wanted o (yielded ops a.tmps) = true) (hy : ∀ w, S w -> HRun P T ((execOp a.eval o).run P w))
  (h0 : fin k = true \/ (∀ v w, T v w -> S0 w) /\ ∀ v w w', T v w -> Below w.heap.size w w' -> T v w') (h : ∀ v, (∃ w, T v w) -> wpL3 P ops S0 hv fin fr sc V L (k + 1) (T v) os (a.put o.dst v)) : wpL3 P ops S0 hv fin fr sc V L k S (o :: os) a :=
 .inr ⟨hk, T, ⟨hw, hy⟩, h0, h⟩
end
def NewB (W : World) (T : TypeId) (cs : Array Value) (v : Value) (w' : World) : Prop := ∃ r, v = .pointer (some ⟨r, 0, none⟩) /\ W.heap.size <= r /\ Blk w' r T cs /\ Below W.heap.size W w'
section
variable {W w w' : World} {T : TypeId} {cs : Array Value} {v : Value}
theorem NewB.bel (h : NewB W T cs v w) : Below W.heap.size W w := by
 obtain ⟨_, _, _, _, h⟩ := h
 exact h
theorem NewB.keep (h : NewB W T cs v w) (hb : Below w.heap.size w w') : NewB W T cs v w' := by
 obtain ⟨r, h1, h2, h3, h4⟩ := h
 exact ⟨r, h1, h2, h3.below hb, bseq h4 hb⟩
theorem NewB.at_ {r : Nat} (h : NewB W T cs (.pointer (some ⟨r, 0, none⟩)) w) : W.heap.size <= r /\ Blk w r T cs /\ Below W.heap.size W w := by
 obtain ⟨r', h1, h2, h3, h4⟩ := h
 have e : r = r' := by
  injection h1 with h1
  injection h1 with h1
  injection h1
 subst e
 exact ⟨h2, h3, h4⟩
theorem NewB.new (T : TypeId) (cs : Array Value) (h : Below W.heap.size W w) : NewB W T cs (.pointer (some ⟨w.heap.size, 0, none⟩)) (w.alloc (.cells cs T)) := ⟨_, rfl, h.size, Blk.new w _ _, balloc h⟩
end
theorem IntsI.reads {w : World} {A : Option Addr} {n : Nat} {l : List Int} (h : IntsI w A n l) (D : Nat -> Prop) (hD : ∀ b, (∃ cs, Blk w b 3 cs) -> D b) : Ints w D A n l := by
 unfold IntsI at h
 exact Reads.more (D' := D) h (fun b hb _ => hD b hb) (by decide)
theorem oft_len {enc : Int} {l : List Int} {K : Nat} (h0 : oftE enc l (K : Int) = 0) (hf : Fit enc l) (hl : l.length <= 140000) : K * l.length <= 2000000 := by
 have h1 := szL_ge enc l hf
 have h2 := szL_bd enc l
 have hany : ¬ (l.any (fun x => szA enc x == 0) = true) := by
  rw [List.any_eq_true]
  rintro ⟨x, hx, h⟩
  have := hf x hx
  simp at h
  omega
 unfold oftE at h0
 rw [if_neg hany] at h0
 split at h0
 ·omega
 ·rename_i hns
  rcases Nat.eq_zero_or_pos l.length with h3 | h3
  ·rw [h3]; omega
  ·obtain ⟨S, hS⟩ : ∃ S, szL_ enc l = S := ⟨_, rfl⟩
   rw [hS] at h1 h2 hns
   have h4 : S * (131072 / S) <= 131072 := Int.mul_ediv_self_le (by omega)
   obtain ⟨Q, hQ⟩ : ∃ Q, (131072 : Int) / S = Q := ⟨_, rfl⟩
   have hQ0 : 0 <= Q := by rw [<- hQ]; exact Int.ediv_nonneg (by decide) (by omega)
   rw [hQ] at h4 hns
   have hk : (K : Int) <= Q + 2 := by omega
   have h5 : (K : Int) * (l.length : Int) <= (Q + 2) * S := Int.mul_le_mul hk h1 (by omega) (by omega)
   rw [Int.add_mul, Int.mul_comm Q S] at h5
   have h6 : ((K * l.length : Nat) : Int) = (K : Int) * (l.length : Int) := by simp
   omega
theorem eds_one {w : World} {b : Nat} {x y : Int} {A : Option Addr} {n c : Nat} {xs : List Int} (hb : Blk w b 89 #[.int .i64 x, .int .i64 y, .slice A n c]) (hI : IntsI w A n xs) :
  EdsAt w (fun b => (∃ cs, Blk w b 3 cs) \/ ∃ cs, Blk w b 89 cs) (some ⟨b, 0, none⟩) 1 [⟨x, y, A, n, c, xs⟩] := by
 refine ⟨⟨rfl, fun _ => ⟨_, rfl, .inr ⟨_, hb⟩, fun j u hu => ?_⟩⟩, fun e he => ?_⟩
 ·rw [add_cell, hb.cell, Nat.zero_add]
  simp only [Ed.cells, List.flatMap_cons, List.flatMap_nil, List.append_nil] at hu
  rw [<- hu]
  simp
 ·simp at he
  subst he
  exact hI.reads _ (fun b h => .inl h)
def Put1Ok (B gd gb g ba : Nat) (enc lim : Int) (n : Nat) (st : BkS) (o : OpS) (dc : Array Value) (P : List Int) (x : Int) (w : World) (e : Ending) (w' : World) : Prop :=
 ∃ (A : Option Addr) (c j : Nat) (T : Int), T = (if brokenF P = true then x else x + P.length - 1) /\ e = .returned (.int .i64 (clampX (sizedA enc (edA [typeE x P A c] st.ats)) T j)) /\ refF enc lim (sizedA enc st.ats) [typeE x P A c] = 0 /\ ClampOk (sizedA enc (edA [typeE x P A c] st.ats)) T j /\ j <= nC (cont (sizedA enc (edA [typeE x P A c] st.ats)) (rowIx (sizedA enc (edA [typeE x P A c] st.ats)) T false)) /\
  DeskIs w' B gd gb g enc lim (n + 131072) { st with ats := edA [typeE x P A c] st.ats, now := some { o with moves := o.moves ++ [[typeE x P A c].map mvOf], changed := o.changed || [typeE x P A c].any chg } } dc /\ DFr B (· = ba) w w'
def Put1Bad (B gd gb g ba : Nat) (enc lim : Int) (n : Nat) (st : BkS) (dc : Array Value) (l P : List Int) (K : Nat) (x : Int) (w : World) (e : Ending) (w' : World) : Prop :=
 ∃ c : Int, c ≠ 0 /\ (c = oftE enc l K \/ ∃ A k, c = refF enc lim (sizedA enc st.ats) [typeE x P A k]) /\ e = .panicked [errPanic c] /\ DeskIs w' B gd gb g enc lim n st dc /\ DFr B (· = ba) w w'
theorem put1_chars (B gd gb g n b0 br bc ba bu : Nat) (enc lim x cnt : Int) (up : Bool) (st : BkS) (o : OpS) (dc : Array Value) (A : Option Addr) (N c K : Nat) (l : List Int) (w : World) (h : DeskIs w B gd gb g enc lim n st dc) (hn : st.now = some o) (hom : o.moves.length < 1048576)
  (k0 : Blk w b0 23 #[.pointer (some ⟨gd, 0, none⟩)]) (kr : Blk w br 66 #[.int .i64 0, .slice A N c]) (kc : Blk w bc 3 #[.int .i64 cnt]) (ka : Blk w ba 3 #[.int .i64 x]) (ku : Blk w bu 4 #[.bool up])
  (hl : Ints w Any A N l) (hN : N <= 140000) (hK : min cnt 9999 = (K : Int)) (hK1 : 1 <= K) (hx : 0 <= x /\ x <= (st.ats.length : Int)) (hnn : n + 131072 <= 1073741824) :
  Calls Tryz.prog 37 #[.pointer (some ⟨b0, 0, none⟩), .pointer (some ⟨br, 0, none⟩), .pointer (some ⟨bc, 0, none⟩), .pointer (some ⟨ba, 0, none⟩), .pointer (some ⟨bu, 0, none⟩)] w fun e w' =>
   Put1Ok B gd gb g ba enc lim n st o dc (repeatL l K) (putX (sizedA enc st.ats) up x) w e w' \/ Put1Bad B gd gb g ba enc lim n st dc l (repeatL l K) K (putX (sizedA enc st.ats) up x) w e w' := by
 have hp := h.pos
 have hlen := h.len
 have hbx := putX_bd hp up hx.1 (by rw [sizedA_len]; exact hx.2)
 have hle := ofF_le (sizedA enc st.ats) x
 have hfr := ofF_frm hp hx.1 (by rw [sizedA_len]; exact hx.2)
 have hbd := lineF_bd hp hle
 have hcl := cont_len hp hle
 have hlnl := hl.len
 rw [sizedA_len] at hbd hbx
 have HOF := Lib.hid (fun (z : Int) (hz : z = (K : Int)) => by
  have := often_any h Any A N c K l hl hN ⟨hK1, by omega⟩
  rw [<- hz] at this
  exact this)
 have HLN := Lib.hid (fun (w' : World) (hb : Below w.heap.size w w') => line_desk (h.below hb) (ofF (sizedA enc st.ats) x) hle)
 have HFO := Lib.hid (fun (w' : World) (hb : Below w.heap.size w w') => of_line Any g enc (sizedA enc st.ats) x w' (h.below hb).at_)
 have hat := fun (f t : Int) (h1 : 0 <= f) (h2 : t <= 2147483648) (w' : World) (hb : Below w.heap.size w w') => tatoms_any Any g enc (sizedA enc st.ats) f t w' (h.below hb).at_ (by omega) h2
 have hatL := hat (lineF (sizedA enc st.ats) (ofF (sizedA enc st.ats) x)).from_ (lineF (sizedA enc st.ats) (ofF (sizedA enc st.ats) x)).to_ (by omega) (by omega)
 have HT := Lib.hid (fun (w' : World) (hb : Below w.heap.size w w') => text_desk (h.below hb))
 have hcont : seg (lineF (sizedA enc st.ats) (ofF (sizedA enc st.ats) x)).from_ (lineF (sizedA enc st.ats) (ofF (sizedA enc st.ats) x)).to_ ((sizedA enc st.ats).map Prod.fst) = cont (sizedA enc st.ats) (ofF (sizedA enc st.ats) x) := rfl
 rw [hcont] at hatL
 have hX : putX (sizedA enc st.ats) up x = if up = false /\ (lineF (sizedA enc st.ats) (ofF (sizedA enc st.ats) x)).from_ < (lineF (sizedA enc st.ats) (ofF (sizedA enc st.ats) x)).to_ then (lineF (sizedA enc st.ats) (ofF (sizedA enc st.ats) x)).from_ + (nextF (cont (sizedA enc st.ats) (ofF (sizedA enc st.ats) x)) (x - (lineF (sizedA enc st.ats) (ofF (sizedA enc st.ats) x)).from_).toNat : Nat) else x := rfl
 obtain ⟨X, hXX⟩ : ∃ X, putX (sizedA enc st.ats) up x = X := ⟨_, rfl⟩
 rw [hXX] at hX hbx ⊢
 obtain ⟨C, hC⟩ : ∃ C, cont (sizedA enc st.ats) (ofF (sizedA enc st.ats) x) = C := ⟨_, rfl⟩
 rw [hC] at hX hcl hatL
 have hng := nextF_le C
 obtain ⟨⟨x0, x1, x2, x3⟩, hL⟩ : ∃ L, lineF (sizedA enc st.ats) (ofF (sizedA enc st.ats) x) = L := ⟨_, rfl⟩
 obtain ⟨i, hi⟩ : ∃ i, ofF (sizedA enc st.ats) x = i := ⟨_, rfl⟩
 rw [hL] at hX hcl hbd hfr hatL
 rw [hi] at HLN HFO hL
 rw [hL] at HLN
 dsimp only at hX hcl hbd hfr hatL
 simp only [Ln.cells] at HLN
 obtain ⟨P, hP⟩ : ∃ P, repeatL l K = P := ⟨_, rfl⟩
 have hPl : P.length = K * N := by rw [<- hP, repeatL_len, hlnl]
 rw [hP] at ⊢
 have HPP := Lib.hid hP
 have hKN : oftE enc l K = 0 -> Fit enc l -> P.length <= 2000000 := fun h0 hf => by
  rw [hPl]
  have := oft_len h0 hf (by omega)
  rwa [hlnl] at this
 have HKN := Lib.hid hKN
 have HATL := Lib.hid hatL
 have HH := Lib.hid h
 have HNW := Lib.hid hn
 have HX := Lib.hid hX
 have HCL := Lib.hid hcl
 have HNG := Lib.hid hng
 have hF : ∀ w', Below w.heap.size w w' -> w'.cell? ⟨b0, 0, none⟩ = some (.pointer (some ⟨gd, 0, none⟩)) /\ w'.cell? ⟨br, 0, none⟩ = some (.int .i64 0) /\ w'.cell? ⟨br, 1, none⟩ = some (.slice A N c) /\ w'.cell? ⟨bc, 0, none⟩ = some (.int .i64 cnt) /\ w'.cell? ⟨ba, 0, none⟩ = some (.int .i64 x) /\ w'.frozen? ⟨ba, 0, none⟩ = false /\ w'.cell? ⟨bu, 0, none⟩ = some (.bool up) := fun w' hb =>
  ⟨(k0.below hb).cell 0, (kr.below hb).cell 0, (kr.below hb).cell 1, (kc.below hb).cell 0, (ka.below hb).cell 0, (ka.below hb).frozen 0, (ku.below hb).cell 0⟩
 have HF := Lib.hid hF
 have HKA := Lib.hid ka
 have HK0 := Lib.hid k0
 obtain ⟨y0, y1, y2, y3, y4, y5, y6⟩ := hF w (Below.refl _ _)
 clear hF h hn k0 kr kc ka ku hl hX hXX hC hL hi hP hat hatL hcont hcl hng hKN hle hp hPl hlnl
 go_enter Tryz.func37, Tryz.ntmps37
 go_upto_region 1 with fail
 go_cut [6] (fun s wx => ∃ A7 c7, s = .slice A7 P.length c7 /\ P.length <= c7 /\ Hid (wx.ownsRow w.heap.size 3 1 (.slice A7 P.length c7) P.length (P.map (Value.int .i64))) /\ Hid (oftE enc l K = 0 /\ Fit enc l) /\ Below w.heap.size w wx)
 case first =>
  rcases ilt_or_ge 9999 cnt with h9 | h9
  ·have p1 : (9999 < cnt) = True := by simp; omega
   have HO := Lib.hid (HOF.out 9999 (by omega))
   clear hK HOF h9
   go_wp2_with fail
   refine (HO.out).mono ?_
   intro e w1 hP
   unfold OftenPost at hP
   rw [HPP.out] at hP
   rcases hP with ⟨h0, hfit, v, rfl, ho, hb1⟩ | ⟨h0, rfl, hb1⟩
   ·obtain ⟨A7, c7, rfl, hc7⟩ := own_slice ho
    have HR := Lib.hid (And.intro ho (And.intro h0 hfit))
    clear ho h0 hfit
    go_wp2_with fail
    go_meet
    exact ⟨A7, c7, rfl, hc7, Lib.hid HR.out.1, Lib.hid HR.out.2, hb1⟩
   ·go_wp2_with fail
    exact ⟨rfl, .inr ⟨_, h0, .inl rfl, rfl, HH.out.below hb1, DFr.of_below hb1⟩⟩
  ·have p1 : (9999 < cnt) = False := by simp; omega
   have HO := Lib.hid (HOF.out cnt (by omega))
   clear hK HOF h9
   go_wp2_with fail
   refine (HO.out).mono ?_
   intro e w1 hP
   unfold OftenPost at hP
   rw [HPP.out] at hP
   rcases hP with ⟨h0, hfit, v, rfl, ho, hb1⟩ | ⟨h0, rfl, hb1⟩
   ·obtain ⟨A7, c7, rfl, hc7⟩ := own_slice ho
    have HR := Lib.hid (And.intro ho (And.intro h0 hfit))
    clear ho h0 hfit
    go_wp2_with fail
    go_meet
    exact ⟨A7, c7, rfl, hc7, Lib.hid HR.out.1, Lib.hid HR.out.2, hb1⟩
   ·go_wp2_with fail
    exact ⟨rfl, .inr ⟨_, h0, .inl rfl, rfl, HH.out.below hb1, DFr.of_below hb1⟩⟩
 case rest =>
  obtain ⟨A7, c7, rfl, hc7, HP7, HFT, hw1⟩ := hcut
  clear y0 y1 y2 y3 y4 y5 y6 hK HOF
  go_upto_region 2 with fail
  refine wp_region_lin3 (fun w' => Below wc.heap.size wc w') (fun w' => Below wc.heap.size wc w') (fun k => k == 6 || k == 7) (fun k => k == 7) (fun _ => false) (fun k => k == 2 || k == 4 || k == 5) (fun k => if k == 2 then .pointer (some ⟨g, 0, none⟩) else if k == 4 then .int .i64 (i : Int) else .agg #[.int .i64 x0, .int .i64 x1, .int .i64 x2, .int .i64 x3]) (by kernel_rfl) (by kernel_rfl) (by kernel_rfl) (Below.drew (Below.refl _ _)) (fun _ h => h) (fun _ _ h hb => bseq h hb) ?_
  repeat ((first
   | (refine wpL3_read (v := ?_) (by rfl) (by rfl) (by rfl) (fun w6 hSw => ?_) ?_; rotate_left; (· (obtain ⟨y0, y1, y2, y3, y4, y5, y6⟩ := HF.out _ (bseq hw1 hSw); go_simp; try with_reducible rfl)))
   | (refine wpL3_free (v := ?_) (by rfl) (by rfl) (fun w6 => ?_) ?_; rotate_left; (· (go_simp; try with_reducible rfl)))
   | refine wpL3_not (by rfl) (by rfl) ?_); (try simp only [Act.put, pA, pB, pC]))
  refine wpL3_call (f := ?_) (args := ?_) (v := .pointer (some ⟨g, 0, none⟩)) (by rfl) (by rfl) (by rfl) (fun w6 hSw => ?_) (fun w6 hSw => ?_) ?_
  rotate_left 2
  ·(skip; go_simp; first | done | (constructor <;> with_reducible rfl) | with_reducible rfl)
  ·(refine (HT.out _ (bseq hw1 hSw)).mono ?_; rintro e w' ⟨rfl, rfl⟩; exact ⟨rfl, Below.refl _ _⟩)
  (try simp only [Act.put, pA, pB, pC])
  repeat ((first
   | (refine wpL3_read (v := ?_) (by rfl) (by rfl) (by rfl) (fun w6 hSw => ?_) ?_; rotate_left; (· (obtain ⟨y0, y1, y2, y3, y4, y5, y6⟩ := HF.out _ (bseq hw1 hSw); go_simp; try with_reducible rfl)))
   | (refine wpL3_free (v := ?_) (by rfl) (by rfl) (fun w6 => ?_) ?_; rotate_left; (· (go_simp; try with_reducible rfl)))
   | refine wpL3_not (by rfl) (by rfl) ?_); (try simp only [Act.put, pA, pB, pC]))
  refine wpL3_call (f := ?_) (args := ?_) (v := .int .i64 (i : Int)) (by rfl) (by rfl) (by rfl) (fun w6 hSw => ?_) (fun w6 hSw => ?_) ?_
  rotate_left 2
  ·(skip; go_simp; first | done | (constructor <;> with_reducible rfl) | with_reducible rfl)
  ·(refine (HFO.out _ (bseq hw1 hSw)).mono ?_; rintro e w' ⟨rfl, hb⟩; exact ⟨rfl, hb⟩)
  (try simp only [Act.put, pA, pB, pC])
  refine wpL3_call (f := ?_) (args := ?_) (v := .agg #[.int .i64 x0, .int .i64 x1, .int .i64 x2, .int .i64 x3]) (by rfl) (by rfl) (by rfl) (fun w6 hSw => ?_) (fun w6 hSw => ?_) ?_
  rotate_left 2
  ·(skip; go_simp; first | done | (constructor <;> with_reducible rfl) | with_reducible rfl)
  ·(refine (HLN.out _ (bseq hw1 hSw)).mono ?_; rintro e w' ⟨rfl, hb⟩; exact ⟨rfl, hb⟩)
  (try simp only [Act.put, pA, pB, pC])
  refine wpL3_heavy (NewB wc 59 #[.int .i64 0, .int .i64 0, .int .i64 0, .int .i64 0]) (by rfl) (by rfl) (fun w6 hSw => ?_) (.inr ⟨fun v6 w6 hT6 => ?_, fun v6 w6 w7 hT6 hb7 => ?_⟩) (fun v6 hv6 => ?_)
  ·(go_simp; exact NewB.new _ _ hSw)
  ·(exact hT6.bel)
  ·(exact hT6.keep hb7)
  obtain ⟨wz, r, rfl, -⟩ := hv6
  (try simp only [Act.put, pA, pB, pC])
  refine wpL3_heavy (fun _ w' => NewB wc 59 #[.int .i64 x0, .int .i64 x1, .int .i64 x2, .int .i64 x3] (.pointer (some ⟨r, 0, none⟩)) w') (by rfl) (by rfl) (fun w6 hSw => ?_) (.inl (by rfl)) (fun v6 hv6 => ?_)
  ·(obtain ⟨hge, hb, hbl⟩ := hSw.at_; have e0 := hb.cell 0; have e1 := hb.cell 1; have e2 := hb.cell 2; have e3 := hb.cell 3; have f0 := hb.frozen 0; have f1 := hb.frozen 1; have f2 := hb.frozen 2; have f3 := hb.frozen 3; simp at e0 e1 e2 e3; go_simp; exact ⟨r, rfl, hge, ((((hb.set_ 0 _).set_ 1 _).set_ 2 _).set_ 3 _).eq_ (by simp), (((hbl.setCell (p := ⟨r, 0, none⟩) hge _).setCell (p := ⟨r, 1, none⟩) hge _).setCell (p := ⟨r, 2, none⟩) hge _).setCell (p := ⟨r, 3, none⟩) hge _⟩)
  skip
  (try simp only [Act.put, pA, pB, pC])
  repeat ((first
   | (refine wpL3_read (v := ?_) (by rfl) (by rfl) (by rfl) (fun w6 hSw => ?_) ?_; rotate_left; (· (obtain ⟨y0, y1, y2, y3, y4, y5, y6⟩ := HF.out _ (bseq hw1 hSw); go_simp; try with_reducible rfl)))
   | (refine wpL3_free (v := ?_) (by rfl) (by rfl) (fun w6 => ?_) ?_; rotate_left; (· (go_simp; try with_reducible rfl)))
   | refine wpL3_not (by rfl) (by rfl) ?_); (try simp only [Act.put, pA, pB, pC]))
  refine wpL3_nil ?_
  rintro w2 hN
  obtain ⟨hge, hbr, hb2⟩ := hN.at_
  have hw2 := bseq hw1 hb2
  obtain ⟨y0, y1, y2, y3, y4, y5, y6⟩ := HF.out w2 hw2
  obtain ⟨⟨z0, z1, z2, z3⟩, _⟩ := line_facts (l := ⟨x0, x1, x2, x3⟩) hbr
  dsimp only at z0 z1 z2 z3
  have HBR := Lib.hid hbr
  clear hN hbr hv6 hge
  obtain ⟨q, hq⟩ : ∃ q, (!up && decide (x0 < x1)) = q := ⟨_, rfl⟩
  have HQ := Lib.hid hq
  clear hq
  go_upto_region 5 with fail
  go_cut [36] (fun s wx => s = .bool q /\ wx = w2)
  case first =>
   cases up
   ·by_cases hlt : x0 < x1
    ·have p1 : (x0 < x1) = True := by simp; exact hlt
     go_wp2_with fail
     go_meet
     exact ⟨by rw [<- HQ.out]; simp [hlt], rfl⟩
    ·have p1 : (x0 < x1) = False := by simp; omega
     go_wp2_with fail
     go_meet
     exact ⟨by rw [<- HQ.out]; simp [hlt], rfl⟩
   ·go_wp2_with fail
    go_meet
    exact ⟨by rw [<- HQ.out]; simp, rfl⟩
  case rest =>
   obtain ⟨rfl, hwe⟩ := hcut
   rw [hwe]
   clear hwe
   have hXq : X = if q = true then x0 + (nextF C (x - x0).toNat : Nat) else x := by
    rw [HX.out, <- HQ.out]
    cases up <;> simp
   have HXQ := Lib.hid hXq
   clear hXq
   go_upto_if 36 with fail
   go_cut [] (fun wx => Blk wx ba 3 #[.int .i64 X] /\ Fr (· = ba) w2 wx)
   case first =>
    cases q
    ·have e : X = x := HXQ.out
     have hB := HKA.out.below hw2
     rw [<- e] at hB
     have HB := Lib.hid hB
     clear hB e
     go_wp2_with fail
     go_meet
     exact ⟨HB.out, Fr.refl _ _⟩
    ·have e : X = x0 + (nextF C (x - x0).toNat : Nat) := HXQ.out
     obtain ⟨p, hp⟩ : ∃ p : Nat, x - x0 = (p : Int) := ⟨(x - x0).toNat, by omega⟩
     rw [show (x - x0).toNat = p by omega] at e
     have hnp := HNG.out p
     have hcl := HCL.out
     obtain ⟨m, hm⟩ : ∃ m, nextF C p = m := ⟨_, rfl⟩
     have wp : IntKind.i64.wrap (x - x0) = (p : Int) := by rw [IntWalk.i64_in _ (by omega)]; exact hp
     have wX : IntKind.i64.wrap (x0 + (m : Int)) = X := by rw [IntWalk.i64_in _ (by omega), e, hm]
     have hNX : ∀ (w' : World) (A' : Option Addr) (c' : Nat), IntsI w' A' C.length C -> Calls Tryz.prog 41 #[.slice A' C.length c', .int .i64 (p : Int)] w' fun e w'' => e = .returned (.int .i64 (m : Int)) /\ Below w'.heap.size w' w'' := fun w' A' c' hI => by
      have := next_any Any A' C.length c' C p w' hI.any (by omega) (by omega)
      rwa [hm] at this
     have HNX := Lib.hid hNX
     have HWP := Lib.hid (And.intro wp wX)
     clear hNX e hm hnp hcl hp
     have hS : ∀ w', Below w2.heap.size w2 w' -> w'.cell? ⟨b0, 0, none⟩ = some (.pointer (some ⟨gd, 0, none⟩)) /\ w'.cell? ⟨ba, 0, none⟩ = some (.int .i64 x) /\ w'.frozen? ⟨ba, 0, none⟩ = false /\ w'.cell? ⟨r, 0, none⟩ = some (.int .i64 x0) /\ w'.cell? ⟨r, 1, none⟩ = some (.int .i64 x1) := fun w' hb => by
      obtain ⟨u0, -, -, -, u4, u5, -⟩ := HF.out w' (bseq hw2 hb)
      exact ⟨u0, u4, u5, (HBR.out.below hb).cell 0, (HBR.out.below hb).cell 1⟩
     have HS := Lib.hid hS
     clear hS y0 y1 y2 y3 y4 y5 y6 z0 z1 z2 z3
     go_upto_region 6 with fail
     refine wp_region_lin (fun w' => Below w2.heap.size w2 w') (fun w' => Below w2.heap.size w2 w') (fun k => k == 3 || k == 8 || k == 13 || k == 15) (fun k => k == 15) (fun _ => false) (by kernel_rfl) (by kernel_rfl) (Below.drew (Below.refl _ _)) (fun _ h => h) ?_
     repeat ((first
      | (refine wpL_read (v := ?_) (by rfl) (by rfl) (fun w6 hSw => ?_) ?_; rotate_left; (· (obtain ⟨y0, y4, y5, z0, z1⟩ := HS.out _ hSw; go_simp; try with_reducible rfl)))
      | (refine wpL_free (v := ?_) (by rfl) (fun w6 => ?_) ?_; rotate_left; (· (go_simp; try with_reducible rfl)))
      | refine wpL_not (by rfl) ?_); (try simp only [Act.put, pA, pB, pC]))
     refine wpL_call (f := ?_) (args := ?_) (fun v w' => v = .pointer (some ⟨g, 0, none⟩) /\ Below w2.heap.size w2 w') (by rfl) (by rfl) (fun w6 hSw => ?_) (fun w6 hSw => ?_) (.inr (fun v6 w6 hT6 => ?_)) (fun v6 hv6 => ?_)
     rotate_left 2
     ·(skip; go_simp; first | done | (constructor <;> with_reducible rfl) | with_reducible rfl)
     ·(refine (HT.out _ (bseq hw2 hSw)).mono ?_; rintro e w' ⟨rfl, rfl⟩; exact ⟨_, rfl, rfl, hSw⟩)
     ·(exact hT6.2)
     obtain ⟨wz, rfl, -⟩ := hv6
     (try simp only [Act.put, pA, pB, pC])
     repeat ((first
      | (refine wpL_read (v := ?_) (by rfl) (by rfl) (fun w6 hSw => ?_) ?_; rotate_left; (· (obtain ⟨y0, y4, y5, z0, z1⟩ := HS.out _ hSw; go_simp; try with_reducible rfl)))
      | (refine wpL_free (v := ?_) (by rfl) (fun w6 => ?_) ?_; rotate_left; (· (go_simp; try with_reducible rfl)))
      | refine wpL_not (by rfl) ?_); (try simp only [Act.put, pA, pB, pC]))
     refine wpL_call (f := ?_) (args := ?_) (fun v w' => IntsV w' v C /\ Below w2.heap.size w2 w') (by rfl) (by rfl) (fun w6 hSw => ?_) (fun w6 hSw => ?_) (.inr (fun v6 w6 hT6 => ?_)) (fun v6 hv6 => ?_)
     rotate_left 2
     ·(skip; go_simp; first | done | (constructor <;> with_reducible rfl) | with_reducible rfl)
     ·(refine (HATL.out _ (bseq hw2 hSw.2)).mono ?_; rintro e w' ⟨v, rfl, hown, hb'⟩; obtain ⟨A9, k9, rfl, hk9⟩ := own_slice hown; exact ⟨_, rfl, ⟨A9, k9, rfl, hk9, IntsI.of_own hown⟩, bseq hSw.2 hb'⟩)
     ·(exact hT6.2)
     obtain ⟨wz, ⟨A9, c9, rfl, hc9, -⟩, -⟩ := hv6
     (try simp only [Act.put, pA, pB, pC])
     repeat ((first
      | (refine wpL_read (v := ?_) (by rfl) (by rfl) (fun w6 hSw => ?_) ?_; rotate_left; (· (obtain ⟨y0, y4, y5, z0, z1⟩ := HS.out _ hSw; have wp := HWP.out.1; go_simp; try with_reducible rfl)))
      | (refine wpL_free (v := ?_) (by rfl) (fun w6 => ?_) ?_; rotate_left; (· (go_simp; try with_reducible rfl)))
      | refine wpL_not (by rfl) ?_); (try simp only [Act.put, pA, pB, pC]))
     refine wpL_call (f := ?_) (args := ?_) (fun v w' => v = .int .i64 (m : Int) /\ Below w2.heap.size w2 w') (by rfl) (by rfl) (fun w6 hSw => ?_) (fun w6 hSw => ?_) (.inr (fun v6 w6 hT6 => ?_)) (fun v6 hv6 => ?_)
     rotate_left 2
     ·(skip; go_simp; first | done | (constructor <;> with_reducible rfl) | with_reducible rfl)
     ·(refine (HNX.out _ A9 c9 hSw.1.at_.2.2).mono ?_; rintro e w' ⟨rfl, hb'⟩; exact ⟨_, rfl, rfl, bseq hSw.2 hb'⟩)
     ·(exact hT6.2)
     obtain ⟨wz, rfl, -⟩ := hv6
     (try simp only [Act.put, pA, pB, pC])
     repeat ((first
      | (refine wpL_read (v := ?_) (by rfl) (by rfl) (fun w6 hSw => ?_) ?_; rotate_left; (· (obtain ⟨y0, y4, y5, z0, z1⟩ := HS.out _ hSw; have wX := HWP.out.2; go_simp; try with_reducible rfl)))
      | (refine wpL_free (v := ?_) (by rfl) (fun w6 => ?_) ?_; rotate_left; (· (go_simp; try with_reducible rfl)))
      | refine wpL_not (by rfl) ?_); (try simp only [Act.put, pA, pB, pC]))
     refine wpL_heavy (fun _ w'' => ∃ w', Below w2.heap.size w2 w' /\ w'' = w'.setCell ⟨ba, 0, none⟩ (.int .i64 X)) (by rfl) (by rfl) (fun w6 hSw => ?_) (.inl (by rfl)) (fun v6 hv6 => ?_)
     ·(obtain ⟨y0, y4, y5, z0, z1⟩ := HS.out _ hSw.2; have wX := HWP.out.2; go_simp; exact ⟨w6, hSw.2, rfl⟩)
     skip
     (try simp only [Act.put, pA, pB, pC])
     repeat ((first
      | (refine wpL_read (v := ?_) (by rfl) (by rfl) (fun w6 hSw => ?_) ?_; rotate_left; (· (obtain ⟨y0, y4, y5, z0, z1⟩ := HS.out _ hSw; go_simp; try with_reducible rfl)))
      | (refine wpL_free (v := ?_) (by rfl) (fun w6 => ?_) ?_; rotate_left; (· (go_simp; try with_reducible rfl)))
      | refine wpL_not (by rfl) ?_); (try simp only [Act.put, pA, pB, pC]))
     refine wpL_nil ?_
     rintro w4 ⟨w3, hb3, rfl⟩
     go_wp2_with fail
     go_meet
     exact ⟨((HKA.out.below (bseq hw2 hb3)).set_ 0 _).eq_ (by simp), (Fr.of_below hb3).set1 0 _⟩
   case rest =>
    obtain ⟨hBa, hFa⟩ := hcut
    have hbalt := HKA.out.lt
    have hd := (HH.out.below hw2).alien hFa (fun b _ hs => ⟨hs ▸ Blk.ne_ (HKA.out.below hw2) (HH.out.below hw2).desk (by decide), 3, _, hs ▸ HKA.out.below hw2, by decide⟩)
    have ho2 := own_fr (own_bel HP7.out hb2) hFa (fun b hb hs => by
     have := own_ge HP7.out hb
     omega)
    have k0c : Blk wc b0 23 #[.pointer (some ⟨gd, 0, none⟩)] := (HK0.out.below hw2).fr hFa (fun e => Blk.ne_ (HK0.out.below hw2) (HKA.out.below hw2) (by decide) e)
    have hf0 : DFr B (· = ba) w wc := (DFr.of_below hw2).trans (DFr.of_x hFa)
    have y0 := k0c.cell 0
    have y4 := hBa.cell 0
    have HPL := Lib.hid (HKN.out HFT.out.1 HFT.out.2)
    have HD := Lib.hid hd
    have HO2 := Lib.hid ho2
    have HB := Lib.hid (And.intro hBa k0c)
    have HF0 := Lib.hid hf0
    clear hd ho2 hBa k0c hFa hf0 z0 z1 z2 z3 y1 y2 y3 y5 y6
    have hb3 : Below wc.heap.size wc (wc.alloc (.cells #[.int .i64 X, .int .i64 X, .slice A7 P.length c7] 89)) := balloc (Below.refl _ _)
    have hE3 : Blk (wc.alloc (.cells #[.int .i64 X, .int .i64 X, .slice A7 P.length c7] 89)) wc.heap.size 89 #[.int .i64 X, .int .i64 X, .slice A7 P.length c7] := Blk.new wc _ _
    go_wp2_with fail
    obtain ⟨w3, hw3⟩ : ∃ x, wc.alloc (.cells #[.int .i64 X, .int .i64 X, .slice A7 P.length c7] 89) = x := ⟨_, rfl⟩
    rw [hw3] at hb3 hE3 ⊢
    clear hw3
    have hI3 := IntsI.of_own (own_bel HO2.out hb3)
    have hDC := dchange_any (c := 1) (HD.out.below hb3) HNW.out (eds_one hE3 hI3) (fun b hb _ => by
     rcases hb with ⟨cs, hb⟩ | ⟨cs, hb⟩
     ·exact ⟨_, cs, hb, by decide⟩
     ·exact ⟨_, cs, hb, by decide⟩) (by have := HPL.out; simp [putN]; omega) hnn hom
    have HDC := Lib.hid hDC
    clear hDC hI3 hE3 y0 y4
    refine (HDC.out).mono ?_
    intro e w4 hP
    rcases hP with ⟨h0, rfl, hd4, hb4⟩ | ⟨h0, rfl, hb4⟩
    ·have hBa4 := hb4.blk (HB.out.1.below hb3) (by decide)
     have k04 := hb4.blk (HB.out.2.below hb3) (by decide)
     have y0 := k04.cell 0
     have y4 := hBa4.cell 0
     simp at y0 y4
     have hI4 := IntsI.of_own (hb4.own (own_bel HO2.out hb3) (by decide))
     have HBK := Lib.hid (broken_any Any A7 P.length c7 P w4 hI4.any (by have := HPL.out; omega))
     have hlen4 := hd4.len
     have HD4 := Lib.hid hd4
     have hf4 : DFr B (· = ba) w w4 := HF0.out.trans ((DFr.of_below hb3).trans (DFr.of_bk hb4))
     have HF4 := Lib.hid hf4
     have HZ := Lib.hid h0
     clear hd4 hf4 hI4 hb4 h0 hBa4 k04
     have hpl := HPL.out
     go_wp2_with fail
     refine (HBK.out).mono ?_
     rintro e w5 ⟨rfl, rfl⟩
     obtain ⟨bk, hbk⟩ : ∃ bk, brokenF P = bk := ⟨_, rfl⟩
     rw [hbk]
     have HBQ := Lib.hid hbk
     clear hbk HBK
     cases bk
     ·have w1 : IntKind.i64.wrap (X + (P.length : Int)) = X + (P.length : Int) := IntWalk.i64_in _ (by omega)
      have w2' : IntKind.i64.wrap (X + (P.length : Int) - 1) = X + (P.length : Int) - 1 := IntWalk.i64_in _ (by omega)
      have HCL2 := Lib.hid (clamp_desk HD4.out (X + (P.length : Int) - 1))
      go_wp2_with fail
      refine (HCL2.out).mono ?_
      rintro e w6 ⟨j, rfl, hj1, hj2, hb6⟩
      have HJ := Lib.hid (And.intro hj1 (And.intro hj2 hb6))
      clear hj1 hj2 hb6
      go_wp2_with fail
      go_ret
      exact .inl ⟨A7, c7, j, X + (P.length : Int) - 1, by rw [HBQ.out]; rfl, rfl, HZ.out, HJ.out.1, HJ.out.2.1, HD4.out.below HJ.out.2.2, HF4.out.trans (DFr.of_below HJ.out.2.2)⟩
     ·have HCL2 := Lib.hid (clamp_desk HD4.out X)
      go_wp2_with fail
      refine (HCL2.out).mono ?_
      rintro e w6 ⟨j, rfl, hj1, hj2, hb6⟩
      have HJ := Lib.hid (And.intro hj1 (And.intro hj2 hb6))
      clear hj1 hj2 hb6
      go_wp2_with fail
      go_ret
      exact .inl ⟨A7, c7, j, X, by rw [HBQ.out]; rfl, rfl, HZ.out, HJ.out.1, HJ.out.2.1, HD4.out.below HJ.out.2.2, HF4.out.trans (DFr.of_below HJ.out.2.2)⟩
    ·go_wp2_with fail
     exact ⟨rfl, .inr ⟨_, h0, .inr ⟨A7, c7, rfl⟩, rfl, (HD.out.below hb3).below hb4, HF0.out.trans (DFr.of_below (bseq hb3 hb4))⟩⟩
theorem ClampOk.uniq {ds : List (Int × Int)} {x : Int} {j j' : Nat} (h : ClampOk ds x j) (h' : ClampOk ds x j') : j = j' := by
 unfold ClampOk at h h'
 split at h
 ·rename_i hc
  rw [if_pos hc] at h'
  rw [h, h']
 ·rename_i hc
  rw [if_neg hc] at h'
  exact h.uniq h'
theorem clamp_fix {B gd gb g n : Nat} {enc lim : Int} {st : BkS} {dc : Array Value} {w : World} (h : DeskIs w B gd gb g enc lim n st dc) (x : Int) : ∃ j : Nat, ClampOk (sizedA enc st.ats) x j /\ j <= nC (cont (sizedA enc st.ats) (rowIx (sizedA enc st.ats) x false)) /\
  ∀ w', DeskIs w' B gd gb g enc lim n st dc -> Calls Tryz.prog 31 #[.pointer (some ⟨gd, 0, none⟩), .int .i64 x] w' fun e w'' => e = .returned (.int .i64 (clampX (sizedA enc st.ats) x j)) /\ Below w'.heap.size w' w'' := by
 obtain ⟨e, w2, fr, ⟨j, _, h1, h2, _⟩, _⟩ := clamp_desk h x []
 refine ⟨j, h1, h2, fun w' h' => (clamp_desk h' x).mono ?_⟩
 rintro e w2 ⟨j', rfl, h3, h4, h5⟩
 rw [h1.uniq h3]
 exact ⟨rfl, h5⟩
theorem clampX_bd {ds : List (Int × Int)} (hp : PosD ds) {x : Int} {j : Nat} (hj : j <= nC (cont ds (rowIx ds x false))) : 0 <= clampX ds x j /\ clampX ds x j <= (ds.length : Int) := clampV_bd hp hj
theorem IntsI.bk {B : Nat} {w w' : World} {X : Nat -> Prop} {A : Option Addr} {n : Nat} {l : List Int} (h : IntsI w A n l) (hf : DFr B X w w') (hX : ∀ b, b < w.heap.size -> X b -> ∀ cs, ¬ Blk w b 3 cs) : IntsI w' A n l := h.fr hf (fun b hb hs ⟨cs, hc⟩ => by
 rcases hs with ⟨_, T, cs', hT, hB⟩ | hs
 ·refine Blk.ne_ hc hT ?_ rfl
  intro e
  subst e
  revert hB
  decide
 ·exact hX b hb hs cs hc)
def PutsPost (B gd gb g : Nat) (enc lim : Int) (n : Nat) (st : BkS) (dc : Array Value) (l P : List Int) (K : Nat) (X c : Int) (w : World) (r : Int) (w' : World) : Prop :=
 (r = 0 /\ ∃ (A : Option Addr) (k j : Nat) (T : Int), T = (if brokenF P = true then X else X + P.length - 1) /\ refF enc lim (sizedA enc st.ats) [typeE X P A k] = 0 /\ ClampOk (sizedA enc (edA [typeE X P A k] st.ats)) T j /\ j <= nC (cont (sizedA enc (edA [typeE X P A k] st.ats)) (rowIx (sizedA enc (edA [typeE X P A k] st.ats)) T false)) /\
  DeskIs w' B gd gb g enc lim (n + 131072) (shiftS st [typeE X P A k] c (clampX (sizedA enc (edA [typeE X P A k] st.ats)) T j)) (dc.setIfInBounds 2 (.int .i64 (clampX (sizedA enc (edA [typeE X P A k] st.ats)) T j))) /\ DFr B (· = gd) w w') \/
 (r ≠ 0 /\ (r = oftE enc l K \/ ∃ A k, r = refF enc lim (sizedA enc st.ats) [typeE X P A k]) /\ DeskIs w' B gd gb g enc lim n st dc /\ DFr B (fun _ => False) w w')
theorem put_work (B gd gb g n b0 br bc ba bu : Nat) (enc lim c cnt : Int) (up : Bool) (st : BkS) (dc : Array Value) (A : Option Addr) (N cc K : Nat) (l : List Int) (w0 w : World) (hw0 : Below w0.heap.size w0 w) (hba : w0.heap.size <= ba) (h : DeskIs w B gd gb g enc lim n st dc) (hn : st.now = none) (hdz : dc.size = 10)
  (k0 : Blk w b0 23 #[.pointer (some ⟨gd, 0, none⟩)]) (kr : Blk w br 66 #[.int .i64 0, .slice A N cc]) (kc : Blk w bc 3 #[.int .i64 cnt]) (ka : Blk w ba 3 #[.int .i64 c]) (ku : Blk w bu 4 #[.bool up])
  (hl : IntsI w A N l) (hN : N <= 140000) (hK : min cnt 9999 = (K : Int)) (hK1 : 1 <= K) (hnn : n + 131072 <= 1073741824) (hud : (st.undo.length : Int) <= st.depth) (hla : st.last < 1073741824) (hc : 0 <= c /\ c <= (st.ats.length : Int)) :
  Calls Tryz.prog 36 #[.pointer (some ⟨gd, 0, none⟩), .int .i64 c, .func (.func 37) #[] #[.pointer (some ⟨b0, 0, none⟩), .pointer (some ⟨br, 0, none⟩), .pointer (some ⟨bc, 0, none⟩), .pointer (some ⟨ba, 0, none⟩), .pointer (some ⟨bu, 0, none⟩)]] w fun e w' => ∃ r, e = .returned (.int .i64 r) /\ PutsPost B gd gb g enc lim n st dc l (repeatL l K) K (putX (sizedA enc st.ats) up c) c w0 r w' := by
 obtain ⟨X, hX⟩ : ∃ X, putX (sizedA enc st.ats) up c = X := ⟨_, rfl⟩
 obtain ⟨P, hP⟩ : ∃ P, repeatL l K = P := ⟨_, rfl⟩
 rw [hX, hP]
 refine (work_any B gd gb g n enc lim c st dc _ _ (· = ba) (fun x ats' o' n' => ∃ (A : Option Addr) (k j : Nat) (T : Int), T = (if brokenF P = true then X else X + P.length - 1) /\ refF enc lim (sizedA enc st.ats) [typeE X P A k] = 0 /\ ClampOk (sizedA enc (edA [typeE X P A k] st.ats)) T j /\ j <= nC (cont (sizedA enc (edA [typeE X P A k] st.ats)) (rowIx (sizedA enc (edA [typeE X P A k] st.ats)) T false)) /\ x = clampX (sizedA enc (edA [typeE X P A k] st.ats)) T j /\ (0 <= x /\ x <= ((edA [typeE X P A k] st.ats).length : Int)) /\ ats' = edA [typeE X P A k] st.ats /\ o' = shiftO st [typeE X P A k] c /\ n' = n + 131072)
  (fun r n' => n' = n /\ (r = oftE enc l K \/ ∃ A k, r = refF enc lim (sizedA enc st.ats) [typeE X P A k])) w h hn hc hdz Tryz.call37 (fun q hq => ⟨hq ▸ ka.lt, fun e => Blk.ne_ ka h.desk (by decide) (hq.symm.trans e)⟩) (fun w1 hd1 hf1 => ?_) (fun at' ats' o' n' ha' => ?_) hud).mono ?_
 ·have hl1 := hl.bk hf1 (fun _ _ hx => hx.elim)
  refine (put1_chars B gd gb g n b0 br bc ba bu enc lim c cnt up { st with now := some ⟨st.ats, c, [], st.state, false⟩ } ⟨st.ats, c, [], st.state, false⟩ dc A N cc K l w1 hd1 rfl (by simp) (hf1.blk k0 (by decide) (fun hx => hx)) (hf1.blk kr (by decide) (fun hx => hx)) (hf1.blk kc (by decide) (fun hx => hx)) (hf1.blk ka (by decide) (fun hx => hx)) (hf1.blk ku (by decide) (fun hx => hx)) hl1.any hN hK hK1 hc hnn).mono ?_
  dsimp only
  rw [hX, hP]
  rintro e w2 (⟨A', k, j, T, h1, rfl, h2, h3, h4, hd2, hf2⟩ | ⟨r, h1, h2, rfl, hd2, hf2⟩)
  ·have hx := clampX_bd hd2.pos h4
   rw [sizedA_len] at hx
   exact .inl ⟨_, edA [typeE X P A' k] st.ats, shiftO st [typeE X P A' k] c, n + 131072, ⟨A', k, j, T, h1, h2, h3, h4, rfl, hx, rfl, rfl, rfl⟩, rfl, hd2, hf2⟩
  ·exact .inr ⟨r, rfl, st.ats, ⟨st.ats, c, [], st.state, false⟩, n, ⟨rfl, h2⟩, h1, rfl, hd2, hf2⟩
 ·obtain ⟨A', k, j, T, _, _, _, _, _, hx, rfl, rfl, rfl⟩ := ha'
  exact ⟨hx, fun _ => hla⟩
 ·have hlow : ∀ q, q < w0.heap.size -> q = ba -> False := fun q h1 h2 => by omega
  rintro e w2 (⟨rfl, at', ats', o', n', ⟨A', k, j, T, h1, h2, h3, h4, rfl, hx, rfl, rfl, rfl⟩, hd, hfr⟩ | ⟨r, n', rfl, hr0, ⟨rfl, h2⟩, hd, hfr⟩)
  ·exact ⟨0, rfl, .inl ⟨rfl, A', k, j, T, h1, h2, h3, h4, hd, DFr.call' hw0 hfr (fun q hq hx => hx.resolve_left (fun e => hlow q hq e))⟩⟩
  ·exact ⟨r, rfl, .inr ⟨hr0, h2, hd, DFr.call' hw0 hfr (fun q hq hx => hlow q hq hx)⟩⟩
theorem dput_chars (B gd gb g gk n K : Nat) (enc lim at_ nm k tu cnt : Int) (F up : Bool) (st : BkS) (dc : Array Value) (R : Int -> Option (Int × List Int)) (l : List Int) (w : World) (h : DeskIs w B gd gb g enc lim n st dc) (hbk : BankIs w B gk st.mb R tu) (hn : st.now = none) (hdz : dc.size = 10)
  (h1 : dc[1]? = some (.pointer (some ⟨gk, 0, none⟩))) (h2 : dc[2]? = some (.int .i64 at_)) (hnm : findR nm = ((k, F), true)) (hR : R (gkF k tu) = some (0, l)) (hll : l.length <= 140000) (hcnt : 1 <= cnt) (hK : min cnt 9999 = (K : Int)) (hnn : n + 131072 <= 1073741824) (hud : (st.undo.length : Int) <= st.depth) (hla : st.last < 1073741824) :
  Calls Tryz.prog 8 #[.pointer (some ⟨gd, 0, none⟩), .int .i64 nm, .bool up, .int .i64 cnt] w fun e w' => ∃ (r : Int) (j : Nat), e = .returned (.int .i64 r) /\ ClampOk (sizedA enc st.ats) at_ j /\ j <= nC (cont (sizedA enc st.ats) (rowIx (sizedA enc st.ats) at_ false)) /\
   PutsPost B gd gb g enc lim n st dc l (repeatL l K) K (putX (sizedA enc st.ats) up (clampX (sizedA enc st.ats) at_ j)) (clampX (sizedA enc st.ats) at_ j) w r w' := by
 have hmf : ∀ (fn : Fn) (first cap : Array Value) (w : World), (Instr.makeFunc fn first cap).run Tryz.prog w = .ok (.func fn first cap) w := fun _ _ _ _ => rfl
 obtain ⟨j, hj1, hj2, hcl⟩ := clamp_fix h at_
 have hcb := clampX_bd h.pos hj2
 rw [sizedA_len] at hcb
 obtain ⟨x, hx⟩ : ∃ x, clampX (sizedA enc st.ats) at_ j = x := ⟨_, rfl⟩
 rw [hx] at hcl hcb
 have hw3 : Below w.heap.size w (((w.alloc (.cells #[.pointer (some ⟨gd, 0, none⟩)] 23)).alloc (.cells #[.bool up] 4)).alloc (.cells #[.int .i64 cnt] 3)) := balloc (balloc (balloc (Below.refl _ _)))
 have b0 : Blk (((w.alloc (.cells #[.pointer (some ⟨gd, 0, none⟩)] 23)).alloc (.cells #[.bool up] 4)).alloc (.cells #[.int .i64 cnt] 3)) w.heap.size 23 #[.pointer (some ⟨gd, 0, none⟩)] := ((Blk.new w _ _).alloc _).alloc _
 have b1 : Blk (((w.alloc (.cells #[.pointer (some ⟨gd, 0, none⟩)] 23)).alloc (.cells #[.bool up] 4)).alloc (.cells #[.int .i64 cnt] 3)) (w.heap.size + 1) 4 #[.bool up] := (Blk.new' (by simp)).alloc _
 have b2 : Blk (((w.alloc (.cells #[.pointer (some ⟨gd, 0, none⟩)] 23)).alloc (.cells #[.bool up] 4)).alloc (.cells #[.int .i64 cnt] 3)) (w.heap.size + 1 + 1) 3 #[.int .i64 cnt] := Blk.new' (by simp)
 have HH := Lib.hid h
 have H1 := Lib.hid h1
 have H2 := Lib.hid h2
 have HCL := Lib.hid hcl
 have hg : ∀ (w' : World), Below w.heap.size w w' -> Calls Tryz.prog 23 #[.pointer (some ⟨gk, 0, none⟩), .int .i64 nm] w' fun e w'' => ∃ v, e = .returned (.tuple #[.agg #[.int .i64 0, v], .int .i64 0]) /\ w''.ownsRow w'.heap.size 3 1 v l.length (l.map (Value.int .i64)) /\ Below w'.heap.size w' w'' := fun w' hb => by
  have := bget_any B gk st.mb R tu nm k F w' (hbk.below hb) hnm
  rw [hR] at this
  exact this
 have HG := Lib.hid hg
 have q0 : (cnt < 1) = False := by simp; omega
 have HX := Lib.hid hx
 clear h h1 hg hcl hbk hnm hR hx h2
 go_enter Tryz.func8, Tryz.ntmps8
 go_upto_region 1 with fail
 obtain ⟨w3, hw30⟩ : ∃ x', (((w.alloc (.cells #[.pointer (some ⟨gd, 0, none⟩)] 23)).alloc (.cells #[.bool up] 4)).alloc (.cells #[.int .i64 cnt] 3)) = x' := ⟨_, rfl⟩
 rw [hw30] at hw3 b0 b1 b2 ⊢
 clear hw30
 have c0 := b0.cell 0
 have c2 := b2.cell 0
 have d1 := ((HH.out.below hw3).desk.cell 1).trans H1.out
 simp only [List.getElem?_toArray, List.getElem?_cons_zero] at c0 c2
 go_wp2_with fail
 refine (HG.out _ hw3).mono ?_
 rintro e w4 ⟨v, rfl, ho, hb4⟩
 obtain ⟨A7, c7, rfl, hc7⟩ := own_slice ho
 have HO := Lib.hid (IntsI.of_own (own_bel ho (balloc (o := .cells #[.int .i64 0, .slice A7 l.length c7] 66) (Below.refl _ _))))
 have hw5 : Below w.heap.size w (w4.alloc (.cells #[.int .i64 0, .slice A7 l.length c7] 66)) := balloc (bseq hw3 hb4)
 have br : Blk (w4.alloc (.cells #[.int .i64 0, .slice A7 l.length c7] 66)) w4.heap.size 66 #[.int .i64 0, .slice A7 l.length c7] := Blk.new _ _ _
 have hb5 : Below w3.heap.size w3 (w4.alloc (.cells #[.int .i64 0, .slice A7 l.length c7] 66)) := balloc hb4
 clear c0 c2 d1 ho
 go_upto_region 6 with fail
 obtain ⟨w5, hw50⟩ : ∃ x', w4.alloc (.cells #[.int .i64 0, .slice A7 l.length c7] 66) = x' := ⟨_, rfl⟩
 rw [hw50] at HO hw5 br hb5 ⊢
 obtain ⟨rb, hrb⟩ : ∃ rb, w4.heap.size = rb := ⟨_, rfl⟩
 rw [hrb] at br ⊢
 clear hw50 hrb
 have hBD : ∀ w', Below w5.heap.size w5 w' -> w'.cell? ⟨w.heap.size, 0, none⟩ = some (.pointer (some ⟨gd, 0, none⟩)) /\ w'.cell? ⟨gd, 2, none⟩ = some (.int .i64 at_) := fun w' hb =>
  ⟨(b0.below (bseq hb5 hb)).cell 0, ((HH.out.below (bseq hw5 hb)).desk.cell 2).trans H2.out⟩
 have HBD := Lib.hid hBD
 have HB := Lib.hid (And.intro (b0.below hb5) (And.intro (b1.below hb5) (And.intro (b2.below hb5) br)))
 clear hBD b0 b1 b2 br
 refine wp_region_lin3 (fun w' => Below w5.heap.size w5 w') (fun w' => Below w5.heap.size w5 w') (fun k => k == 6 || k == 7) (fun k => k == 7) (fun _ => false) (fun k => k == 5) (fun _ => .int .i64 x) (by kernel_rfl) (by kernel_rfl) (by kernel_rfl) (Below.drew (Below.refl _ _)) (fun _ h => h) (fun _ _ h hb => bseq h hb) ?_
 repeat ((first
  | (refine wpL3_read (v := ?_) (by rfl) (by rfl) (by rfl) (fun w6 hSw => ?_) ?_; rotate_left; (· (obtain ⟨y0, y2⟩ := HBD.out _ hSw; go_simp; try with_reducible rfl)))
  | (refine wpL3_free (v := ?_) (by rfl) (by rfl) (fun w6 => ?_) ?_; rotate_left; (· (go_simp; try with_reducible rfl)))
  | refine wpL3_not (by rfl) (by rfl) ?_); (try simp only [Act.put, pA, pB, pC]))
 refine wpL3_call (f := ?_) (args := ?_) (v := .int .i64 x) (by rfl) (by rfl) (by rfl) (fun w6 hSw => ?_) (fun w6 hSw => ?_) ?_
 rotate_left 2
 ·(skip; go_simp; first | done | (constructor <;> with_reducible rfl) | with_reducible rfl)
 ·(exact HCL.out _ (HH.out.below (bseq hw5 hSw)))
 (try simp only [Act.put, pA, pB, pC])
 refine wpL3_heavy (NewB w5 3 #[.int .i64 0]) (by rfl) (by rfl) (fun w6 hSw => ?_) (.inr ⟨fun v6 w6 hT6 => ?_, fun v6 w6 w7 hT6 hb7 => ?_⟩) (fun v6 hv6 => ?_)
 ·(go_simp; exact NewB.new _ _ hSw)
 ·(exact hT6.bel)
 ·(exact hT6.keep hb7)
 obtain ⟨wz, r, rfl, -⟩ := hv6
 (try simp only [Act.put, pA, pB, pC])
 refine wpL3_heavy (fun _ w' => NewB w5 3 #[.int .i64 x] (.pointer (some ⟨r, 0, none⟩)) w') (by rfl) (by rfl) (fun w6 hSw => ?_) (.inl (by rfl)) (fun v6 hv6 => ?_)
 ·(obtain ⟨hge, hb, hbl⟩ := hSw.at_; have e0 := hb.cell 0; have f0 := hb.frozen 0; simp at e0; go_simp; exact ⟨r, rfl, hge, (hb.set_ 0 _).eq_ (by simp), hbl.setCell (p := ⟨r, 0, none⟩) hge _⟩)
 skip
 (try simp only [Act.put, pA, pB, pC])
 repeat ((first
  | (refine wpL3_read (v := ?_) (by rfl) (by rfl) (by rfl) (fun w6 hSw => ?_) ?_; rotate_left; (· (obtain ⟨y0, y2⟩ := HBD.out _ hSw; go_simp; try with_reducible rfl)))
  | (refine wpL3_free (v := ?_) (by rfl) (by rfl) (fun w6 => ?_) ?_; rotate_left; (· (go_simp; try with_reducible rfl)))
  | refine wpL3_not (by rfl) (by rfl) ?_); (try simp only [Act.put, pA, pB, pC]))
 refine wpL3_nil ?_
 rintro w6 hN
 obtain ⟨hge, hbr, hb6⟩ := hN.at_
 have hw6 := bseq hw5 hb6
 obtain ⟨y0, y2⟩ := HBD.out w6 hb6
 have y3 := hbr.cell 0
 simp only [List.getElem?_toArray, List.getElem?_cons_zero] at y3
 have HWK := Lib.hid (put_work B gd gb g n w.heap.size rb (w.heap.size + 1 + 1) r (w.heap.size + 1) enc lim x cnt up st dc A7 l.length c7 K l w w6 hw6 (Nat.le_trans hw5.size hge) (HH.out.below hw6) hn hdz (HB.out.1.below hb6) (HB.out.2.2.2.below hb6) (HB.out.2.2.1.below hb6) hbr (HB.out.2.1.below hb6) (HO.out.bel hb6) hll hK (by omega) hnn hud hla hcb)
 clear hN hbr hv6 HBD HB HO hK hud hla hn hdz hll hnn
 go_wp2_with fail
 refine (HWK.out).mono ?_
 rintro e w7 ⟨r', rfl, hp⟩
 have HP := Lib.hid hp
 clear hp
 go_wp2_with fail
 go_ret
 exact ⟨r', j, rfl, hj1, hj2, by rw [HX.out]; exact HP.out⟩
end Go.Proofs.YtgiihhikdoikgaaGreat
