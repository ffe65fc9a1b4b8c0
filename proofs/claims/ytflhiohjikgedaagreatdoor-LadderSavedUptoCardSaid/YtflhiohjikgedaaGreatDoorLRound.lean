/-
  A drawn region within a round of a range over a function: whatever was shown of it in every order holds in a round.
-/
import Derived.Test.YtflhiohjikgedaaGreatDoorLCore
import Derived.StillTail
import Derived.StillTactics
import Derived.OrdersIn
import Derived.TacticsIn
import Derived.Test.YtflhiohjikgedaaGreatDoorLHeavy
set_option linter.unusedSimpArgs false
set_option linter.unusedVariables false
set_option maxRecDepth 100000
set_option maxHeartbeats 32000000
namespace Go.Proofs.YtflhiohjikgedaaGreatDoor
open Go.RowKit
def noDefer (ops : Array Oper) : Bool := ops.all fun o => match o.op with | .defer _ => false | _ => true
theorem noDefer_at {ops : Array Oper} (h : noDefer ops = true) {i : Nat} {o : Oper} (ho : ops[i]? = some o) (c : Call) : o.op ≠ .defer c := by
 intro e
 unfold noDefer at h
 obtain ⟨hlt, ho'⟩ := Array.getElem?_eq_some_iff.1 ho
 have := (Array.all_eq_true.1 h) i hlt
 rw [ho', e] at this
 cases this
section
variable {F : Fence} {m : Nat} {P : Program} {ops : Array Oper} {md : Region.Mode} {w : World}
theorem wpOpIn_of_stOp (hF : ∀ f, F.fn f) (hd : F.depth = none) (hC : ∀ f args (w : World) R, Calls P f args w R -> CallsIn F (m - 1) P f args w R) (hD : noDefer ops = true)
  {i : Nat} {a : Act} {K : Act -> Prop} {K' : Act -> World -> Prop} {Q' : Exit -> Act -> World -> Prop} (h : ∀ a, K a -> K' a w) (hh : stOp P ops w i K a) : wpOpIn F m P ops Q' i K' a w := by
 unfold stOp at hh
 unfold wpOpIn
 split
 ·rename_i ho; simp only [ho] at hh; exact h _ hh
 ·rename_i o ho
  simp only [ho] at hh
  split
  ·rename_i hw
   simp only [hw, if_true] at hh
   unfold Oper.still at hh
   unfold Oper.wpIn
   refine ⟨fun f _ => hF f, ?_⟩
   rw [Oper.semAt_eq _ _ _ (noDefer_at hD ho)]
   generalize (execOp a.eval o).run P w = r at *
   cases r with
   | ok n w' =>
    cases n <;> simp only [Oper.stillUpon] at hh <;> simp only [Oper.uponIn]
    case enter f args =>
     obtain ⟨rfl, v, hc, hn⟩ := hh
     exact ⟨(fun e => by rw [hd] at e; cases e), CallsIn.mono (hC _ _ _ _ hc) fun e w'' ⟨he, hw⟩ => by subst he; subst hw; exact h _ hn⟩
    all_goals (obtain ⟨rfl, h2⟩ := hh; exact h _ h2)
   | halt x w' => simp only [Oper.stillUpon] at hh
  ·rename_i hw
   simp only [hw] at hh
   exact ⟨fun f _ => hF f, h _ hh⟩
def restB (md : Region.Mode) (ops : Array Oper) (n : Nat) : Bool := (List.range ops.size).all fun t => decide (t <= n) || (List.range t).any fun j => decide (n <= j) && Region.waitsFor md ops t j
theorem restB_at {n t : Nat} (h : restB md ops n = true) (ht : n < t) (hs : t < ops.size) : ∃ j, n <= j /\ j < t /\ Region.waitsFor md ops t j = true := by
 have h1 := List.all_eq_true.1 h t (List.mem_range.2 hs)
 simp only [Bool.or_eq_true, decide_eq_true_eq] at h1
 rcases h1 with h1 | h1
 ·omega
 ·obtain ⟨j, hj, hj2⟩ := List.any_eq_true.1 h1
  simp only [Bool.and_eq_true, decide_eq_true_eq] at hj2
  exact ⟨j, hj2.1, List.mem_range.1 hj, hj2.2⟩
theorem rest_waits {n : Nat} {listed : Array Bool} (hs : Region.sinkB md ops n = true) (hc : restB md ops n = true) (inv : HeadInv md ops n listed) :
  ∀ (d i : Nat), n - i = d -> i < n -> listed.getD i true = false -> ∀ t, n <= t -> t ∉ Region.ready md ops listed := by
 intro d
 induction d using Nat.strongRecOn with
 | _ d ih =>
  intro i hd hi hun t ht hr
  obtain ⟨_, ot, hot, hall⟩ := mem_ready.1 hr
  have htlt : t < ops.size := (Array.getElem?_eq_some_iff.1 hot).1
  by_cases htn : t = n
  ·subst htn
   have h1 := List.all_eq_true.1 hs i (List.mem_range.2 hi)
   obtain ⟨j, hj, hj2⟩ := List.any_eq_true.1 h1
   simp only [Bool.and_eq_true, decide_eq_true_eq] at hj2
   obtain ⟨oj, hoj, e, he, hb, hon⟩ := Region.waitsFor_spec hj2.2
   have hjle : j <= t := by have := List.mem_range.1 hj; omega
   by_cases hjt : j = t
   ·subst hjt
    have : oj = ot := Option.some.inj (hoj.symm.trans hot)
    subst this
    have h2 := hall e he hb
    rw [hon, getD_both hun] at h2
    cases h2
   ·cases hl : listed.getD j false with
    | true =>
     have h2 := inv.closed j oj hoj hl e he hb
     rw [hon, getD_both hun] at h2
     cases h2
    | false =>
     have hjs : j < listed.size := by rw [inv.size]; omega
     exact ih (t - j) (by omega) j rfl (by omega) (getD_in hjs hl) t (Nat.le_refl _) hr
  ·obtain ⟨j, hj1, hj2, hw⟩ := restB_at hc (by omega) htlt
   obtain ⟨o', ho', e, he, hb, hon⟩ := Region.waitsFor_spec hw
   have : o' = ot := Option.some.inj (ho'.symm.trans hot)
   subst this
   have h2 := hall e he hb
   rw [hon, getD_both (inv.tail j hj1 (by omega))] at h2
   cases h2
theorem wpAnyL_first' {n i : Nat} {oi : Oper} {v : Value} {L : Array Bool -> Act -> Prop} (hi : ops[i]? = some oi) (hsel : ∀ (j : Nat) (o : Oper) cs b, ops[j]? = some o -> o.op ≠ .select cs b)
    (hs : Region.sinkB md ops n = true) (hc : restB md ops n = true) (hin : i < n)
    (hdone : ∀ listed a, L listed a -> ∀ j ∈ Region.ready md ops listed, n <= j) :
    ∀ (f : Nat) (listed : Array Bool) (a : Act), HeadInv md ops n listed ->
      (∀ j oj, ops[j]? = some oj -> j ≠ i -> listed.getD j true = false -> (∀ e ∈ oj.after, Region.binds md e = true -> e.on ≠ i) -> oi.apart ops oj = true) ->
      i ∈ Region.ready md ops listed -> YieldsAt P ops w oi v a ->
      wpAnyL P md ops w n L f (listed.setIfInBounds i true) (a.put oi.dst v) -> wpAnyL P md ops w n L (f + 1) listed a := by
  intro f
  induction f with
  | zero =>
    intro listed a inv _ hr hy H
    have hun := (mem_ready.1 hr).1
    refine ⟨fun h => (by rw [h] at hr; cases hr), fun j hj => ?_⟩
    have hjn : j < n := by
      rcases Nat.lt_or_ge j n with h | h
      · exact h
      · exact absurd hj (rest_waits hs hc inv _ i rfl hin hun j h)
    refine ⟨hjn, ?_⟩
    by_cases hji : j = i
    · subst hji; exact hy.stOp hi H
    · have := hdone _ _ H j (ready_mono hj hji)
      omega
  | succ f ih =>
    intro listed a inv hfree hr hy H
    have hun := (mem_ready.1 hr).1
    refine ⟨fun h => (by rw [h] at hr; cases hr), fun j hj => ?_⟩
    have hjn : j < n := by
      rcases Nat.lt_or_ge j n with h | h
      · exact h
      · exact absurd hj (rest_waits hs hc inv _ i rfl hin hun j h)
    refine ⟨hjn, ?_⟩
    by_cases hji : j = i
    · subst hji; exact hy.stOp hi H
    · have h1 := (H.2 j (ready_mono hj hji)).2
      obtain ⟨hjun, oj, hoj, hall⟩ := mem_ready.1 hj
      have hnot : ∀ e ∈ oj.after, Region.binds md e = true -> e.on ≠ i := fun e he hb heq => by
        have h1 := hall e he hb
        rw [heq, getD_both hun] at h1
        cases h1
      have h2 := stOp_put hoj (hfree j oj hoj hji hjun hnot) (fun cs b => hsel i oi cs b hi) (fun cs b => hsel j oj cs b hoj) hy h1
      have hfree' : ∀ k ok, ops[k]? = some ok -> k ≠ i -> (listed.setIfInBounds j true).getD k true = false ->
          (∀ e ∈ ok.after, Region.binds md e = true -> e.on ≠ i) -> oi.apart ops ok = true := fun k ok hk hki hun hno => by
        refine hfree k ok hk hki ?_ hno
        by_cases hjk : j = k
        · subst hjk; exact hjun
        · rw [getD_set_ne true hjk] at hun; exact hun
      refine stOp_mono (fun a' h3 => ih (listed.setIfInBounds j true) a' (inv.set hj hjn) hfree' (ready_mono hr (Ne.symm hji)) h3.1 ?_) h2
      rw [Array.setIfInBounds_comm _ _ hji]
      exact h3.2
def midB (md : Region.Mode) (ops : Array Oper) (n : Nat) (listed : Array Bool) : Bool := decide (Region.ready md ops listed = [n]) && Region.lexFrom md ops (ops.size - n - 1) (n + 1) (listed.setIfInBounds n true)
def midHead (md : Region.Mode) (ops : Array Oper) (n : Nat) : Nat -> Nat -> Array Bool -> Bool
 | 0, _, listed => midB md ops n listed
 | f + 1, k, listed => (Region.ready md ops listed).contains k && Region.free md ops listed k && midHead md ops n f (k + 1) (listed.setIfInBounds k true)
def lexMidB (md : Region.Mode) (ops : Array Oper) (n : Nat) : Bool := Region.noSelect ops && decide (n < ops.size) && Region.sinkB md ops n && restB md ops n && midHead md ops n n 0 (Array.replicate ops.size false) && noDefer ops
theorem midB_ready {n : Nat} {listed : Array Bool} (h : midB md ops n listed = true) : ∀ j ∈ Region.ready md ops listed, n <= j := by
 intro j hj
 simp only [midB, Bool.and_eq_true, decide_eq_true_eq] at h
 rw [h.1] at hj
 have : j = n := by simpa using hj
 omega
theorem wpAnyL_lex' {n : Nat} {Lq : Act -> Prop} (hsel : Region.noSelect ops = true) (hs : Region.sinkB md ops n = true) (hc : restB md ops n = true) :
  ∀ (l : List Oper) (k : Nat) (listed : Array Bool) (a : Act), (∀ j, j < l.length -> l[j]? = ops[k + j]?) -> k + l.length = n -> HeadInv md ops n listed ->
  midHead md ops n l.length k listed = true -> wpStill P ops w Lq l a ->
  wpAnyL P md ops w n (fun listed' a' => midB md ops n listed' = true /\ Lq a') l.length listed a
 | [], k, listed, a, _, hk, _, hB, h => ⟨by simpa [midHead] using hB, h⟩
 | o :: l, k, listed, a, hl, hk, inv, hB, h => by
  have h0 : ops[k]? = some o := by simpa using (hl 0 (by simp)).symm
  simp only [List.length_cons, midHead, Bool.and_eq_true] at hB
  obtain ⟨⟨hr, hf⟩, hB'⟩ := hB
  have hkn : k < n := by simp only [List.length_cons] at hk; omega
  have hr' : k ∈ Region.ready md ops listed := by simpa using hr
  have hst : stOp P ops w k (wpStill P ops w Lq l) a := by unfold stOp; simp only [h0]; exact h
  obtain ⟨v, hy, hK⟩ := yieldsAt_of_stOp h0 hst
  exact wpAnyL_first' h0 (Region.noSelect_spec hsel) hs hc hkn (fun listed' a' hL => midB_ready hL.1) l.length listed a inv (Region.free_spec h0 hf) hr' hy
   (wpAnyL_lex' hsel hs hc l (k + 1) _ _ (fun j hj => by have := hl (j + 1) (by simp; omega); simpa [Nat.add_assoc, Nat.add_comm 1 j] using this) (by simp only [List.length_cons] at hk; omega) (inv.set hr' hkn) hB' hK)
def MidQ (P : Program) (ops : Array Oper) (tail : List Oper) (Q : Exit -> Act -> World -> Prop) : Exit -> Act -> World -> Prop
 | .normal, a, w => wpStill P ops w (fun a' => Q .normal a' w) tail a
 | e, a, w => Q e a w
theorem MidQ.go {P : Program} {ops : Array Oper} {tail : List Oper} {Q : Exit -> Act -> World -> Prop} {a : Act} {w : World} (h : wpStill P ops w (fun a' => Q .normal a' w) tail a) : MidQ P ops tail Q .normal a w := h
section
variable (hF : ∀ f, F.fn f) (hd : F.depth = none) (hC : ∀ f args (w : World) R, Calls P f args w R -> CallsIn F (m - 1) P f args w R) (hD : noDefer ops = true)
include hF hd hC hD
theorem wpAnyIn_of_head {n g : Nat} {L : Array Bool -> Act -> Prop} {Q' : Exit -> Act -> World -> Prop} (hL : ∀ listed a, L listed a -> wpAnyIn F m P md ops Q' g listed a w) :
  ∀ (f : Nat) (listed : Array Bool) (a : Act), wpAnyL P md ops w n L f listed a -> wpAnyIn F m P md ops Q' (f + g) listed a w
 | 0, listed, a, h => by rw [Nat.zero_add]; exact hL _ _ h
 | f + 1, listed, a, h => by
  rw [show f + 1 + g = (f + g) + 1 by omega]
  exact ⟨fun h0 => absurd h0 h.1, fun i hi => wpOpIn_of_stOp hF hd hC hD (fun a' h' => wpAnyIn_of_head hL f _ a' h') (h.2 i hi).2⟩
theorem wpAnyIn_of_still {Q : Act -> Prop} {Q' : Exit -> Act -> World -> Prop} (hQ : ∀ a, Q a -> Q' .normal a w) : ∀ (fuel : Nat) (listed : Array Bool) (a : Act),
  wpAnyS P md ops w Q fuel listed a -> wpAnyIn F m P md ops Q' fuel listed a w
 | 0, _, _, h => ⟨h.1, hQ _ h.2⟩
 | fuel + 1, _, _, h => ⟨fun h0 => hQ _ (h.1 h0), fun i hi => wpOpIn_of_stOp hF hd hC hD (fun a' => wpAnyIn_of_still hQ fuel _ a') (h.2 i hi)⟩
end
theorem wpOpIn_to {F : Fence} {m : Nat} {P : Program} {ops : Array Oper} {Q Q' : Exit -> Act -> World -> Prop} {o : Oper} {a : Act} {w : World} {K : Act -> World -> Prop} {i : Nat} (ho : ops[i]? = some o)
  (hq : ∀ e a w, e ≠ .normal -> Q e a w -> Q' e a w) (hk : ∀ a w, Q .normal a w -> K a w) (h : wpListIn F m P ops Q [o] a w) : wpOpIn F m P ops Q' i K a w := by
 unfold wpOpIn
 rw [ho]
 unfold wpListIn at h
 show (if Region.wanted o (yielded ops a.tmps) = true then o.wpIn F m P a w K Q' else (∀ f, o.about P w a.eval = some f -> F.fn f) /\ K (a.put o.dst undef) w)
 split
 ·rename_i hw
  simp only [hw, if_true] at h
  unfold Oper.wpIn at *
  refine ⟨h.1, ?_⟩
  have h := h.2
  have lo : LetsOut Q -> LetsOut Q' := fun ⟨a0, w0, hq0⟩ => ⟨a0, w0, hq _ _ _ (by simp) hq0⟩
  generalize (o.semAt F.round a.eval).run P w = r at *
  cases r with
  | ok x w' =>
   cases x <;> simp only [Oper.uponIn] at h ⊢ <;>
    first
     | exact hk _ _ h
     | exact ⟨h.1, CallsIn.mono h.2 (fun e w'' he => by cases e <;> first | exact hk _ _ he | exact hq _ _ _ (by simp) he | exact lo he)⟩
     | exact ⟨h.1, RowsIn.mono h.2 (fun _ _ he => hk _ _ he)⟩
     | exact ⟨h.1, RoundIn.mono h.2 (fun e w'' he => by cases e <;> first | exact hk _ _ he | exact hq _ _ _ (by simp) he | exact lo he)⟩
  | halt x w' => cases x <;> simp only [Oper.uponIn] at h ⊢ <;> exact hq _ _ _ (by simp) h
 ·rename_i hw
  simp only [hw] at h
  exact ⟨h.1, hk _ _ h.2⟩
theorem wpIn_region_mid (hF : ∀ f, F.fn f) (hd : F.depth = none) (hC : ∀ f args (w : World) R, Calls P f args w R -> CallsIn F (m - 1) P f args w R)
  {id : Nat} {Q : Exit -> Act -> World -> Prop} {a : Act} {l : List Oper} (n : Nat) (o : Oper) (hm : P.follows .mixedOrders = true) (hB : lexMidB .any l.toArray n = true) (ho : l[n]? = some o)
  (h : wpStill P l.toArray w.drew (fun a' => wpListIn F m P l.toArray (MidQ P l.toArray (l.drop (n + 1)) Q) [o] a' w.drew) (l.take n) a) : (Code.region id l.toArray true).wpIn F m P Q a w := by
 simp only [lexMidB, Bool.and_eq_true, decide_eq_true_eq] at hB
 obtain ⟨⟨⟨⟨⟨hsel, hn⟩, hs⟩, hc⟩, hlex⟩, hD⟩ := hB
 have hn' : n < l.length := by simpa using hn
 have htl : (l.take n).length = n := by simp; omega
 have inv0 : HeadInv .any l.toArray n (Array.replicate l.toArray.size false) :=
  ⟨by simp, fun j oj _ hl => (by rw [getD_replicate_false] at hl; cases hl), fun t _ ht => getD_in (by simpa using ht) (getD_replicate_false _ _)⟩
 have H := wpAnyL_lex' (md := .any) hsel hs hc (l.take n) 0 _ a (fun j hj => by
  have hj' : j < n := by rw [htl] at hj; exact hj
  simp [hj']) (by simpa using htl) inv0 (by rw [htl]; exact hlex) h
 refine wpIn_region_any hm ?_
 have ho' : l.toArray[n]? = some o := by simpa using ho
 have := wpAnyIn_of_head hF hd hC hD (Q' := Q) (g := (l.toArray.size - n - 1) + 1) (fun listed a' hL => by
  have hB := hL.1
  simp only [midB, Bool.and_eq_true, decide_eq_true_eq] at hB
  refine ⟨fun h0 => absurd (hB.1.symm.trans h0) (by simp), fun i hi => ?_⟩
  rw [hB.1] at hi
  have hin : i = n := by simpa using hi
  subst hin
  refine wpOpIn_to ho' (fun e a w he h => ?_) (fun a2 w2 h2 => ?_) hL.2
  ·cases e <;> first | exact absurd rfl he | exact h
  ·refine wpAnyIn_of_still hF hd hC hD (Q := fun a' => Q .normal a' w2) (fun _ h => h) _ _ _ ?_
   have hdl : (l.drop (i + 1)).length = l.toArray.size - i - 1 := by simp; omega
   have := wpAnyS_lex (md := .any) hsel (l.drop (i + 1)) (i + 1) (listed.setIfInBounds i true) a2 (fun j => by simp [List.getElem?_drop]) (by rw [hdl]; exact hB.2) h2
   rwa [hdl] at this) _ _ _ H
 rw [htl, show n + ((l.toArray.size - n - 1) + 1) = l.toArray.size by omega] at this
 exact this
end
theorem round_calls (l k : Nat) (f : FuncId) (args : Array Value) (w : World) (R : Ending -> World -> Prop) (h : Calls Tryz.prog f args w R) : CallsIn (Fence.wide.inRound l) k Tryz.prog f args w R := CallsIn.inRound l (callsIn_wide.2 h)
section
variable {P : Program} {ops : Array Oper} {md : Region.Mode} {Q : Exit -> Act -> World -> Prop} {n l : Nat}
theorem rowsIn_round {row : String} {args : Array Value} {w : World} {R : Value -> World -> Prop} (h : Rows P row args w R) : RowsIn (Fence.wide.inRound l) n P row args w R := fun c cs _ => by
 obtain ⟨v, w', r, s⟩ := h c cs
 exact ⟨v, w', r, stepsIn_wide.2 s⟩
theorem callsIn_round {f : FuncId} {args : Array Value} {w : World} {R : Ending -> World -> Prop} (h : Calls P f args w R) : CallsIn (Fence.wide.inRound l) n P f args w R := CallsIn.inRound l (callsIn_wide.2 h)
theorem wpOpIn_of_op (hD : noDefer ops = true) (hQ : ¬ LetsOut Q) {i : Nat} {a : Act} {w : World} {K K' : Act -> World -> Prop} (hK : ∀ a w, K a w -> K' a w) (h : wpOp P ops Q i K a w) : wpOpIn (Fence.wide.inRound l) n P ops Q i K' a w := by
 unfold wpOp at h
 unfold wpOpIn
 split
 ·rename_i ho; simp only [ho] at h; exact hK _ _ h
 ·rename_i o ho
  simp only [ho] at h
  split
  ·rename_i hw
   simp only [hw, if_true] at h
   replace h := h.resolve_right (fun h => hQ h.2)
   unfold Oper.wp at h
   unfold Oper.wpIn
   refine ⟨fun f _ => trivial, ?_⟩
   rw [Oper.semAt_eq _ _ _ (noDefer_at hD ho)]
   generalize (execOp a.eval o).run P w = r at *
   cases r with
   | ok x w' =>
    cases x <;> simp only [Oper.upon] at h <;> simp only [Oper.uponIn]
    case enter f args => exact ⟨(fun e => by cases e), callsIn_round (h.mono fun e w'' he => by cases e <;> first | exact hK _ _ he | exact he)⟩
    case row row args => exact ⟨(fun e => by cases e), rowsIn_round (fun c cs => by obtain ⟨v, w', r, s⟩ := h c cs; exact ⟨v, w', hK _ _ r, s⟩)⟩
    all_goals exact hK _ _ h
   | halt x w' => cases x <;> simp only [Oper.upon] at h <;> simp only [Oper.uponIn] <;> exact h
  ·rename_i hw
   simp only [hw] at h
   exact ⟨fun f _ => trivial, hK _ _ h⟩
theorem wpAnyIn_of_any (hD : noDefer ops = true) (hQ : ¬ LetsOut Q) : ∀ (fuel : Nat) (listed : Array Bool) (a : Act) (w : World), wpAny P md ops Q fuel listed a w -> wpAnyIn (Fence.wide.inRound l) n P md ops Q fuel listed a w := by
 intro fuel
 induction fuel with
 | zero => intro listed a w h; exact h
 | succ fuel ih => intro listed a w h; exact ⟨h.1, fun i hi => wpOpIn_of_op hD hQ (fun a w => ih _ a w) (h.2 i hi)⟩
end
section
variable {P : Program} {Q : Exit -> Act -> World -> Prop} {n lp : Nat}
theorem wpIn_round_any {id : Nat} {a : Act} {w : World} {l : List Oper} (hm : P.follows .mixedOrders = true) (hD : noDefer l.toArray = true) (hQ : ¬ LetsOut Q)
  (h : wpAny P .any l.toArray Q l.toArray.size (Array.replicate l.toArray.size false) a { w with drawn := w.drawn + 1 }) : (Code.region id l.toArray true).wpIn (Fence.wide.inRound lp) n P Q a w :=
 wpIn_region_any hm (wpAnyIn_of_any hD hQ _ _ _ _ h)
theorem wpIn_round_lin {id : Nat} {a : Act} {w : World} {l : List Oper} (S0 S : World -> Prop) (hv fin fr : Nat -> Bool) (hm : P.follows .mixedOrders = true) (hD : noDefer l.toArray = true) (hQ : ¬ LetsOut Q) (hB : linB .any l.toArray hv fin fr = true) (hS : S w.drew) (hSS : ∀ w, S w -> S0 w)
  (h : wpL P l.toArray S0 hv fin fr (Q .normal) 0 S l a) : (Code.region id l.toArray true).wpIn (Fence.wide.inRound lp) n P Q a w := by
 refine wpIn_round_any hm hD hQ (wpAny_of_lin2 hB _ S (List.range' 0 l.length) _ a _ (by simp) (by simp) (fun j hj => ?_) (fun j hj => by simpa using hj) (List.pairwise_lt_range' ..) (fun j oj hj hl => ?_) (.inr hSS) hS (lin2_of_l l 0 S a (fun j => by simp) h))
 ·simp at hj
  simp [hj]
 ·exfalso
  rw [Array.getD_eq_getD_getElem?] at hl
  rw [Array.getElem?_replicate] at hl
  split at hl <;> simp at hl
end
end Go.Proofs.YtflhiohjikgedaaGreatDoor
