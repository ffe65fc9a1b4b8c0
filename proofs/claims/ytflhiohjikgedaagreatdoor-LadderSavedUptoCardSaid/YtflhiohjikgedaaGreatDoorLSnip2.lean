/-
  append onto a slice of one's own, of whatever slice (nil too). The list of pieces that Text.replace leaves (plain).
-/
import Derived.Test.YtflhiohjikgedaaGreatDoorLStep
import Derived.Deep.AppendSrc
import Derived.Test.YtflhiohjikgedaaGreatDoorLFresh3
set_option linter.unusedSimpArgs false
set_option linter.unusedVariables false
set_option maxRecDepth 100000
set_option maxHeartbeats 32000000
namespace Go.Proofs.YtflhiohjikgedaaGreatDoor
open Go.RowKit
section
variable {P : Program} (w : World)
theorem run_append_none (base : Nat) (t ty e : TypeId) (i : TypeInfo) (ht : P.underlying t = some (.slice e)) (hi : P.info? e = some i) (v : Value) (n : Nat) (xs : List Value) (hown : w.ownsRow base e i.size v n xs) (c : Nat) :
  (Builtin.append_ #[t, t] ty #[v, .slice none 0 c]).run P w = .ok v w := by
 rcases hown.2 with ⟨rfl, rfl⟩ | ⟨g, cap, cur, rfl, hbg, hg, hnc, hcm, hcs, htake⟩
 ·simp [Builtin.append_, run_underlying ht, sizeOf, typeInfo, hi, Builtin.lenOf, Builtin.firstCells, loadCells, loadCellsFrom]
 ·have h := run_append_room_src (P := P) w t t ty e i ht hi g 0 n cap (.slice none 0 c) 0 [] (Src.ofNil w ht c) (by omega) (fun j hj => by simp at hj) (fun j hj => by simp at hj)
  rw [h]
  rfl
theorem run_append_all (base : Nat) (t ty e : TypeId) (i : TypeInfo) (z : Value) (size bytes : Nat) (ht : P.underlying t = some (.slice e)) (hi : P.info? e = some i) (hz : i.zero = some z)
  (hsize : i.size = size) (hby : i.bytes = bytes) (hzs : z.cells.size = size) (hsz : 0 < size)
  (v : Value) (n : Nat) (xs : List Value) (hown : w.ownsRow base e size v n xs)
  (D : Nat -> Prop) (A : Option Addr) (m c : Nat) (news : List Value) (hl : Reads w D size A m news) (h1 : ∀ u ∈ news, u.oneCell' = true)
  (h63 : n + m <= maxLen) (hbytes : (n + m) * bytes <= 140737488355328) (hbase : base <= w.heap.size) :
  ∃ v' w', (Builtin.append_ #[t, t] ty #[v, .slice A m c]).run P w = .ok v' w' /\ w'.ownsRow base e size v' (n + m) (xs ++ news) /\ w.grownBy w' v.ownBlock /\
   (v'.ownBlock = v.ownBlock \/ v'.ownBlock = some w.heap.size) /\ (∀ b o, v.ownBlock = some b -> o < n * size -> w'.cell? ⟨b, o, none⟩ = w.cell? ⟨b, o, none⟩) /\ (∀ b, v.ownBlock = some b -> ∃ cs, Blk w' b e cs) := by
 by_cases hm : 0 < m
 ·obtain ⟨ad, rfl, _, hc⟩ := hl.2 hm
  exact run_append_kept (P := P) w base t ty e i z size bytes ht hi hz hsize hby hzs hsz v n xs hown ad m c news hl.1 hc h1 h63 hbytes hbase
 ·have hm0 : m = 0 := by omega
  subst hm0
  have hn : news = [] := List.eq_nil_of_length_eq_zero (by have := hl.1; omega)
  subst hn
  cases A with
  | some ad => exact run_append_kept (P := P) w base t ty e i z size bytes ht hi hz hsize hby hzs hsz v n xs hown ad 0 c [] (by simp) (fun j u hu => by simp at hu) h1 h63 hbytes hbase
  | none =>
   have hs : i.size = size := hsize
   subst hs
   refine ⟨v, w, run_append_none w base t ty e i ht hi v n xs hown c, by rw [List.append_nil, Nat.add_zero]; exact hown, ⟨rfl, rfl, rfl, Nat.le_refl _, fun _ _ _ => rfl⟩, .inl rfl, fun _ _ _ _ => rfl, fun b hb => ?_⟩
   rcases hown.2 with ⟨rfl, _⟩ | ⟨q, cq, cur, rfl, _, hq, _⟩
   ·cases hb
   ·have : q = b := by simpa [Value.ownBlock] using hb
    subst this
    exact ⟨cur, hq⟩
theorem wpList_append_all {ops : Array Oper} {rest : List Oper} {o : Oper} {a : Act} {Q : Exit -> Act -> World -> Prop} (hgd : o.guard = none) (s x : Operand) (t : TypeId)
  (ho : o.op = .call { callee := .builtin .append, args := #[s, x], argTypes := #[t, t] })
  (base : Nat) (e : TypeId) (i : TypeInfo) (z : Value) (size bytes : Nat) (ht : P.underlying t = some (.slice e)) (hi : P.info? e = some i) (hz : i.zero = some z)
  (hsize : i.size = size) (hby : i.bytes = bytes) (hzs : z.cells.size = size) (hsz : 0 < size)
  (v : Value) (n : Nat) (xs : List Value) (hs : a.eval s = v) (hown : w.ownsRow base e size v n xs)
  (D : Nat -> Prop) (A : Option Addr) (m c : Nat) (news : List Value) (hx : a.eval x = .slice A m c) (hl : Reads w D size A m news) (h1 : ∀ u ∈ news, u.oneCell' = true)
  (h63 : n + m <= maxLen) (hbytes : (n + m) * bytes <= 140737488355328) (hbase : base <= w.heap.size)
  (h : ∀ v' w', w'.ownsRow base e size v' (n + m) (xs ++ news) -> w.grownBy w' v.ownBlock -> (v'.ownBlock = v.ownBlock \/ v'.ownBlock = some w.heap.size) -> wpList P ops Q rest (a.put o.dst v') w') :
  wpList P ops Q (o :: rest) a w := by
 refine wpList_plain hgd fun K hK => ?_
 obtain ⟨v', w', hr, h2, h3, h4, h5, h6⟩ := run_append_all (P := P) w base t o.type e i z size bytes ht hi hz hsize hby hzs hsz v n xs hown D A m c news hl h1 h63 hbytes hbase
 unfold Oper.wp execOp
 simp only [ho, resolve, invoke, builtin, Sem.run_bind, Sem.run_pure, Result.andThen_ok, List.map_toArray, List.map_cons, List.map_nil, hs, hx, hr]
 exact hK _ _ (h v' w' h2 h3 h4)
end
theorem decL_mono (enc : Int) (ps : List Pc) (a b : Nat) (h : a <= b) : (decL enc (ps.take a)).length <= (decL enc (ps.take b)).length := by
 have : ps.take b = ps.take a ++ (ps.take b).drop a := by
  conv => lhs; rw [<- List.take_append_drop a (ps.take b), List.take_take, Nat.min_eq_left h]
 rw [this, decL_app, List.length_append]
 omega
theorem found_le {enc : Int} {ps : List Pc} {f t : Int} {i n j m : Nat} (hok : ∀ p ∈ ps, PcOk enc p) (h1 : Found enc ps f i n) (h2 : Found enc ps t j m) (h0 : 0 <= f) (hft : f <= t) : i <= j := by
 obtain ⟨a1, a2, a3⟩ := h1
 obtain ⟨b1, b2, b3⟩ := h2
 by_cases hz : 0 < f
 ·obtain ⟨c1, c2, c3⟩ := a3 hz
  obtain ⟨d1, d2, d3⟩ := b3 (by omega)
  rcases Nat.lt_or_ge j i with hlt | hge
  ·have := decL_mono enc ps (j + 1) i hlt
   omega
  ·exact hge
 ·have h3 := len_decL (enc := enc) (ps := ps.take i) (fun p hp => hok p (List.mem_of_mem_take hp))
  rw [List.length_take] at h3
  omega
theorem totB_dec {enc : Int} : ∀ {ps : List Pc}, (∀ p ∈ ps, PcOk enc p) -> totB ps = ((decL enc ps).map Prod.snd).sum := by
 intro ps
 induction ps with
 | nil => intro _; rfl
 | cons p ps ih =>
  intro h
  have hp := h p List.mem_cons_self
  rw [totB_cons, ih (fun q hq => h q (List.mem_cons_of_mem _ hq)), decL_cons, List.map_append, List.sum_append, hp.sum, (sumsOf_good' (dec_pos enc _)).2.2]
def repL (enc : Int) (ps : List Pc) (i n j m : Nat) (fr : List Pc) : List Pc := ps.take i ++ (headP enc ps i n ++ fr ++ tailP enc ps j m) ++ ps.drop (min (j + 1) ps.length)
theorem rep_law {enc : Int} {ps fr : List Pc} {f t : Int} {i n j m : Nat} (h1 : Found enc ps f i n) (h2 : Found enc ps t j m) (h0 : 0 <= f) (hft : f <= t) :
  decL enc (repL enc ps i n j m fr) = (decL enc ps).take f.toNat ++ decL enc fr ++ (decL enc ps).drop t.toNat /\ atsL enc (repL enc ps i n j m fr) = (atsL enc ps).take f.toNat ++ atsL enc fr ++ (atsL enc ps).drop t.toNat := by
 have e : repL enc ps i n j m fr = (ps.take i ++ headP enc ps i n) ++ fr ++ (tailP enc ps j m ++ ps.drop (min (j + 1) ps.length)) := by
  unfold repL
  simp only [List.append_assoc]
 have a := head_law h1 h0
 have b := tail_law h2 (Int.le_trans h0 hft)
 rw [e, decL_app, decL_app, a.1, b.1, atsL_app, atsL_app, a.2, b.2]
 exact ⟨rfl, rfl⟩
theorem rep_pcs {enc : Int} {ps fr : List Pc} {i n j m k : Nat} {w : World} {add : Value} (h : PsIn w add k enc ps) (hf : PsIn w add k enc fr) : PsIn w add k enc (repL enc ps i n j m fr) := by
 have hh : PsIn w add k enc (headP enc ps i n) := by
  refine ⟨fun q hq => ?_, fun q hq => ?_, fun q hq => ?_, fun q hq => ?_, fun q hq => ?_⟩
  all_goals
   obtain ⟨p, hp, h0, rfl⟩ := head_mem hq
   have hm := List.mem_of_getElem? hp
  ·exact cutL_ok (h.ok p hm) h0
  ·exact cutL_bts (h.bts p hm) (h.ok p hm)
  ·exact cutL_low (h.low p hm) (h.ok p hm)
  ·have h1 := szs_bd enc n p.bytes
   have h2 := (h.ok p hm).len
   have h3 := h.tgs p hm
   simp only [cutL]
   omega
  ·intro ad e
   exact h.u8 p hm ad e
 have ht : PsIn w add k enc (tailP enc ps j m) := by
  refine ⟨fun q hq => ?_, fun q hq => ?_, fun q hq => ?_, fun q hq => ?_, fun q hq => ?_⟩
  all_goals
   obtain ⟨p, hp, h0, rfl⟩ := tail_mem hq
   have hm := List.mem_of_getElem? hp
  ·exact cutR_ok (h.ok p hm) h0 (h.tgs p hm)
  ·exact cutR_bts (h.bts p hm) (h.ok p hm)
  ·exact cutR_low (h.low p hm) (h.ok p hm)
  ·have h1 := szs_bd enc m p.bytes
   have h2 := (h.ok p hm).len
   have h3 := h.tgs p hm
   have h4 := (h.ok p hm).nle
   simp only [cutR]
   split <;> omega
  ·intro ad e
   simp only [cutR] at e
   split at e
   ·exact h.u8 p hm ad e
   ·cases hA : p.A with
    | none => rw [hA] at e; cases e
    | some ad0 =>
     rw [hA] at e
     injection e with e
     rw [<- e, block_of_add]
     exact h.u8 p hm ad0 hA
 unfold repL
 exact ((h.sub (fun q hq => List.mem_of_mem_take hq)).app ((hh.app hf).app ht)).app (h.sub (fun q hq => List.mem_of_mem_drop hq))
theorem headP_one (enc : Int) (ps : List Pc) (i n : Nat) : (headP enc ps i n).length <= 1 := by
 unfold headP
 split
 ·split <;> simp
 ·simp
theorem tailP_one (enc : Int) (ps : List Pc) (i n : Nat) : (tailP enc ps i n).length <= 1 := by
 unfold tailP
 split
 ·split <;> simp
 ·simp
theorem flat_app (a b : List Pc) : (a ++ b).flatMap (fun p => p.cells.toList) = a.flatMap (fun p => p.cells.toList) ++ b.flatMap (fun p => p.cells.toList) := List.flatMap_append
theorem flat_one (ps : List Pc) : ∀ u ∈ ps.flatMap (fun p => p.cells.toList), u.oneCell' = true := by
 intro u hu
 obtain ⟨p, _, hu⟩ := List.mem_flatMap.1 hu
 exact part_one _ _ _ _ _ _ _ _ _ u hu
end Go.Proofs.YtflhiohjikgedaaGreatDoor
