/-
  A text that changes, plain part: an append that keeps what was there (in the old row too); trees whose pieces' bytes lie where nothing is written any more; a step of a text in memory.
-/
import Derived.Test.YtflhiohjikgedaaGreatDoorLGrow4
import Derived.Test.YtflhiohjikgedaaGreatDoorLEncode
import Derived.Test.YtflhiohjikgedaaGreatDoorLOpenLaw
import Derived.Test.YtflhiohjikgedaaGreatDoorLHeavy
set_option linter.unusedSimpArgs false
set_option linter.unusedVariables false
set_option maxRecDepth 100000
set_option maxHeartbeats 32000000
namespace Go.Proofs.YtflhiohjikgedaaGreatDoor
open Go.RowKit
theorem cell_spot {w : World} {p : Addr} {v : Value} (h : w.cell? p = some v) : p = ⟨p.block, p.off, none⟩ := by
 obtain ⟨b, o, s⟩ := p
 cases s with
 | none => rfl
 | some s =>
  unfold World.cell? at h
  split at h
  ·simp at h
  ·cases h
theorem add_cell (b o j : Nat) : (⟨b, o, none⟩ : Addr).add j = ⟨b, o + j, none⟩ := by
 unfold Addr.add
 split
 ·rename_i h; rw [h]; rfl
 ·rfl
section
variable {P : Program} (w : World)
theorem run_append_kept (base : Nat) (t ty e : TypeId) (i : TypeInfo) (z : Value) (size bytes : Nat) (ht : P.underlying t = some (.slice e)) (hi : P.info? e = some i) (hz : i.zero = some z)
  (hsize : i.size = size) (hby : i.bytes = bytes) (hzs : z.cells.size = size) (hsz : 0 < size)
  (v : Value) (n : Nat) (xs : List Value) (hown : w.ownsRow base e size v n xs)
  (a : Addr) (m c : Nat) (news : List Value) (hl : news.length = m * size) (hnews : ∀ j u, news[j]? = some u -> w.cell? (a.add j) = some u) (h1 : ∀ u ∈ news, u.oneCell' = true)
  (h63 : n + m <= maxLen) (hbytes : (n + m) * bytes <= 140737488355328) (hbase : base <= w.heap.size) :
  ∃ v' w', (Builtin.append_ #[t, t] ty #[v, .slice (some a) m c]).run P w = .ok v' w' /\ w'.ownsRow base e size v' (n + m) (xs ++ news) /\ w.grownBy w' v.ownBlock /\
   (v'.ownBlock = v.ownBlock \/ v'.ownBlock = some w.heap.size) /\ (∀ b o, v.ownBlock = some b -> o < n * size -> w'.cell? ⟨b, o, none⟩ = w.cell? ⟨b, o, none⟩) /\ (∀ b, v.ownBlock = some b -> ∃ cs, Blk w' b e cs) := by
 obtain ⟨v', w', hr, h2, h3, _, h5⟩ := run_append_own_at (P := P) w base t ty e i z size bytes ht hi hz hsize hby hzs hsz v n xs hown a m c news hl hnews h1 h63 hbytes hbase
 have hshape : ∀ b, v.ownBlock = some b -> ∃ cs, Blk w' b e cs := by
  intro b hb
  subst hsize
  subst hby
  rcases hown.2 with ⟨rfl, rfl⟩ | ⟨g, cap, cur, rfl, hbg, hg, hnc, hcm, hcs, htake⟩
  ·simp [Value.ownBlock] at hb
  ·have hgb : g = b := by simpa [Value.ownBlock] using hb
   subst hgb
   by_cases hroom : n + m <= cap
   ·have hfit : n * i.size + news.length <= cur.size := by rw [hl, hcs, <- Nat.add_mul]; exact Nat.mul_le_mul_right _ hroom
    have hr2 := run_append_room (P := P) w t ty e i ht hi g n cap cur hg a m c news hl hnews h1 hroom hfit
    rw [hr2] at hr
    injection hr with hv hw
    rcases h2.2 with ⟨hv', _⟩ | ⟨g', cap', cur', hv', _, hg', _⟩
    ·rw [hv'] at hv; cases hv
    ·rw [hv'] at hv
     injection hv with hv
     injection hv with hv
     injection hv with hv
     subst hv
     exact ⟨cur', hg'⟩
   ·have holds : ∀ j u, xs[j]? = some u -> w.cell? ((⟨g, 0, none⟩ : Addr).add j) = some u := hown.cells (g := g) rfl
    have hr2 := run_append_grow (P := P) w t ty e i z ht hi hz ⟨g, 0, none⟩ n cap xs hown.1 holds a m c news hl hnews (by omega) (by simp only [maxLen] at h63; omega) (growslice_fits (by omega) hbytes)
    rw [hr2] at hr
    injection hr with _ hw
    rw [<- hw]
    exact ⟨cur, (heap_alloc_old w.drew _ (Array.getElem?_eq_some_iff.1 hg).1).trans hg⟩
 refine ⟨v', w', hr, h2, h3, h5, fun b o hb ho => ?_, hshape⟩
 subst hsize
 subst hby
 have hlen := hown.1
 have hsmall : n + m <= 9223372036854775807 := by simp only [maxLen] at h63; omega
 obtain ⟨u, hu⟩ : ∃ u, xs[o]? = some u := ⟨xs[o], List.getElem?_eq_getElem (by omega)⟩
 have hold := hown.cells hb o u hu
 rw [add_cell, Nat.zero_add] at hold
 rcases hown.2 with ⟨rfl, rfl⟩ | ⟨g, cap, cur, rfl, hbg, hg, hnc, hcm, hcs, htake⟩
 ·simp [Value.ownBlock] at hb
 ·have hgb : g = b := by simpa [Value.ownBlock] using hb
  subst hgb
  by_cases hroom : n + m <= cap
  ·have hfit : n * i.size + news.length <= cur.size := by rw [hl, hcs, <- Nat.add_mul]; exact Nat.mul_le_mul_right _ hroom
   have hr2 := run_append_room (P := P) w t ty e i ht hi g n cap cur hg a m c news hl hnews h1 hroom hfit
   rw [hr2] at hr
   injection hr with hv hw
   have hnew := h2.cells (g := g) (by rw [<- hv]; rfl) o u (by rw [List.getElem?_append_left (by omega)]; exact hu)
   rw [add_cell, Nat.zero_add] at hnew
   rw [hnew, hold]
  ·have holds : ∀ j u, xs[j]? = some u -> w.cell? ((⟨g, 0, none⟩ : Addr).add j) = some u := hown.cells (g := g) rfl
   have hr2 := run_append_grow (P := P) w t ty e i z ht hi hz ⟨g, 0, none⟩ n cap xs hown.1 holds a m c news hl hnews (by omega) (by omega) (growslice_fits (by omega) hbytes)
   rw [hr2] at hr
   injection hr with _ hw
   rw [<- hw]
   exact World.cell?_of_block (heap_alloc_old w.drew _ (Array.getElem?_eq_some_iff.1 hg).1)
end
theorem hrun_append_kept {P : Program} {T : Value -> World -> Prop} {o : Oper} {a : Act} {s x : Operand} {w : World} (t : TypeId)
  (ho : o.op = .call { callee := .builtin .append, args := #[s, x], argTypes := #[t, t] })
  (base : Nat) (e : TypeId) (i : TypeInfo) (z : Value) (size bytes : Nat) (ht : P.underlying t = some (.slice e)) (hi : P.info? e = some i) (hz : i.zero = some z)
  (hsize : i.size = size) (hby : i.bytes = bytes) (hzs : z.cells.size = size) (hsz : 0 < size)
  (v : Value) (n : Nat) (xs : List Value) (hs : a.eval s = v) (hown : w.ownsRow base e size v n xs)
  (ad : Addr) (m c : Nat) (news : List Value) (hx : a.eval x = .slice (some ad) m c) (hl : news.length = m * size) (hnews : ∀ j u, news[j]? = some u -> w.cell? (ad.add j) = some u) (h1 : ∀ u ∈ news, u.oneCell' = true)
  (h63 : n + m <= maxLen) (hbytes : (n + m) * bytes <= 140737488355328) (hbase : base <= w.heap.size)
  (h : ∀ v' w', w'.ownsRow base e size v' (n + m) (xs ++ news) -> w.grownBy w' v.ownBlock -> (v'.ownBlock = v.ownBlock \/ v'.ownBlock = some w.heap.size) -> (∀ b o, v.ownBlock = some b -> o < n * size -> w'.cell? ⟨b, o, none⟩ = w.cell? ⟨b, o, none⟩) -> (∀ b, v.ownBlock = some b -> ∃ cs, Blk w' b e cs) -> T v' w') : HRun P T ((execOp a.eval o).run P w) := by
 obtain ⟨v', w', hr, h2, h3, h4, h5, h6⟩ := run_append_kept (P := P) w base t o.type e i z size bytes ht hi hz hsize hby hzs hsz v n xs hown ad m c news hl hnews h1 h63 hbytes hbase
 exact hrun_append ho hs hx hr (h v' w' h2 h3 h4 h5 h6)
def Low (add : Value) (n : Nat) (p : Pc) : Prop := ∀ ad, p.A = some ad -> add.ownBlock = some ad.block -> ad.off + p.n <= n
structure PsIn (w : World) (add : Value) (n : Nat) (enc : Int) (ps : List Pc) : Prop where
 ok : ∀ p ∈ ps, PcOk enc p
 bts : ∀ p ∈ ps, Bts w Any p.A p.n p.bytes
 low : ∀ p ∈ ps, Low add n p
 tgs : ∀ p ∈ ps, p.tag + p.n <= 1073741824
 u8 : U8s w ps
theorem PsIn.nil (w : World) (add : Value) (n : Nat) (enc : Int) : PsIn w add n enc [] := ⟨fun _ h => (by cases h), fun _ h => (by cases h), fun _ h => (by cases h), fun _ h => (by cases h), fun _ h => (by cases h)⟩
theorem PsIn.sub {w : World} {add : Value} {n : Nat} {enc : Int} {ps qs : List Pc} (h : PsIn w add n enc ps) (hs : ∀ q ∈ qs, q ∈ ps) : PsIn w add n enc qs :=
 ⟨fun p hp => h.ok p (hs p hp), fun p hp => h.bts p (hs p hp), fun p hp => h.low p (hs p hp), fun p hp => h.tgs p (hs p hp), fun p hp => h.u8 p (hs p hp)⟩
theorem PsIn.app {w : World} {add : Value} {n : Nat} {enc : Int} {ps qs : List Pc} (h : PsIn w add n enc ps) (k : PsIn w add n enc qs) : PsIn w add n enc (ps ++ qs) :=
 ⟨fun p hp => (List.mem_append.1 hp).elim (h.ok p) (k.ok p), fun p hp => (List.mem_append.1 hp).elim (h.bts p) (k.bts p), fun p hp => (List.mem_append.1 hp).elim (h.low p) (k.low p), fun p hp => (List.mem_append.1 hp).elim (h.tgs p) (k.tgs p), fun p hp => (List.mem_append.1 hp).elim (h.u8 p) (k.u8 p)⟩
structure TreeIn (w : World) (add : Value) (n : Nat) (enc : Int) (t : Tr) (a : Option Addr) : Prop where
 node : NodeAt w t a
 tot : totB t.list <= 16777216
 pcs : PsIn w add n enc t.list
structure TStep (g : Nat) (add add' : Value) (n n' : Nat) (w w' : World) : Prop where
 fr : Fr (fun b => b = g \/ add.ownBlock = some b) w w'
 low : ∀ b o, add.ownBlock = some b -> o < n -> w'.cell? ⟨b, o, none⟩ = w.cell? ⟨b, o, none⟩
 own : ∀ b, add'.ownBlock = some b -> add.ownBlock = some b \/ w.heap.size <= b
 le : n <= n'
 u8 : ∀ b cs, Blk w b 5 cs -> ∃ cs', Blk w' b 5 cs'
section
variable {g n n' k B : Nat} {add add' add2 : Value} {w w' w'' : World} {xs : List Value} {enc : Int}
theorem TStep.below (hr : w.ownsRow B 5 1 add n xs) (h : Below w.heap.size w w') : TStep g add add n n w w' :=
 ⟨Fr.of_below h, fun b o hb _ => World.cell?_of_block (w := w) (h.block b (hr.lt b hb).2), fun _ h => .inl h, Nat.le_refl _, fun _ cs hb => ⟨cs, hb.below h⟩⟩
theorem TStep.trans (h1 : TStep g add add' n n' w w') (h2 : TStep g add' add2 n' k w' w'') (hr : w.ownsRow B 5 1 add n xs) (hne : add.ownBlock ≠ some g) : TStep g add add2 n k w w'' := by
 refine ⟨h1.fr.call h2.fr (fun i hi hs => ?_), fun b o hb ho => ?_, fun b hb => ?_, Nat.le_trans h1.le h2.le, fun b cs hb => ?_⟩
 rotate_left 3
 ·obtain ⟨cs', hc⟩ := h1.u8 b cs hb
  exact h2.u8 b cs' hc
 ·rcases hs with hs | hs
  ·exact .inl hs
  ·rcases h1.own i hs with h | h
   ·exact .inr h
   ·omega
 ·have hlt := (hr.lt b hb).2
  refine Eq.trans ?_ (h1.low b o hb ho)
  by_cases hB : add'.ownBlock = some b
  ·exact h2.low b o hB (Nat.lt_of_lt_of_le ho h1.le)
  ·refine h2.fr.cell (Nat.lt_of_lt_of_le hlt h1.fr.size) ?_ o
   rintro (h | h)
   ·subst h; exact hne hb
   ·exact hB h
 ·rcases h2.own b hb with h | h
  ·exact h1.own b h
  ·exact .inr (Nat.le_trans h1.fr.size h)
theorem TStep.set {cs : Array Value} (hr : w.ownsRow B 5 1 add n xs) (hg : Blk w g 88 cs) (hne : add.ownBlock ≠ some g) (i : Nat) (u : Value) : TStep g add add n n w (w.setCell ⟨g, i, none⟩ u) := by
 refine ⟨(Fr.refl _ _).setCell (.inl (.inl rfl)) u, fun b o hb _ => ?_, fun _ h => .inl h, Nat.le_refl _, fun b cs' hb => ⟨cs', hb.far (fun e => Blk.ne_ hb hg (by decide) e) u⟩⟩
 refine World.cell?_of_block (w := w) (Below.heap_setCell w _ u b ?_)
 rintro rfl
 exact hne hb
theorem TStep.loc {S : Nat -> Prop} (h : TStep g add add' n n' w w') (hf : Fr S w' w'') (hS : ∀ b, S b -> w.heap.size <= b) (hr : w.ownsRow B 5 1 add n xs) : TStep g add add' n n' w w'' := by
 refine ⟨h.fr.call hf (fun i hi hs => absurd (hS i hs) (by omega)), fun b o hb ho => ?_, h.own, h.le, fun b cs hb => ?_⟩
 ·have hlt := (hr.lt b hb).2
  exact (hf.cell (Nat.lt_of_lt_of_le hlt h.fr.size) (fun hs => by have := hS b hs; omega) o).trans (h.low b o hb ho)
 ·obtain ⟨cs', hc⟩ := h.u8 b cs hb
  exact ⟨cs', hc.fr hf (fun hs => by have := hS b hs; have := hb.lt; omega)⟩
theorem TStep.grow {w1 : World} {m : Nat} {zs : List Value} (hr : w.ownsRow B 5 1 add n xs) (hf : Fr (fun b => b = g) w w1) (hne : add.ownBlock ≠ some g) (hown : w'.ownsRow B 5 1 add' (n + m) zs) (hg : w1.grownBy w' add.ownBlock) (hat : add'.ownBlock = add.ownBlock \/ add'.ownBlock = some w1.heap.size)
  (hk : ∀ b o, add.ownBlock = some b -> o < n * 1 -> w'.cell? ⟨b, o, none⟩ = w1.cell? ⟨b, o, none⟩) (hsh : ∀ b, add.ownBlock = some b -> ∃ cs, Blk w' b 5 cs) (hgb : ∀ cs, ¬ Blk w g 5 cs) : TStep g add add' n (n + m) w w' := by
 refine ⟨⟨hg.os.trans hf.os, hg.tape.trans hf.tape, hg.output.trans hf.output, Nat.le_trans hf.size hg.size, fun i hi hn => ?_⟩, fun b o hb ho => ?_, fun b hb => ?_, by omega, fun b cs hb => ?_⟩
 ·exact (hg.block i (Nat.lt_of_lt_of_le hi hf.size) (fun e => hn (.inr e.symm))).trans (hf.block i hi (fun e => hn (.inl e)))
 ·rw [hk b o hb (by omega)]
  exact hf.cell (hr.lt b hb).2 (fun e => hne (e ▸ hb)) o
 ·rcases hat with h | h
  ·exact .inl (by rw [<- h]; exact hb)
  ·rw [h] at hb
   injection hb with hb
   have := hf.size
   exact .inr (by omega)
 ·by_cases hB : add.ownBlock = some b
  ·exact hsh b hB
  ·have h1 := hb.fr hf (fun e => hgb cs (e ▸ hb))
   exact ⟨cs, h1.grown hg (fun e => hB e.symm)⟩
theorem NodeAt.keepS {w w' : World} (hk : ∀ b cs, Blk w b 134 cs -> w'.heap[b]? = w.heap[b]?) : ∀ (t : Tr) (a : Option Addr), NodeAt w t a -> NodeAt w' t a := by
 intro t
 induction t with
 | nil => intro a h; exact h
 | node l x r ihl ihr =>
  rintro a ⟨b, al, ar, e, h, hl, hr⟩
  exact ⟨b, al, ar, e, (hk b _ h).trans h, ihl al hl, ihr ar hr⟩
theorem Bts.keepS {D : Nat -> Prop} {A : Option Addr} {m : Nat} {l : List Int} (h : Bts w D A m l) (hk : ∀ ad j x, A = some ad -> j < m -> w.cell? ⟨ad.block, ad.off + j, none⟩ = some (.int .u8 x) -> w'.cell? ⟨ad.block, ad.off + j, none⟩ = w.cell? ⟨ad.block, ad.off + j, none⟩) : Bts w' D A m l := by
 refine ⟨h.1, fun hn => ?_⟩
 obtain ⟨ad, e, hd, hc⟩ := h.2 hn
 refine ⟨ad, e, hd, fun j u hj => ?_⟩
 have h0 : ∃ u0, (l.map (Value.int .u8))[0]? = some u0 := ⟨_, List.getElem?_eq_getElem (by have := h.1; omega)⟩
 obtain ⟨u0, h0⟩ := h0
 have hs := cell_spot (hc 0 u0 h0)
 rw [add_zero] at hs
 have hc1 := hc j u hj
 have hjm : j < m := by have := (List.getElem?_eq_some_iff.1 hj).1; have := h.1; omega
 rw [hs, add_cell] at hc1 ⊢
 rw [List.getElem?_map] at hj
 cases hl : l[j]? with
 | none => rw [hl] at hj; cases hj
 | some x =>
  rw [hl] at hj
  injection hj with hj
  rw [<- hj] at hc1 ⊢
  rw [hk ad j x e hjm hc1]
  exact hc1
theorem PsIn.step {ps : List Pc} {cs : Array Value} (h : PsIn w add n enc ps) (hs : TStep g add add' n n' w w') (hg : Blk w g 88 cs) : PsIn w' add' n' enc ps := by
 refine ⟨h.ok, fun p hp => Bts.keepS (h.bts p hp) (fun ad j x e hj hc => ?_), fun p hp ad e hB => ?_, h.tgs, fun p hp ad e => ?_⟩
 ·by_cases hB : add.ownBlock = some ad.block
  ·exact hs.low _ _ hB (by have := h.low p hp ad e hB; omega)
  ·refine hs.fr.cell (lt_of_cell hc) ?_ _
   obtain ⟨cs', hc'⟩ := h.u8 p hp ad e
   rintro (h1 | h1)
   ·exact Blk.ne_ hc' hg (by decide) h1
   ·exact hB h1
 ·obtain ⟨cs', hc'⟩ := h.u8 p hp ad e
  have hlt := hc'.lt
  rcases hs.own _ hB with h1 | h1
  ·exact Nat.le_trans (h.low p hp ad e h1) hs.le
  ·omega
 ·obtain ⟨cs', hc'⟩ := h.u8 p hp ad e
  exact hs.u8 _ _ hc'
theorem TreeIn.step {t : Tr} {a : Option Addr} {cs : Array Value} (h : TreeIn w add n enc t a) (hs : TStep g add add' n n' w w') (hr : w.ownsRow B 5 1 add n xs) (hg : Blk w g 88 cs) : TreeIn w' add' n' enc t a := by
 refine ⟨NodeAt.keepS (fun b cs' hb => hs.fr.block b hb.lt ?_) t a h.node, h.tot, h.pcs.step hs hg⟩
 rintro (h1 | h1)
 ·exact Blk.ne_ hb hg (by decide) h1
 ·exact own_blk_ne hr hb (by decide) h1
def Far (w : World) (k : Nat) : Prop := (∃ T cs, Blk w k T cs /\ T ≠ 88 /\ T ≠ 134 /\ T ≠ 5) \/ (∃ o, w.heap[k]? = some o /\ ∀ cs T f, o ≠ .cells cs T f)
theorem Far.blk {T : TypeId} {cs : Array Value} {k : Nat} (h : Blk w k T cs) (h1 : T ≠ 88 /\ T ≠ 134 /\ T ≠ 5) : Far w k := .inl ⟨T, cs, h, h1⟩
theorem Far.own {T : TypeId} {k base size m : Nat} {v : Value} {ys : List Value} (h : w.ownsRow base T size v m ys) (hk : v.ownBlock = some k) (h1 : T ≠ 88 /\ T ≠ 134 /\ T ≠ 5) : Far w k := by
 rcases h.2 with ⟨rfl, _⟩ | ⟨g, cap, cur, rfl, _, hg, _⟩
 ·cases hk
 ·have : g = k := by simpa [Value.ownBlock] using hk
  subst this
  exact .inl ⟨T, cur, hg, h1⟩
theorem Far.ne {k b : Nat} {cs : Array Value} (h : Far w k) {T : TypeId} (hT : T = 88 \/ T = 134 \/ T = 5) (hb : Blk w b T cs) : b ≠ k := by
 rintro rfl
 rcases h with ⟨T', cs', h1, h2, h3, h4⟩ | ⟨o, h1, h2⟩
 ·unfold Blk at h1 hb
  rw [h1] at hb
  injection hb with hb
  injection hb with _ hb
  rcases hT with rfl | rfl | rfl
  ·exact h2 hb
  ·exact h3 hb
  ·exact h4 hb
 ·unfold Blk at hb
  rw [h1] at hb
  injection hb with hb
  exact h2 _ _ _ hb
theorem PsIn.far {S : Nat -> Prop} {ps : List Pc} (h : PsIn w add n enc ps) (hf : Fr S w w') (hS : ∀ k, k < w.heap.size -> S k -> Far w k) : PsIn w' add n enc ps := by
 have key : ∀ p ∈ ps, ∀ ad, p.A = some ad -> ad.block < w.heap.size /\ ¬ S ad.block := fun p hp ad e => by
  obtain ⟨cs, hc⟩ := h.u8 p hp ad e
  exact ⟨hc.lt, fun hs => (hS _ hc.lt hs).ne (.inr (.inr rfl)) hc rfl⟩
 refine ⟨h.ok, fun p hp => Bts.keepS (h.bts p hp) (fun ad j x e hj hc => ?_), h.low, h.tgs, fun p hp ad e => ?_⟩
 ·exact hf.cell (key p hp ad e).1 (key p hp ad e).2 _
 ·obtain ⟨cs, hc⟩ := h.u8 p hp ad e
  exact ⟨cs, hc.fr hf (key p hp ad e).2⟩
end
structure TextM (w : World) (B g : Nat) (enc lim : Int) (n : Nat) (add : Value) (t : Tr) (a : Option Addr) (xs : List Value) : Prop where
 blk : Blk w g 88 #[.int .i64 enc, .int .i64 lim, .pointer a, add]
 row : w.ownsRow B 5 1 add n xs
 enc4 : enc = 1 \/ enc = 2 \/ enc = 3 \/ enc = 4
 base : B <= w.heap.size
 tree : TreeIn w add n enc t a
section
variable {w w' : World} {B g n n' : Nat} {enc lim : Int} {add : Value} {t : Tr} {a : Option Addr} {xs : List Value}
theorem TextM.ne (h : TextM w B g enc lim n add t a xs) : add.ownBlock ≠ some g := own_blk_ne h.row h.blk (by decide)
theorem totB_len {enc : Int} : ∀ {ps : List Pc}, (∀ p ∈ ps, PcOk enc p) -> (ps.length : Int) <= totB ps := by
 intro ps
 induction ps with
 | nil => intro _; simp [totB]
 | cons p ps ih =>
  intro h
  have h1 := ih (fun q hq => h q (List.mem_cons_of_mem _ hq))
  have hp := h p List.mem_cons_self
  have h2 : 0 < p.sum.bytes := by
   rw [hp.sum, sumsOf_bytes, hp.len]
   have := hp.pos
   omega
  rw [totB_cons, List.length_cons]
  omega
theorem TextM.text (h : TextM w B g enc lim n add t a xs) : TextIn w Any g enc lim t a add :=
 ⟨h.blk, h.enc4, h.tree.node, by have := totB_len h.tree.pcs.ok; have := h.tree.tot; omega, by have := h.tree.tot; omega, h.tree.pcs.ok, h.tree.pcs.bts⟩
theorem TextM.below (h : TextM w B g enc lim n add t a xs) (hb : Below w.heap.size w w') : TextM w' B g enc lim n add t a xs :=
 ⟨h.blk.below hb, own_bel h.row hb, h.enc4, Nat.le_trans h.base hb.size, h.tree.step (g := g) (TStep.below h.row hb) h.row h.blk⟩
theorem TextL.textM {D : Nat -> Prop} {ds ats : List (Int × Int)} (h : TextL w D g enc lim ds ats) (hs : (ds.map Prod.snd).sum <= 65536) : ∃ t a, TextM w 0 g enc lim 0 (.slice none 0 0) t a [] /\ decL enc t.list = ds /\ atsL enc t.list = ats := by
 obtain ⟨t, a, add, h, hu, hd, ha, rfl, htg⟩ := h
 refine ⟨t, a, ⟨h.blk, World.ownsRow_nil _ _ _ _, h.enc4, Nat.zero_le _, h.node, ?_, h.ok, fun p hp => Reads.more (h.bts p hp) (fun _ _ _ => trivial) (by decide), fun p _ ad _ hb => (by cases hb), htg, hu⟩, hd, ha⟩
 have h1 := (sumL_good h.good).2
 rw [sumL_dec h.ok, (sumsOf_good' (decL_pos enc _)).2.2, hd] at h1
 omega
end
end Go.Proofs.YtflhiohjikgedaaGreatDoor
