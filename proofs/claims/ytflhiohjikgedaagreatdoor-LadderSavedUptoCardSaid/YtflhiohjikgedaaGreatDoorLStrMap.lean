/-
  Maps keyed by strings, as they lie in memory: look-up, store, delete.
-/
import Derived.Test.YtflhiohjikgedaaGreatDoorRows
import Derived.WalkKit
import Derived.WalkSpells
import Derived.WalkLawsBesides
import Derived.Lib.Hide
import Derived.Deep.AppendLies
import Derived.Deep.Draws
import Derived.Deep.Light
import Derived.Deep.DeepCutAuto
import Derived.Deep.LoopGhost
import Derived.Deep.RegionWith
import Derived.Deep.RegionHeld3
import Derived.Deep.QuietTactic
import Derived.BigQuiet
import Derived.Deep.DeepFit
import Derived.Deep.OwnRows
import Derived.MapKept
import Derived.Maps.RangeRun
import Derived.Laws.IdiomRangeMap
set_option linter.unusedSimpArgs false
set_option linter.unusedVariables false
set_option maxRecDepth 100000
set_option maxHeartbeats 32000000
namespace Go.Proofs.YtflhiohjikgedaaGreatDoor
open Go.RowKit
theorem bseq {a b c : World} (h : Below a.heap.size a b) (k : Below b.heap.size b c) : Below a.heap.size a c := h.trans (k.mono h.size)
theorem ret_i {k : IntKind} {a b : Int} (h : a = b) : Ending.returned (.int k a) = .returned (.int k b) := by rw [h]
theorem ret_b {a b : Bool} (h : a = b) : Ending.returned (.bool a) = .returned (.bool b) := by rw [h]
structure Fr (S : Nat -> Prop) (w w' : World) : Prop where
 os : w'.os = w.os
 tape : w'.tape = w.tape
 output : w'.output = w.output
 size : w.heap.size <= w'.heap.size
 block : ∀ k, k < w.heap.size -> ¬ S k -> w'.heap[k]? = w.heap[k]?
def No : Nat -> Prop := fun _ => False
section
variable {S S' : Nat -> Prop} {w w' w'' : World}
theorem Fr.refl (S : Nat -> Prop) (w : World) : Fr S w w := ⟨rfl, rfl, rfl, Nat.le_refl _, fun _ _ _ => rfl⟩
theorem Fr.trans (h : Fr S w w') (k : Fr S w' w'') : Fr S w w'' :=
 ⟨k.os.trans h.os, k.tape.trans h.tape, k.output.trans h.output, Nat.le_trans h.size k.size, fun i hi hn => (k.block i (Nat.lt_of_lt_of_le hi h.size) hn).trans (h.block i hi hn)⟩
theorem Fr.more (h : Fr S w w') (hS : ∀ k, k < w.heap.size -> S k -> S' k) : Fr S' w w' := ⟨h.os, h.tape, h.output, h.size, fun i hi hn => h.block i hi (fun hs => hn (hS i hi hs))⟩
theorem Fr.bel (h : Fr S w w') (k : Below w'.heap.size w' w'') : Fr S w w'' :=
 ⟨k.os.trans h.os, k.tape.trans h.tape, k.output.trans h.output, Nat.le_trans h.size k.size, fun i hi hn => (k.block i (Nat.lt_of_lt_of_le hi h.size)).trans (h.block i hi hn)⟩
theorem Fr.alloc (h : Fr S w w') (o : Obj) : Fr S w (w'.alloc o) :=
 ⟨h.os, h.tape, h.output, Nat.le_trans h.size (by simp), fun i hi hn => (Below.heap_alloc w' o i (Nat.lt_of_lt_of_le hi h.size)).trans (h.block i hi hn)⟩
theorem Fr.drew (h : Fr S w w') : Fr S w w'.drew := ⟨h.os, h.tape, h.output, h.size, h.block⟩
theorem Fr.setCell (h : Fr S w w') {p : Addr} (hp : S p.block \/ w.heap.size <= p.block) (u : Value) : Fr S w (w'.setCell p u) :=
 ⟨h.os, h.tape, h.output, by simpa [World.setCell] using h.size, fun i hi hn => (Below.heap_setCell w' p u i (by
  rintro rfl
  rcases hp with hp | hp
  ·exact hn hp
  ·omega)).trans (h.block i hi hn)⟩
theorem Fr.set1 {g : Nat} {w w' : World} (h : Fr (· = g) w w') (i : Nat) (u : Value) : Fr (· = g) w (w'.setCell ⟨g, i, none⟩ u) := h.setCell (.inl rfl) u
theorem Fr.call {S' : Nat -> Prop} (h : Fr S w w') (k : Fr S' w' w'') (hs : ∀ i, i < w.heap.size -> S' i -> S i) : Fr S w w'' :=
 ⟨k.os.trans h.os, k.tape.trans h.tape, k.output.trans h.output, Nat.le_trans h.size k.size, fun i hi hn => (k.block i (Nat.lt_of_lt_of_le hi h.size) (fun hh => hn (hs i hi hh))).trans (h.block i hi hn)⟩
theorem Fr.below (h : Fr S w w') (hS : ∀ k, k < w.heap.size -> ¬ S k) : Below w.heap.size w w' := ⟨h.os, h.tape, h.output, h.size, fun i hi => h.block i hi (hS i hi)⟩
theorem Fr.of_below (h : Below w.heap.size w w') : Fr S w w' := ⟨h.os, h.tape, h.output, h.size, fun i hi _ => h.block i hi⟩
theorem Fr.of_grown {row : Option Nat} (h : w.grownBy w' row) (hS : ∀ k, row = some k -> k < w.heap.size -> S k) : Fr S w w' :=
 ⟨h.os, h.tape, h.output, h.size, fun i hi hn => h.block i hi (fun e => hn (hS i e.symm hi))⟩
theorem Fr.grown {row : Option Nat} (h : Fr S w w') (hg : w'.grownBy w'' row) (hS : ∀ k, row = some k -> k < w.heap.size -> S k) : Fr S w w'' :=
 ⟨hg.os.trans h.os, hg.tape.trans h.tape, hg.output.trans h.output, Nat.le_trans h.size hg.size, fun i hi hn => (hg.block i (Nat.lt_of_lt_of_le hi h.size) (fun e => hn (hS i e.symm hi))).trans (h.block i hi hn)⟩
theorem Fr.cell (h : Fr S w w') {b : Nat} (hb : b < w.heap.size) (hn : ¬ S b) (o : Nat) : w'.cell? ⟨b, o, none⟩ = w.cell? ⟨b, o, none⟩ := World.cell?_of_block (w := w) (h.block b hb hn)
end
theorem bfr {w w1 w2 : World} {S : Nat -> Prop} (h : Below w.heap.size w w1) (k : Fr S w1 w2) (hs : ∀ i, S i -> w.heap.size <= i) : Below w.heap.size w w2 :=
 ⟨k.os.trans h.os, k.tape.trans h.tape, k.output.trans h.output, Nat.le_trans h.size k.size, fun i hi => (k.block i (Nat.lt_of_lt_of_le hi h.size) (fun hh => by have := hs i hh; omega)).trans (h.block i hi)⟩
def Blk (w : World) (g : Nat) (t : TypeId) (cs : Array Value) : Prop := w.heap[g]? = some (.cells cs t (0, 0))
section
variable {w w' : World} {g : Nat} {t : TypeId} {cs : Array Value} {S : Nat -> Prop}
theorem Blk.lt (h : Blk w g t cs) : g < w.heap.size := by
 rcases Nat.lt_or_ge g w.heap.size with hlt | hge
 ·exact hlt
 ·unfold Blk at h; rw [Array.getElem?_eq_none hge] at h; cases h
theorem Blk.cell (h : Blk w g t cs) (i : Nat) : w.cell? ⟨g, i, none⟩ = cs[i]? := cell_of_row w g i cs t (0, 0) h
theorem Blk.frozen (h : Blk w g t cs) (i : Nat) : w.frozen? ⟨g, i, none⟩ = false := by
 unfold Blk at h
 simp [World.frozen?, h]
theorem Blk.new (w : World) (t : TypeId) (cs : Array Value) : Blk (w.alloc (.cells cs t)) w.heap.size t cs := heap_alloc_new w _
theorem Blk.drew (h : Blk w g t cs) : Blk w.drew g t cs := h
theorem Blk.alloc (h : Blk w g t cs) (o : Obj) : Blk (w.alloc o) g t cs := (Below.heap_alloc w o g h.lt).trans h
theorem Blk.set_ (h : Blk w g t cs) (i : Nat) (u : Value) : Blk (w.setCell ⟨g, i, none⟩ u) g t (cs.setIfInBounds i u) := by
 unfold Blk at h ⊢
 simp [World.setCell, Array.getElem?_modify, h]
theorem Blk.far (h : Blk w g t cs) {p : Addr} (hp : g ≠ p.block) (u : Value) : Blk (w.setCell p u) g t cs := (Below.heap_setCell w p u g hp).trans h
theorem Blk.below (h : Blk w g t cs) (hb : Below w.heap.size w w') : Blk w' g t cs := (hb.block g h.lt).trans h
theorem Blk.fr (h : Blk w g t cs) (hb : Fr S w w') (hn : ¬ S g) : Blk w' g t cs := (hb.block g h.lt hn).trans h
theorem Blk.grown {row : Option Nat} (h : Blk w g t cs) (hb : w.grownBy w' row) (hg : some g ≠ row) : Blk w' g t cs := (hb.block g h.lt hg).trans h
theorem Blk.ne_ {g' : Nat} {t' : TypeId} {cs' : Array Value} (h : Blk w g t cs) (h' : Blk w g' t' cs') (hne : t ≠ t') : g ≠ g' := by
 rintro rfl
 unfold Blk at h h'
 rw [h] at h'
 injection h' with h'
 injection h' with _ ht
 exact hne ht
theorem Blk.eq_ {cs' : Array Value} (h : Blk w g t cs) (e : cs = cs') : Blk w g t cs' := e ▸ h
end
theorem block_of_add (a : Addr) (n : Nat) : (a.add n).block = a.block := by unfold Addr.add; split <;> rfl
theorem add_of_add (a : Addr) (i j : Nat) : (a.add i).add j = a.add (i + j) := by
 unfold Addr.add
 by_cases hi : i = 0 <;> by_cases hj : j = 0 <;> simp [hi, hj, Nat.add_assoc]
def Reads (w : World) (D : Nat -> Prop) (size : Nat) (A : Option Addr) (n : Nat) (xs : List Value) : Prop :=
 xs.length = n * size /\ (0 < n -> ∃ ad, A = some ad /\ D ad.block /\ ∀ j u, xs[j]? = some u -> w.cell? (ad.add j) = some u)
def Any : Nat -> Prop := fun _ => True
theorem lt_of_cell {w : World} {p : Addr} {v : Value} (h : w.cell? p = some v) : p.block < w.heap.size := by
 rcases Nat.lt_or_ge p.block w.heap.size with hlt | hge
 ·exact hlt
 ·unfold World.cell? at h; rw [Array.getElem?_eq_none hge] at h; cases h
section
variable {w w' : World} {D D' S : Nat -> Prop} {size n : Nat} {A : Option Addr} {xs : List Value}
theorem Reads.none_ : Reads w D size A 0 [] := ⟨by simp, fun h => absurd h (by omega)⟩
theorem Reads.at_ {k : Nat} (h : Reads w D 1 A n xs) (hk : k < n) : ∃ ad u, A = some ad /\ D ad.block /\ xs[k]? = some u /\ w.cell? (ad.add k) = some u := by
 obtain ⟨ad, e, hb, hc⟩ := h.2 (by omega)
 have hl : k < xs.length := by have := h.1; omega
 exact ⟨ad, xs[k], e, hb, List.getElem?_eq_getElem hl, hc k _ (List.getElem?_eq_getElem hl)⟩
theorem Reads.keep (h : Reads w D size A n xs) (hk : ∀ p : Addr, D p.block -> p.block < w.heap.size -> w'.cell? p = w.cell? p) : Reads w' D size A n xs :=
 ⟨h.1, fun hn => by
  obtain ⟨ad, e, hb, hc⟩ := h.2 hn
  exact ⟨ad, e, hb, fun j u hu => (hk _ (by rw [block_of_add]; exact hb) (lt_of_cell (hc j u hu))).trans (hc j u hu)⟩⟩
theorem Reads.more (h : Reads w D size A n xs) (hD : ∀ b, D b -> b < w.heap.size -> D' b) (hs : 0 < size) : Reads w D' size A n xs :=
 ⟨h.1, fun hn => by
  obtain ⟨ad, e, hb, hc⟩ := h.2 hn
  have hp : 0 < n * size := Nat.mul_pos hn hs
  have := lt_of_cell (hc 0 _ (List.getElem?_eq_getElem (by have := h.1; omega)))
  rw [block_of_add] at this
  exact ⟨ad, e, hD _ hb this, hc⟩⟩
theorem Reads.below (h : Reads w D size A n xs) (hb : Below w.heap.size w w') : Reads w' D size A n xs := h.keep fun _ _ hl => hb.cell hl
theorem Reads.fr (h : Reads w D size A n xs) (hb : Fr S w w') (hn : ∀ b, D b -> b < w.heap.size -> ¬ S b) : Reads w' D size A n xs :=
 h.keep fun p hp hl => World.cell?_of_block (w := w) (hb.block p.block hl (hn _ hp hl))
theorem Reads.cut (h : Reads w D size A n xs) {k cap : Nat} (hk : k <= n) (hc : n <= cap) :
  Reads w D size (if cap = k then A else A.map (·.add (k * size))) (n - k) (xs.drop (k * size)) := by
 refine ⟨by rw [List.length_drop, h.1, Nat.sub_mul], fun hn => ?_⟩
 obtain ⟨ad, rfl, hb, hcell⟩ := h.2 (by omega)
 rw [if_neg (by omega)]
 refine ⟨ad.add (k * size), rfl, by rw [block_of_add]; exact hb, fun j u hu => ?_⟩
 rw [add_of_add]
 exact hcell _ u (by rw [<- hu, List.getElem?_drop])
theorem Reads.take (h : Reads w D size A n xs) {k : Nat} (hk : k <= n) : Reads w D size A k (xs.take (k * size)) := by
 refine ⟨by rw [List.length_take, h.1]; have := Nat.mul_le_mul_right size hk; omega, fun hn => ?_⟩
 obtain ⟨ad, rfl, hb, hcell⟩ := h.2 (by omega)
 refine ⟨ad, rfl, hb, fun j u hu => hcell j u ?_⟩
 rw [List.getElem?_take] at hu
 split at hu
 ·exact hu
 ·cases hu
theorem Reads.of_own {base : Nat} {e : TypeId} {c : Nat} (h : w.ownsRow base e size (.slice A n c) n xs) : Reads w (fun b => base <= b) size A n xs := by
 refine ⟨h.1, fun hn => ?_⟩
 obtain ⟨g, cap, hv, hg, hlt⟩ := h.form hn
 have hA : A = some ⟨g, 0, none⟩ := by injection hv
 subst hA
 exact ⟨_, rfl, by first | exact hg | omega, h.cells (g := g) rfl⟩
end
def Ints (w : World) (D : Nat -> Prop) (A : Option Addr) (n : Nat) (l : List Int) : Prop := Reads w D 1 A n (l.map (Value.int .i64))
theorem Ints.len {w : World} {D : Nat -> Prop} {A : Option Addr} {n : Nat} {l : List Int} (h : Ints w D A n l) : l.length = n := by have := h.1; simpa using this
theorem Ints.at_ {w : World} {D : Nat -> Prop} {A : Option Addr} {n : Nat} {l : List Int} {k : Nat} (h : Ints w D A n l) (hk : k < n) : ∃ ad, A = some ad /\ D ad.block /\ w.cell? (ad.add k) = some (.int .i64 (l.getD k 0)) := by
 obtain ⟨ad, u, e, hd, hx, hc⟩ := Reads.at_ h hk
 refine ⟨ad, e, hd, ?_⟩
 rw [hc, List.getD_eq_getElem?_getD]
 rw [List.getElem?_map] at hx
 cases hl : l[k]? with
 | none => rw [hl] at hx; cases hx
 | some v => rw [hl] at hx; simp at hx; simp [hx]
def lkS : List (ByteArray × Value) -> ByteArray -> Nat -> Option (Nat × Value)
 | [], _, _ => none
 | (a, v) :: r, k, i => if k = a then some (i, v) else lkS r k (i + 1)
def getS (l : List (ByteArray × Value)) (k : ByteArray) : Option Value := (lkS l k 0).map Prod.snd
def putS (k : ByteArray) (v : Value) : List (ByteArray × Value) -> List (ByteArray × Value)
 | [] => [(k, v)]
 | (a, x) :: r => if k = a then (k, v) :: r else (a, x) :: putS k v r
def delS (k : ByteArray) : List (ByteArray × Value) -> List (ByteArray × Value)
 | [] => []
 | (a, x) :: r => if k = a then r else (a, x) :: delS k r
theorem lkS_shift (k : ByteArray) : ∀ (l : List (ByteArray × Value)) (i : Nat), lkS l k i = (lkS l k 0).map (fun p => (p.1 + i, p.2)) := by
 intro l
 induction l with
 | nil => intro i; rfl
 | cons p r ih =>
  intro i
  obtain ⟨a, v⟩ := p
  unfold lkS
  split
  ·simp
  ·rw [ih (i + 1), ih 1]
   cases lkS r k 0 with
   | none => rfl
   | some q => simp; omega
theorem getS_cons (a : ByteArray) (v : Value) (r : List (ByteArray × Value)) (k : ByteArray) : getS ((a, v) :: r) k = if k = a then some v else getS r k := by
 unfold getS
 rw [lkS]
 split
 ·rfl
 ·rw [lkS_shift]
  cases lkS r k 0 with
  | none => rfl
  | some q => rfl
def entS (p : ByteArray × Value) : Value × Value := (.string p.1, p.2)
def MapS (w : World) (r : Nat) (l : List (ByteArray × Value)) : Prop := ∃ (es : Array MapEntry) (clock : Nat), w.heap[r]? = some (.map es clock) /\ es.toList.map (fun e => (e.key, e.val)) = l.map entS /\ MapKept.Stamped es clock
theorem MapS.new (w : World) : MapS (w.alloc (.map #[] 0)) w.heap.size [] := ⟨#[], 0, (MapKept.heap_alloc w _).1, rfl, MapKept.stamped_empty 0⟩
theorem MapS.lt {w : World} {r : Nat} {l : List (ByteArray × Value)} (h : MapS w r l) : r < w.heap.size := by
 obtain ⟨_, _, h, _⟩ := h
 exact (Array.getElem?_eq_some_iff.1 h).1
theorem MapS.fr {w w' : World} {S : Nat -> Prop} {r : Nat} {l : List (ByteArray × Value)} (h : MapS w r l) (hb : Fr S w w') (hn : ¬ S r) : MapS w' r l := by
 have hl := h.lt
 obtain ⟨es, c, h, he, hs⟩ := h
 exact ⟨es, c, (hb.block r hl hn).trans h, he, hs⟩
theorem MapS.below {w w' : World} {r : Nat} {l : List (ByteArray × Value)} (h : MapS w r l) (hb : Below w.heap.size w w') : MapS w' r l := h.fr (S := fun _ => False) (Fr.of_below hb) (fun h => h)
theorem MapS.ne_blk {w : World} {r g : Nat} {T : TypeId} {cs : Array Value} {l : List (ByteArray × Value)} (h : MapS w r l) (hb : Blk w g T cs) : r ≠ g := by
 obtain ⟨es, c, h, _, _⟩ := h
 rintro rfl
 unfold Blk at hb
 rw [h] at hb
 cases hb
section
variable {P : Program} {w : World} {r : Nat} {l : List (ByteArray × Value)} {t kt et : TypeId}
theorem findNow_str (k : ByteArray) : ∀ (es : List MapEntry) (l : List (ByteArray × Value)) (i : Nat), es.map (fun e => (e.key, e.val)) = l.map entS -> Instr.findNow .string (.string k) es i = some (lkS l k i) := by
 intro es
 induction es with
 | nil =>
  intro l i h
  cases l with
  | nil => rfl
  | cons p r => cases h
 | cons e es ih =>
  intro l i h
  cases l with
  | nil => cases h
  | cons p r =>
   obtain ⟨a, v⟩ := p
   rw [List.map_cons, List.map_cons] at h
   injection h with h1 h2
   unfold entS at h1
   injection h1 with h3 h4
   unfold Instr.findNow lkS
   rw [h3]
   have hs : Instr.sameNow .string (.string k) (.string a) = some (k == a) := rfl
   rw [hs]
   by_cases hk : k = a
   ·subst hk
    simp [h4, (MapKept.bytes_beq k k).2 rfl]
   ·have : (k == a) = false := by
     cases hh : (k == a) with
     | false => rfl
     | true => exact absurd ((MapKept.bytes_beq k a).1 hh) hk
    rw [this, if_neg hk]
    exact ih r (i + 1) h2
theorem checkKey_str (b : Bool) (n : Nat) (k : ByteArray) (hk : P.underlying kt = some .string) : (Instr.checkKey b (n + 1) kt (.string k)).run P w = .ok () w := by
 simp [Instr.checkKey, run_underlying hk]
theorem findKey_str {es : List MapEntry} (k : ByteArray) (hk : P.underlying kt = some .string) (he : es.map (fun e => (e.key, e.val)) = l.map entS) : (Instr.findKey kt (.string k) es).run P w = .ok (lkS l k 0) w := by
 simp [Instr.findKey, run_underlying hk, findNow_str k es l 0 he]
theorem MapS.lookup (h : MapS w r l) (ht : P.underlying t = some (.map kt et)) (hk : P.underlying kt = some .string) (k : ByteArray) {z : Value} (hz : (zeroValue et).run P w = .ok z w) :
  (Instr.lookup t (.map (some r)) (.string k) false).run P w = .ok ((getS l k).getD z) w := by
 obtain ⟨es, c, hb, he, hst⟩ := h
 have hck := checkKey_str (P := P) (w := w) es.isEmpty 9999 k hk
 have hf := findKey_str (P := P) (w := w) k hk he
 unfold getS
 cases hl : lkS l k 0 with
 | none =>
  rw [hl] at hf
  simp [Instr.lookup, run_underlying ht, MapKept.run_getObj_map hb, hck, hf, hz]
 | some p =>
  rw [hl] at hf
  simp [Instr.lookup, run_underlying ht, MapKept.run_getObj_map hb, hck, hf]
theorem mod_putS {es : List MapEntry} (k : ByteArray) (v : Value) : ∀ (l : List (ByteArray × Value)) (i : Nat) (x : Value), es.map (fun e => (e.key, e.val)) = l.map entS -> lkS l k 0 = some (i, x) ->
  (es.modify i fun e => { e with key := .string k, val := v }).map (fun e => (e.key, e.val)) = (putS k v l).map entS /\ ∃ e, es[i]? = some e /\ e.key = .string k := by
 induction es with
 | nil =>
  intro l i x h hl
  cases l with
  | nil => cases hl
  | cons p r => cases h
 | cons e es ih =>
  intro l i x h hl
  cases l with
  | nil => cases h
  | cons p r =>
   obtain ⟨a, y⟩ := p
   rw [List.map_cons, List.map_cons] at h
   injection h with h1 h2
   unfold lkS at hl
   unfold putS
   split at hl
   ·rename_i hk
    injection hl with hl
    injection hl with hl1 hl2
    subst hl1 hk
    rw [if_pos rfl, List.map_cons]
    refine ⟨?_, e, rfl, ?_⟩
    ·show ((Value.string k, v) :: es.map (fun e => (e.key, e.val))) = _
     rw [h2]
     rfl
    ·unfold entS at h1
     injection h1
   ·rename_i hk
    rw [lkS_shift] at hl
    cases hq : lkS r k 0 with
    | none => rw [hq] at hl; cases hl
    | some q =>
     obtain ⟨j, z⟩ := q
     rw [hq] at hl
     injection hl with hl
     injection hl with hl1 hl2
     simp only [Nat.zero_add] at hl1
     subst hl1
     obtain ⟨h3, e', h4, h5⟩ := ih r j z h2 hq
     rw [if_neg hk, List.map_cons]
     refine ⟨?_, e', ?_, h5⟩
     ·show ((e.key, e.val) :: (es.modify j _).map _) = _
      rw [h3, h1]
     ·rw [List.getElem?_cons_succ]
      exact h4
theorem put_newS {es : List MapEntry} (k : ByteArray) (v : Value) (b : Nat) : ∀ (l : List (ByteArray × Value)), es.map (fun e => (e.key, e.val)) = l.map entS -> lkS l k 0 = none -> (es ++ [({ key := .string k, val := v, born := b } : MapEntry)]).map (fun e => (e.key, e.val)) = (putS k v l).map entS := by
 intro l h hl
 have : putS k v l = l ++ [(k, v)] := by
  clear h
  induction l with
  | nil => rfl
  | cons p r ih =>
   obtain ⟨a, y⟩ := p
   unfold lkS at hl
   unfold putS
   split at hl
   ·cases hl
   ·rename_i hk
    rw [lkS_shift] at hl
    rw [if_neg hk, ih (by
     cases hq : lkS r k 0 with
     | none => rfl
     | some q => rw [hq] at hl; cases hl)]
    rfl
 rw [this, List.map_append, List.map_append, h]
 rfl
theorem keyStaysS (k : ByteArray) : (Instr.keyThatStays (.string k) (.string k)).run P w = .ok (.string k) w := by
 simp [Instr.keyThatStays, Instr.sameBits, (MapKept.bytes_beq k k).2 rfl]
theorem lk_noneS (k : ByteArray) : ∀ (l : List (ByteArray × Value)) (i : Nat), lkS l k i = none -> ∀ p ∈ l, p.1 ≠ k := by
 intro l
 induction l with
 | nil => intro _ _ p hp; cases hp
 | cons q r ih =>
  obtain ⟨a, y⟩ := q
  intro i hl p hp
  unfold lkS at hl
  split at hl
  ·cases hl
  ·rename_i hk
   rcases List.mem_cons.1 hp with rfl | hp
   ·exact fun e => hk e.symm
   ·exact ih _ hl p hp
theorem keys_neS {es : List MapEntry} {l : List (ByteArray × Value)} {k : ByteArray} (he : es.map (fun e => (e.key, e.val)) = l.map entS) (hl : lkS l k 0 = none) : ∀ x ∈ es, x.key ≠ .string k := by
 intro x hx e
 have h1 : (x.key, x.val) ∈ es.map (fun e => (e.key, e.val)) := List.mem_map.2 ⟨x, hx, rfl⟩
 rw [he] at h1
 obtain ⟨p, hp, h2⟩ := List.mem_map.1 h1
 unfold entS at h2
 injection h2 with h3 h4
 rw [e] at h3
 injection h3 with h3
 exact lk_noneS k l 0 hl p hp h3
theorem map_frame {w : World} {r : Nat} {o o' : Obj} (hb : w.heap[r]? = some o) : Fr (· = r) w { w with heap := w.heap.setIfInBounds r o' } :=
 ⟨rfl, rfl, rfl, by simp, fun i hi hn => (MapKept.heap_set (o' := o') hb).2 i hn⟩
theorem MapS.update (h : MapS w r l) (ht : P.underlying t = some (.map kt et)) (hk : P.underlying kt = some .string) (k : ByteArray) (v : Value) :
  ∃ w', (Instr.mapUpdate t (.map (some r)) (.string k) v).run P w = .ok () w' /\ MapS w' r (putS k v l) /\ Fr (· = r) w w' := by
 obtain ⟨es, c, hb, he, hst⟩ := h
 have hck := checkKey_str (P := P) (w := w) false 9999 k hk
 have hf := findKey_str (P := P) (w := w) k hk he
 cases hl : lkS l k 0 with
 | none =>
  rw [hl] at hf
  refine ⟨{ w with heap := w.heap.setIfInBounds r (.map (es.push { key := .string k, val := v, born := c }) (c + 1)) }, ?_, ⟨_, _, (MapKept.heap_set hb).1, ?_, MapKept.stamped_push hst (keys_neS he hl)⟩, map_frame hb⟩
  ·simp [Instr.mapUpdate, run_underlying ht, MapKept.run_getObj_map hb, hck, hf, MapKept.run_setObj_map _ hb]
  ·rw [Array.toList_push]
   exact put_newS k v c l he hl
 | some p =>
  obtain ⟨i, x⟩ := p
  rw [hl] at hf
  obtain ⟨h1, e, h2, h3⟩ := mod_putS k v l i x he hl
  have h2' : es[i]? = some e := by rw [<- Array.getElem?_toList]; exact h2
  have hks := keyStaysS (P := P) (w := w) k
  refine ⟨{ w with heap := w.heap.setIfInBounds r (.map (es.modify i fun e => { e with key := .string k, val := v }) c) }, ?_, ⟨_, _, (MapKept.heap_set hb).1, ?_, MapKept.stamped_modify hst i _ (fun _ _ => rfl) (fun e0 _ he0 => by rw [h2'] at he0; injection he0 with he0; subst he0; exact h3.symm)⟩, map_frame hb⟩
  ·simp [Instr.mapUpdate, run_underlying ht, MapKept.run_getObj_map hb, hck, hf, h2', h3, hks, MapKept.run_setObj_map _ hb]
  ·rw [Array.toList_modify]
   exact h1
theorem del_idxS {es : List MapEntry} (k : ByteArray) : ∀ (l : List (ByteArray × Value)) (i : Nat) (x : Value), es.map (fun e => (e.key, e.val)) = l.map entS -> lkS l k 0 = some (i, x) -> (es.eraseIdx i).map (fun e => (e.key, e.val)) = (delS k l).map entS := by
 induction es with
 | nil =>
  intro l i x h hl
  cases l with
  | nil => cases hl
  | cons p r => cases h
 | cons e es ih =>
  intro l i x h hl
  cases l with
  | nil => cases h
  | cons p r =>
   obtain ⟨a, y⟩ := p
   rw [List.map_cons, List.map_cons] at h
   injection h with h1 h2
   unfold lkS at hl
   unfold delS
   split at hl
   ·rename_i hk
    injection hl with hl
    injection hl with hl1 hl2
    subst hl1
    rw [if_pos hk]
    exact h2
   ·rename_i hk
    rw [lkS_shift] at hl
    cases hq : lkS r k 0 with
    | none => rw [hq] at hl; cases hl
    | some q =>
     obtain ⟨j, z⟩ := q
     rw [hq] at hl
     injection hl with hl
     injection hl with hl1 hl2
     simp only [Nat.zero_add] at hl1
     subst hl1
     rw [if_neg hk, List.map_cons, List.eraseIdx_cons_succ, List.map_cons, ih r j z h2 hq, h1]
theorem del_noneS (k : ByteArray) : ∀ l : List (ByteArray × Value), lkS l k 0 = none -> delS k l = l := by
 intro l
 induction l with
 | nil => intro _; rfl
 | cons p r ih =>
  obtain ⟨a, y⟩ := p
  intro hl
  unfold lkS at hl
  unfold delS
  split at hl
  ·cases hl
  ·rename_i hk
   rw [lkS_shift] at hl
   rw [if_neg hk, ih (by
    cases hq : lkS r k 0 with
    | none => rfl
    | some q => rw [hq] at hl; cases hl)]
theorem MapS.delete (h : MapS w r l) (ht : P.underlying t = some (.map kt et)) (hk : P.underlying kt = some .string) (k : ByteArray) (t2 ty : TypeId) :
  ∃ w', (Builtin.delete_ #[t, t2] ty #[.map (some r), .string k]).run P w = .ok (.tuple #[]) w' /\ MapS w' r (delS k l) /\ Fr (· = r) w w' := by
 obtain ⟨es, c, hb, he, hst⟩ := h
 have hck := checkKey_str (P := P) (w := w) es.isEmpty 9999 k hk
 have hf := findKey_str (P := P) (w := w) k hk he
 cases hl : lkS l k 0 with
 | none =>
  rw [hl] at hf
  refine ⟨{ w with heap := w.heap.setIfInBounds r (.map es c) }, ?_, ⟨_, _, (MapKept.heap_set hb).1, ?_, hst⟩, map_frame hb⟩
  ·simp [Builtin.delete_, run_underlying ht, MapKept.run_getObj_map hb, hck, hf, MapKept.run_setObj_map _ hb]
  ·rw [del_noneS k l hl]
   exact he
 | some p =>
  obtain ⟨i, x⟩ := p
  rw [hl] at hf
  refine ⟨{ w with heap := w.heap.setIfInBounds r (.map (es.eraseIdxIfInBounds i) c) }, ?_, ⟨_, _, (MapKept.heap_set hb).1, ?_, MapKept.stamped_erase hst i⟩, map_frame hb⟩
  ·simp [Builtin.delete_, run_underlying ht, MapKept.run_getObj_map hb, hck, hf, MapKept.run_setObj_map _ hb]
  ·rw [Array.toList_eraseIdxIfInBounds]
   exact del_idxS k l i x he hl
theorem MapS.clone (h : MapS w r l) (t : TypeId) : (Extern.MapsClone.clone #[.iface t (.map (some r))]).run P w = .ok (.iface t (.map (some w.heap.size))) (w.alloc (.map (Classical.choose h) (Classical.choose (Classical.choose_spec h)))) /\
    MapS (w.alloc (.map (Classical.choose h) (Classical.choose (Classical.choose_spec h)))) w.heap.size l := by
  have hb := (Classical.choose_spec (Classical.choose_spec h))
  refine ⟨?_, _, _, (MapKept.heap_alloc w _).1, hb.2⟩
  have e : Extern.MapsClone.clone #[.iface t (.map (some r))] = (getObj r >>= fun o => match o with
      | .map entries clock => (newObj (.map entries clock) >>= fun n => pure (.iface t (.map (some n))))
      | _ => stuck "maps.clone: a map expected") := rfl
  rw [e]
  simp [MapKept.run_getObj_map hb.1, Result.andThen, go_sem]
theorem leftOf_push (es : Array MapEntry) (seen : Array Nat) (b : Nat) : (leftOf es (seen.push b)).toList = (leftOf es seen).toList.filter (fun x => x.born != b) := by
 unfold leftOf
 simp only [Array.toList_filter, List.filter_filter]
 congr 1
 funext x
 rw [Array.contains_push]
 cases hb : (x.born == b) <;> cases hc : seen.contains x.born <;> simp [bne, hb]
def decS (e : MapEntry) : ByteArray × Value := ((match e.key with | .string k => k | _ => ByteArray.empty), e.val)
theorem decS_ent {es : List MapEntry} {l : List (ByteArray × Value)} (he : es.map (fun e => (e.key, e.val)) = l.map entS) : es.map decS = l /\ ∀ e ∈ es, e.key = .string (decS e).1 /\ e.val = (decS e).2 := by
 induction es generalizing l with
 | nil =>
  cases l with
  | nil => exact ⟨rfl, fun _ h => by cases h⟩
  | cons p r => cases he
 | cons e es ih =>
  cases l with
  | nil => cases he
  | cons p r =>
   rw [List.map_cons, List.map_cons] at he
   injection he with h1 h2
   obtain ⟨h3, h4⟩ := ih h2
   unfold entS at h1
   injection h1 with h5 h6
   have hd : decS e = p := by
    unfold decS
    rw [h5, h6]
   refine ⟨by rw [List.map_cons, h3, hd], ?_⟩
   intro x hx
   rcases List.mem_cons.1 hx with rfl | hx
   ·rw [hd]; exact ⟨h5, h6⟩
   ·exact h4 x hx
theorem perm_born : ∀ (L : List MapEntry), (L.map (·.born)).Nodup -> ∀ e ∈ L, L.Perm (e :: L.filter (fun x => x.born != e.born)) := by
 intro L
 induction L with
 | nil => intro _ e he; cases he
 | cons a r ih =>
  intro hn e he
  rw [List.map_cons, List.nodup_cons] at hn
  by_cases hae : e = a
  ·subst hae
   have h1 : r.filter (fun x => x.born != e.born) = r := by
    refine List.filter_eq_self.2 (fun x hx => ?_)
    have : x.born ≠ e.born := fun h => hn.1 (List.mem_map.2 ⟨x, hx, h⟩)
    simp [this]
   rw [List.filter_cons, h1]
   simp
  ·have her : e ∈ r := by
    rcases List.mem_cons.1 he with h | h
    ·exact absurd h hae
    ·exact h
   have hb : a.born ≠ e.born := fun h => hn.1 (List.mem_map.2 ⟨e, her, h.symm⟩)
   rw [List.filter_cons, if_pos (by simp [hb])]
   exact ((ih hn.2 e her).cons a).trans (List.Perm.swap _ _ _)
def RangeS (w : World) (r it : Nat) (l left : List (ByteArray × Value)) : Prop := ∃ (es : Array MapEntry) (clock since : Nat) (seen : Array Nat) (c0 : Nat),
 w.heap[r]? = some (.map es clock) /\ es.toList.map (fun e => (e.key, e.val)) = l.map entS /\ MapKept.Stamped es clock /\ w.heap[it]? = some (.mapIter (some r) since seen c0) /\ (∀ x ∈ es.toList, x.born < since) /\ since <= c0 /\ since <= clock /\
 left = (leftOf es seen).toList.map decS
theorem MapS.range (h : MapS w r l) (ht : P.underlying t = some (.map kt et)) :
  ∃ w', (Instr.range t (.map (some r))).run P w = .ok (.pointer (some ⟨w.heap.size, 0, none⟩)) w' /\ RangeS w' r w.heap.size l l /\ Below w.heap.size w w' /\ w'.heap.size = w.heap.size + 1 := by
 have hlt := h.lt
 obtain ⟨es, clock, hb, he, hs⟩ := h
 refine ⟨_, run_range_map w t kt et r es clock ht hb, ⟨es, clock, clock, #[], clock, ((MapKept.heap_alloc w _).2 r hlt).trans hb, he, hs, (MapKept.heap_alloc w _).1, hs.1, Nat.le_refl _, Nat.le_refl _, ?_⟩, (Fr.refl (fun _ => False) w).alloc _ |>.below (fun _ _ h => h), by simp⟩
 rw [show (leftOf es #[]).toList = es.toList by simp [leftOf]]
 exact (decS_ent he).1.symm
theorem RangeS.next {it : Nat} {left : List (ByteArray × Value)} (h : RangeS w r it l left) (ty : TypeId) :
  (left = [] /\ (Instr.next (.pointer (some ⟨it, 0, none⟩)) false ty).run P w = .ok (.tuple #[.bool false]) w) \/
  ∃ (p : ByteArray × Value) (left' : List (ByteArray × Value)) (w' : World), left.Perm (p :: left') /\ (Instr.next (.pointer (some ⟨it, 0, none⟩)) false ty).run P w = .ok (.tuple #[.bool true, .string p.1, p.2]) w' /\
   RangeS w' r it l left' /\ (Instr.entry (.pointer (some ⟨it, 0, none⟩))).run P w' = .ok (.tuple #[.string p.1, p.2]) w' /\ Fr (· = it) w w' /\ w'.heap.size = w.heap.size := by
 obtain ⟨es, clock, since, seen, c0, hb, he, hs, hi, hold, hc, hcl, rfl⟩ := h
 have hne : it ≠ r := by
  rintro rfl
  rw [hb] at hi
  cases hi
 rcases run_next_at (P := P) w ty it r since c0 seen es clock hi hb hold hc with ⟨h0, hrun⟩ | ⟨e, hel, w1, hal, hrun⟩
 ·exact .inl ⟨by rw [Array.size_eq_zero_iff] at h0; rw [h0]; rfl, hrun⟩
 ·have hem : e ∈ es.toList := by
   unfold leftOf at hel
   simp at hel
   simp [hel.1]
  obtain ⟨hk, hv⟩ := (decS_ent he).2 e hem
  have hi1 : w1.heap[it]? = some (.mapIter (some r) since seen c0) := by rcases hal with rfl | rfl <;> exact hi
  have hb1 : w1.heap[r]? = some (.map es clock) := by rcases hal with rfl | rfl <;> exact hb
  have hset := MapKept.heap_set (o' := .mapIter (some r) since (seen.push e.born) clock) hi1
  have hb2 : (ChangeMaps.setBlock w1 it (.mapIter (some r) since (seen.push e.born) clock)).heap[r]? = some (.map es clock) := (hset.2 r (fun e1 => hne e1.symm)).trans hb1
  refine .inr ⟨decS e, ((leftOf es (seen.push e.born)).toList.map decS), _, ?_, ?_, ⟨es, clock, since, seen.push e.born, clock, hb2, he, hs, hset.1, hold, hcl, hcl, rfl⟩, ?_, ?_, ?_⟩
  ·rw [leftOf_push]
   have hn : ((leftOf es seen).toList.map (·.born)).Nodup := by
    unfold leftOf
    rw [Array.toList_filter]
    exact (List.Sublist.map _ List.filter_sublist).nodup hs.2.1
   exact ((perm_born _ hn e hel).map decS)
  ·rw [hrun, hk, hv]
  ·have := run_entry_at (P := P) _ it r since seen es clock e hset.1 hb2 hem hs.2.1
   rw [<- hk, <- hv]
   exact this
  ·have hf1 : Fr (· = it) w w1 := by
    rcases hal with rfl | rfl
    ·exact Fr.refl _ _
    ·exact (Fr.refl _ w).drew
   exact hf1.trans (map_frame hi1)
  ·have : w1.heap.size = w.heap.size := by rcases hal with rfl | rfl <;> rfl
   simp [ChangeMaps.setBlock, this]
end
end Go.Proofs.YtflhiohjikgedaaGreatDoor
