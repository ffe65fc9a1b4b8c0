/-
  append in a drawn region, as a heavy operation.
-/
import Derived.Test.YtkoakanpaehkmaaGreatDoorRows
import Derived.WalkKit
import Derived.WalkSpells
import Derived.WalkLawsBesides
import Derived.Lib.Hide
import Derived.Deep.AppendLies
import Derived.Deep.Draws
import Derived.Deep.Light
import Derived.Deep.DeepCutAuto
import Derived.Deep.LoopGhost
import Derived.Deep.RegionWith
import Derived.Deep.RegionHeld3
import Derived.Deep.QuietTactic
import Derived.BigQuiet
import Derived.Deep.DeepFit
import Derived.Deep.OwnRows
import Derived.Deep.CutBlock
import Derived.OrdersHeld
import Derived.StillTail
import Derived.StillTactics
import Derived.OrdersIn
import Derived.TacticsIn
import Derived.Laws.AppendOwn
import Derived.Maps.AppendAt
set_option linter.unusedSimpArgs false
set_option linter.unusedVariables false
set_option maxRecDepth 100000
set_option maxHeartbeats 32000000
namespace Go.Proofs.YtkoakanpaehkmaaGreatDoor
open Go.RowKit
theorem bseq {a b c : World} (h : Below a.heap.size a b) (k : Below b.heap.size b c) : Below a.heap.size a c := h.trans (k.mono h.size)
theorem ret_i {k : IntKind} {a b : Int} (h : a = b) : Ending.returned (.int k a) = .returned (.int k b) := by rw [h]
theorem ret_b {a b : Bool} (h : a = b) : Ending.returned (.bool a) = .returned (.bool b) := by rw [h]
structure Fr (S : Nat -> Prop) (w w' : World) : Prop where
 os : w'.os = w.os
 tape : w'.tape = w.tape
 output : w'.output = w.output
 size : w.heap.size <= w'.heap.size
 block : ∀ k, k < w.heap.size -> ¬ S k -> w'.heap[k]? = w.heap[k]?
def No : Nat -> Prop := fun _ => False
section
variable {S S' : Nat -> Prop} {w w' w'' : World}
theorem Fr.refl (S : Nat -> Prop) (w : World) : Fr S w w := ⟨rfl, rfl, rfl, Nat.le_refl _, fun _ _ _ => rfl⟩
theorem Fr.trans (h : Fr S w w') (k : Fr S w' w'') : Fr S w w'' :=
 ⟨k.os.trans h.os, k.tape.trans h.tape, k.output.trans h.output, Nat.le_trans h.size k.size, fun i hi hn => (k.block i (Nat.lt_of_lt_of_le hi h.size) hn).trans (h.block i hi hn)⟩
theorem Fr.more (h : Fr S w w') (hS : ∀ k, k < w.heap.size -> S k -> S' k) : Fr S' w w' := ⟨h.os, h.tape, h.output, h.size, fun i hi hn => h.block i hi (fun hs => hn (hS i hi hs))⟩
theorem Fr.bel (h : Fr S w w') (k : Below w'.heap.size w' w'') : Fr S w w'' :=
 ⟨k.os.trans h.os, k.tape.trans h.tape, k.output.trans h.output, Nat.le_trans h.size k.size, fun i hi hn => (k.block i (Nat.lt_of_lt_of_le hi h.size)).trans (h.block i hi hn)⟩
theorem Fr.alloc (h : Fr S w w') (o : Obj) : Fr S w (w'.alloc o) :=
 ⟨h.os, h.tape, h.output, Nat.le_trans h.size (by simp), fun i hi hn => (Below.heap_alloc w' o i (Nat.lt_of_lt_of_le hi h.size)).trans (h.block i hi hn)⟩
theorem Fr.drew (h : Fr S w w') : Fr S w w'.drew := ⟨h.os, h.tape, h.output, h.size, h.block⟩
theorem Fr.drewN (h : Fr S w w') (n : Nat) : Fr S w (w'.drewN n) := ⟨h.os, h.tape, h.output, h.size, h.block⟩
theorem Fr.setCell (h : Fr S w w') {p : Addr} (hp : S p.block \/ w.heap.size <= p.block) (u : Value) : Fr S w (w'.setCell p u) :=
 ⟨h.os, h.tape, h.output, by simpa [World.setCell] using h.size, fun i hi hn => (Below.heap_setCell w' p u i (by
  rintro rfl
  rcases hp with hp | hp
  ·exact hn hp
  ·omega)).trans (h.block i hi hn)⟩
theorem Fr.set1 {g : Nat} {w w' : World} (h : Fr (· = g) w w') (i : Nat) (u : Value) : Fr (· = g) w (w'.setCell ⟨g, i, none⟩ u) := h.setCell (.inl rfl) u
theorem Fr.call {S' : Nat -> Prop} (h : Fr S w w') (k : Fr S' w' w'') (hs : ∀ i, i < w.heap.size -> S' i -> S i) : Fr S w w'' :=
 ⟨k.os.trans h.os, k.tape.trans h.tape, k.output.trans h.output, Nat.le_trans h.size k.size, fun i hi hn => (k.block i (Nat.lt_of_lt_of_le hi h.size) (fun hh => hn (hs i hi hh))).trans (h.block i hi hn)⟩
theorem Fr.below (h : Fr S w w') (hS : ∀ k, k < w.heap.size -> ¬ S k) : Below w.heap.size w w' := ⟨h.os, h.tape, h.output, h.size, fun i hi => h.block i hi (hS i hi)⟩
theorem Fr.of_below (h : Below w.heap.size w w') : Fr S w w' := ⟨h.os, h.tape, h.output, h.size, fun i hi _ => h.block i hi⟩
theorem Fr.grown {row : Option Nat} (h : Fr S w w') (hg : w'.grownBy w'' row) (hS : ∀ k, row = some k -> k < w.heap.size -> S k) : Fr S w w'' :=
 ⟨hg.os.trans h.os, hg.tape.trans h.tape, hg.output.trans h.output, Nat.le_trans h.size hg.size, fun i hi hn => (hg.block i (Nat.lt_of_lt_of_le hi h.size) (fun e => hn (hS i e.symm hi))).trans (h.block i hi hn)⟩
theorem Fr.cell (h : Fr S w w') {b : Nat} (hb : b < w.heap.size) (hn : ¬ S b) (o : Nat) : w'.cell? ⟨b, o, none⟩ = w.cell? ⟨b, o, none⟩ := World.cell?_of_block (w := w) (h.block b hb hn)
end
theorem bfr {w w1 w2 : World} {S : Nat -> Prop} (h : Below w.heap.size w w1) (k : Fr S w1 w2) (hs : ∀ i, S i -> w.heap.size <= i) : Below w.heap.size w w2 :=
 ⟨k.os.trans h.os, k.tape.trans h.tape, k.output.trans h.output, Nat.le_trans h.size k.size, fun i hi => (k.block i (Nat.lt_of_lt_of_le hi h.size) (fun hh => by have := hs i hh; omega)).trans (h.block i hi)⟩
def Blk (w : World) (g : Nat) (t : TypeId) (cs : Array Value) : Prop := w.heap[g]? = some (.cells cs t (0, 0))
section
variable {w w' : World} {g : Nat} {t : TypeId} {cs : Array Value} {S : Nat -> Prop}
theorem Blk.lt (h : Blk w g t cs) : g < w.heap.size := by
 rcases Nat.lt_or_ge g w.heap.size with hlt | hge
 ·exact hlt
 ·unfold Blk at h; rw [Array.getElem?_eq_none hge] at h; cases h
theorem Blk.cell (h : Blk w g t cs) (i : Nat) : w.cell? ⟨g, i, none⟩ = cs[i]? := cell_of_row w g i cs t (0, 0) h
theorem Blk.frozen (h : Blk w g t cs) (i : Nat) : w.frozen? ⟨g, i, none⟩ = false := by
 unfold Blk at h
 simp [World.frozen?, h]
theorem Blk.new (w : World) (t : TypeId) (cs : Array Value) : Blk (w.alloc (.cells cs t)) w.heap.size t cs := heap_alloc_new w _
theorem Blk.drew (h : Blk w g t cs) : Blk w.drew g t cs := h
theorem Blk.drewN (h : Blk w g t cs) (n : Nat) : Blk (w.drewN n) g t cs := h
theorem Blk.alloc (h : Blk w g t cs) (o : Obj) : Blk (w.alloc o) g t cs := (Below.heap_alloc w o g h.lt).trans h
theorem Blk.set_ (h : Blk w g t cs) (i : Nat) (u : Value) : Blk (w.setCell ⟨g, i, none⟩ u) g t (cs.setIfInBounds i u) := by
 unfold Blk at h ⊢
 simp [World.setCell, Array.getElem?_modify, h]
theorem Blk.far (h : Blk w g t cs) {p : Addr} (hp : g ≠ p.block) (u : Value) : Blk (w.setCell p u) g t cs := (Below.heap_setCell w p u g hp).trans h
theorem Blk.below (h : Blk w g t cs) (hb : Below w.heap.size w w') : Blk w' g t cs := (hb.block g h.lt).trans h
theorem Blk.fr (h : Blk w g t cs) (hb : Fr S w w') (hn : ¬ S g) : Blk w' g t cs := (hb.block g h.lt hn).trans h
theorem Blk.grown {row : Option Nat} (h : Blk w g t cs) (hb : w.grownBy w' row) (hg : some g ≠ row) : Blk w' g t cs := (hb.block g h.lt hg).trans h
theorem Blk.ne_ {g' : Nat} {t' : TypeId} {cs' : Array Value} (h : Blk w g t cs) (h' : Blk w g' t' cs') (hne : t ≠ t') : g ≠ g' := by
 rintro rfl
 unfold Blk at h h'
 rw [h] at h'
 injection h' with h'
 injection h' with _ ht
 exact hne ht
theorem Blk.eq_ {cs' : Array Value} (h : Blk w g t cs) (e : cs = cs') : Blk w g t cs' := e ▸ h
end
theorem block_of_add (a : Addr) (n : Nat) : (a.add n).block = a.block := by unfold Addr.add; split <;> rfl
theorem add_of_add (a : Addr) (i j : Nat) : (a.add i).add j = a.add (i + j) := by
 unfold Addr.add
 by_cases hi : i = 0 <;> by_cases hj : j = 0 <;> simp [hi, hj, Nat.add_assoc]
def Reads (w : World) (D : Nat -> Prop) (size : Nat) (A : Option Addr) (n : Nat) (xs : List Value) : Prop :=
 xs.length = n * size /\ (0 < n -> ∃ ad, A = some ad /\ D ad.block /\ ∀ j u, xs[j]? = some u -> w.cell? (ad.add j) = some u)
def Any : Nat -> Prop := fun _ => True
theorem lt_of_cell {w : World} {p : Addr} {v : Value} (h : w.cell? p = some v) : p.block < w.heap.size := by
 rcases Nat.lt_or_ge p.block w.heap.size with hlt | hge
 ·exact hlt
 ·unfold World.cell? at h; rw [Array.getElem?_eq_none hge] at h; cases h
section
variable {w w' : World} {D D' S : Nat -> Prop} {size n : Nat} {A : Option Addr} {xs : List Value}
theorem Reads.none_ : Reads w D size A 0 [] := ⟨by simp, fun h => absurd h (by omega)⟩
theorem Reads.at_ {k : Nat} (h : Reads w D 1 A n xs) (hk : k < n) : ∃ ad u, A = some ad /\ D ad.block /\ xs[k]? = some u /\ w.cell? (ad.add k) = some u := by
 obtain ⟨ad, e, hb, hc⟩ := h.2 (by omega)
 have hl : k < xs.length := by have := h.1; omega
 exact ⟨ad, xs[k], e, hb, List.getElem?_eq_getElem hl, hc k _ (List.getElem?_eq_getElem hl)⟩
theorem Reads.keep (h : Reads w D size A n xs) (hk : ∀ p : Addr, D p.block -> p.block < w.heap.size -> w'.cell? p = w.cell? p) : Reads w' D size A n xs :=
 ⟨h.1, fun hn => by
  obtain ⟨ad, e, hb, hc⟩ := h.2 hn
  exact ⟨ad, e, hb, fun j u hu => (hk _ (by rw [block_of_add]; exact hb) (lt_of_cell (hc j u hu))).trans (hc j u hu)⟩⟩
theorem Reads.more (h : Reads w D size A n xs) (hD : ∀ b, D b -> b < w.heap.size -> D' b) (hs : 0 < size) : Reads w D' size A n xs :=
 ⟨h.1, fun hn => by
  obtain ⟨ad, e, hb, hc⟩ := h.2 hn
  have hp : 0 < n * size := Nat.mul_pos hn hs
  have := lt_of_cell (hc 0 _ (List.getElem?_eq_getElem (by have := h.1; omega)))
  rw [block_of_add] at this
  exact ⟨ad, e, hD _ hb this, hc⟩⟩
theorem Reads.below (h : Reads w D size A n xs) (hb : Below w.heap.size w w') : Reads w' D size A n xs := h.keep fun _ _ hl => hb.cell hl
theorem Reads.fr (h : Reads w D size A n xs) (hb : Fr S w w') (hn : ∀ b, D b -> b < w.heap.size -> ¬ S b) : Reads w' D size A n xs :=
 h.keep fun p hp hl => World.cell?_of_block (w := w) (hb.block p.block hl (hn _ hp hl))
theorem Reads.cut (h : Reads w D size A n xs) {k cap : Nat} (hk : k <= n) (hc : n <= cap) :
  Reads w D size (if cap = k then A else A.map (·.add (k * size))) (n - k) (xs.drop (k * size)) := by
 refine ⟨by rw [List.length_drop, h.1, Nat.sub_mul], fun hn => ?_⟩
 obtain ⟨ad, rfl, hb, hcell⟩ := h.2 (by omega)
 rw [if_neg (by omega)]
 refine ⟨ad.add (k * size), rfl, by rw [block_of_add]; exact hb, fun j u hu => ?_⟩
 rw [add_of_add]
 exact hcell _ u (by rw [<- hu, List.getElem?_drop])
theorem Reads.take (h : Reads w D size A n xs) {k : Nat} (hk : k <= n) : Reads w D size A k (xs.take (k * size)) := by
 refine ⟨by rw [List.length_take, h.1]; have := Nat.mul_le_mul_right size hk; omega, fun hn => ?_⟩
 obtain ⟨ad, rfl, hb, hcell⟩ := h.2 (by omega)
 refine ⟨ad, rfl, hb, fun j u hu => hcell j u ?_⟩
 rw [List.getElem?_take] at hu
 split at hu
 ·exact hu
 ·cases hu
theorem Reads.of_own {base : Nat} {e : TypeId} {c : Nat} (h : w.ownsRow base e size (.slice A n c) n xs) : Reads w (fun b => base <= b) size A n xs := by
 refine ⟨h.1, fun hn => ?_⟩
 obtain ⟨g, cap, hv, hg, hlt⟩ := h.form hn
 have hA : A = some ⟨g, 0, none⟩ := by injection hv
 subst hA
 exact ⟨_, rfl, by first | exact hg | omega, h.cells (g := g) rfl⟩
end
def Ints (w : World) (D : Nat -> Prop) (A : Option Addr) (n : Nat) (l : List Int) : Prop := Reads w D 1 A n (l.map (Value.int .i64))
theorem Ints.len {w : World} {D : Nat -> Prop} {A : Option Addr} {n : Nat} {l : List Int} (h : Ints w D A n l) : l.length = n := by have := h.1; simpa using this
theorem Ints.at_ {w : World} {D : Nat -> Prop} {A : Option Addr} {n : Nat} {l : List Int} {k : Nat} (h : Ints w D A n l) (hk : k < n) : ∃ ad, A = some ad /\ D ad.block /\ w.cell? (ad.add k) = some (.int .i64 (l.getD k 0)) := by
 obtain ⟨ad, u, e, hd, hx, hc⟩ := Reads.at_ h hk
 refine ⟨ad, e, hd, ?_⟩
 rw [hc, List.getD_eq_getElem?_getD]
 rw [List.getElem?_map] at hx
 cases hl : l[k]? with
 | none => rw [hl] at hx; cases hx
 | some v => rw [hl] at hx; simp at hx; simp [hx]
def KeepBut (T : TypeId) (w w' : World) : Prop := ∀ (b : Nat) (o : Obj), w.heap[b]? = some o -> (∀ cs f, o ≠ Obj.cells cs T f) -> w'.heap[b]? = some o
theorem KeepBut.of_fr {T : TypeId} {w w' : World} {g : Nat} {cs : Array Value} (h : Fr (· = g) w w') (hb : Blk w g T cs) : KeepBut T w w' := by
 intro b o ho hn
 have hlt : b < w.heap.size := by
  rcases Nat.lt_or_ge b w.heap.size with hlt | hge
  ·exact hlt
  ·rw [Array.getElem?_eq_none hge] at ho; cases ho
 rw [h.block b hlt (fun e => ?_)]
 ·exact ho
 ·subst e
  unfold Blk at hb
  rw [hb] at ho
  injection ho with ho
  exact hn _ _ ho.symm
theorem KeepBut.of_below {T : TypeId} {w w' : World} (h : Below w.heap.size w w') : KeepBut T w w' := by
 intro b o ho _
 have hlt : b < w.heap.size := by
  rcases Nat.lt_or_ge b w.heap.size with hlt | hge
  ·exact hlt
  ·rw [Array.getElem?_eq_none hge] at ho; cases ho
 rw [h.block b hlt]
 exact ho
theorem drop_getD (l : List Int) (m : Nat) (h : m < l.length) : l.drop m = l.getD m 0 :: l.drop (m + 1) := by
 rw [List.drop_eq_getElem_cons h, List.getD_eq_getElem?_getD, List.getElem?_eq_getElem h]; rfl
theorem cell_keep {w w1 : World} {p : Addr} {v : Value} (hb : Below w.heap.size w w1) (h : w.cell? p = some v) : w1.cell? p = some v := (hb.cell (lt_of_cell h)).trans h
theorem bdrew {w w1 : World} (h : Below w.drew.heap.size w.drew w1) : Below w.heap.size w w1 := ⟨h.os, h.tape, h.output, h.size, h.block⟩
theorem keep2 {w w1 : World} {p q : Addr} {u v : Value} (hb : Below w.heap.size w w1) (h : w.cell? p = some u /\ w.cell? q = some v) : w1.cell? p = some u /\ w1.cell? q = some v :=
 ⟨cell_keep hb h.1, cell_keep hb h.2⟩
theorem add_pos (a : Addr) (n : Nat) (h : 0 < n) : a.add n = ⟨a.block, a.off + n, none⟩ := by unfold Addr.add; rw [if_neg (by omega)]
theorem int_info : (Tryz.prog.info? 3).map (fun i => (i.zero, i.size, i.bytes)) = some (some (.int .i64 0), 1, 8) := by kernel_rfl
def OutAt (w : World) (base g : Nat) (xs : List Int) : Prop := ∃ v, Blk w g 34 #[v] /\ w.ownsRow base 3 1 v xs.length (xs.map (Value.int .i64))
theorem OutAt.keep {w w' : World} {base g : Nat} {xs : List Int} {T : TypeId} (h : OutAt w base g xs) (hk : KeepBut T w w') (h1 : T ≠ 34) (h2 : T ≠ 3) : OutAt w' base g xs := by
 obtain ⟨v, hb, hl, ho⟩ := h
 refine ⟨v, hk g _ hb (fun cs f e => h1 (by injection e with _ e; exact e.symm)), hl, ?_⟩
 rcases ho with ho | ⟨r, cap, cur, e1, e2, e3, e4⟩
 ·exact .inl ho
 ·exact .inr ⟨r, cap, cur, e1, e2, hk r _ e3 (fun cs f e => h2 (by injection e with _ e; exact e.symm)), e4⟩
theorem own_blk_ne {w : World} {base g : Nat} {e t : TypeId} {cs : Array Value} {size n : Nat} {v : Value} {xs : List Value} (h : w.ownsRow base e size v n xs) (hg : Blk w g t cs) (hne : e ≠ t) : v.ownBlock ≠ some g := by
 rcases h.2 with ⟨rfl, _⟩ | ⟨g', cap, cur, rfl, _, hh, _⟩
 ·simp [Value.ownBlock]
 ·intro he
  have : g' = g := by simpa [Value.ownBlock] using he
  subst this
  exact Blk.ne_ (t := e) hh hg hne rfl
theorem own_ge {w : World} {base r : Nat} {e : TypeId} {size n : Nat} {v : Value} {xs : List Value} (h : w.ownsRow base e size v n xs) (hr : v.ownBlock = some r) : base <= r := by
 rcases h.2 with ⟨rfl, _⟩ | ⟨g', cap, cur, rfl, hb, _⟩
 ·simp [Value.ownBlock] at hr
 ·have : g' = r := by simpa [Value.ownBlock] using hr
  omega
def Byt (l : List Int) : Prop := ∀ x ∈ l, 0 <= x /\ x < 256
theorem Byt.drop {l : List Int} (h : Byt l) (k : Nat) : Byt (l.drop k) := fun x hx => h x (List.mem_of_mem_drop hx)
theorem Byt.take {l : List Int} (h : Byt l) (k : Nat) : Byt (l.take k) := fun x hx => h x (List.mem_of_mem_take hx)
theorem Byt.at_ {l : List Int} (h : Byt l) (k : Nat) : 0 <= l.getD k 0 /\ l.getD k 0 < 256 := by
 rw [List.getD_eq_getElem?_getD]
 cases e : l[k]? with
 | none => simp
 | some v => simpa using h v (List.mem_of_getElem? e)
def Bts (w : World) (D : Nat -> Prop) (A : Option Addr) (n : Nat) (l : List Int) : Prop := Reads w D 1 A n (l.map (Value.int .u8))
theorem Bts.len {w : World} {D : Nat -> Prop} {A : Option Addr} {n : Nat} {l : List Int} (h : Bts w D A n l) : l.length = n := by have := h.1; simpa using this
theorem Bts.at_ {w : World} {D : Nat -> Prop} {A : Option Addr} {n : Nat} {l : List Int} {k : Nat} (h : Bts w D A n l) (hk : k < n) : ∃ ad, A = some ad /\ D ad.block /\ w.cell? (ad.add k) = some (.int .u8 (l.getD k 0)) := by
 obtain ⟨ad, u, e, hd, hx, hc⟩ := Reads.at_ h hk
 refine ⟨ad, e, hd, ?_⟩
 rw [hc, List.getD_eq_getElem?_getD]
 rw [List.getElem?_map] at hx
 cases hl : l[k]? with
 | none => rw [hl] at hx; cases hx
 | some v => rw [hl] at hx; simp at hx; simp [hx]
def bdN (c : Int) : Int := if c < 128 then 1 else if c < 194 then 0 else if c < 224 then 2 else if c < 240 then 3 else if c <= 244 then 4 else 0
def bdLo (c : Int) : Int := if c < 194 then 0 else if c < 224 then 128 else if c = 224 then 160 else if c = 240 then 144 else if c <= 244 then 128 else 0
def bdHi (c : Int) : Int := if c < 194 then 0 else if c < 224 then 191 else if c = 237 then 159 else if c = 244 then 143 else if c < 244 then 191 else 0
theorem ret_3 {j k m : IntKind} {a b c x y z : Int} (h1 : a = x) (h2 : b = y) (h3 : c = z) : Ending.returned (.tuple #[.int j a, .int k b, .int m c]) = .returned (.tuple #[.int j x, .int k y, .int m z]) := by rw [h1, h2, h3]
theorem ret_2 {j k : IntKind} {a b x y : Int} (h1 : a = x) (h2 : b = y) : Ending.returned (.tuple #[.int j a, .int k b]) = .returned (.tuple #[.int j x, .int k y]) := by rw [h1, h2]
theorem bounds_any (c : Int) (w : World) (h0 : 0 <= c) (h1 : c < 256) :
  Calls Tryz.prog 250 #[.int .u8 c] w fun e w' => e = .returned (.tuple #[.int .i64 (bdN c), .int .u8 (bdLo c), .int .u8 (bdHi c)]) /\ w = w' := by
 go_enter Tryz.func250, Tryz.ntmps250
 go_wp2
 all_goals
  go_light
  go_ret3
  refine ⟨ret_3 ?_ ?_ ?_, rfl⟩
  all_goals
   first | show _ = bdN c | show _ = bdLo c | show _ = bdHi c
   simp only [bdN, bdLo, bdHi]
   (try simp only [beq_iff_eq, beq_eq_false_iff_ne, ne_eq] at *)
   (repeat' split) <;> first | rfl | omega
theorem u8_and192 (x : Int) (h0 : 0 <= x) (h1 : x < 256) : bits .and .u8 x 192 = x - x % 64 := by
 have h : ∀ i : Fin 256, bits .and .u8 (i.val : Int) 192 = (i.val : Int) - (i.val : Int) % 64 := by decide +kernel
 have := h ⟨x.toNat, by omega⟩
 simpa [Int.toNat_of_nonneg h0] using this
def contF : Nat -> List Int -> Nat
 | 0, _ => 0
 | _ + 1, [] => 0
 | m + 1, c :: r => if 128 <= c /\ c < 192 then contF m r + 1 else 0
theorem contF_len (m : Nat) (l : List Int) : contF m l <= l.length := by
 induction m generalizing l with
 | zero => simp [contF]
 | succ m ih => cases l with
  | nil => simp [contF]
  | cons c r => simp only [contF]; split <;> simp [ih]
def rowHave (l : List Int) : Int :=
 if bdN (l.getD 0 0) < 2 then bdN (l.getD 0 0)
 else if l.length < 2 \/ l.getD 1 0 < bdLo (l.getD 0 0) \/ bdHi (l.getD 0 0) < l.getD 1 0 then 1
 else 2 + contF (bdN (l.getD 0 0) - 2).toNat (l.drop 2)
theorem drop_getD' (l : List Int) (m : Nat) (h : m < l.length) : l.drop m = l.getD m 0 :: l.drop (m + 1) := by
 rw [List.drop_eq_getElem_cons h, List.getD_eq_getElem?_getD, List.getElem?_eq_getElem h]; rfl
def RowR (l : List Int) (N : Int) (n : Nat) (w0 : World) (k : Nat) (q : Value) (wr : World) : Prop :=
 ∃ h : Nat, wr = w0 /\ q = .int .i64 (h : Int) /\ 2 <= h /\ (h : Int) <= N /\ h <= n /\ N <= h + k /\ 2 + contF (N - 2).toNat (l.drop 2) = h + contF (N - h).toNat (l.drop h)
theorem add_zero (a : Addr) : a.add 0 = a := by simp [Addr.add]
theorem bdN_le (c : Int) : 0 <= bdN c /\ bdN c <= 4 := by unfold bdN; (repeat' split) <;> omega
theorem row_any (D : Nat -> Prop) (A : Option Addr) (n c : Nat) (l : List Int) (w : World) (hl : Bts w D A n l) (hb : Byt l) (hn : n <= 2147483648) (h0 : 0 < n) :
  Calls Tryz.prog 249 #[.slice A n c] w fun e w' => e = .returned (.tuple #[.int .i64 (rowHave l), .int .i64 (bdN (l.getD 0 0))]) /\ w = w' := by
 have hle1 : l.length <= n := Nat.le_of_eq hl.len
 have hle2 : n <= l.length := Nat.le_of_eq hl.len.symm
 obtain ⟨ad, rfl, hD, hc0⟩ := hl.at_ h0
 obtain ⟨x0, hx0⟩ : ∃ x, l.getD 0 0 = x := ⟨_, rfl⟩
 have hx0b := hb.at_ 0
 rw [hx0, add_zero] at hc0
 rw [hx0] at hx0b
 obtain ⟨N, hN⟩ : ∃ x, bdN x0 = x := ⟨_, rfl⟩
 obtain ⟨lo, hlo⟩ : ∃ x, bdLo x0 = x := ⟨_, rfl⟩
 obtain ⟨hi, hhi⟩ : ∃ x, bdHi x0 = x := ⟨_, rfl⟩
 have hNb := bdN_le x0
 rw [hN] at hNb
 have hbn := fun w => bounds_any x0 w hx0b.1 hx0b.2
 rw [hN, hlo, hhi] at hbn
 have hfin : rowHave l = if N < 2 then N else if l.length < 2 \/ l.getD 1 0 < lo \/ hi < l.getD 1 0 then 1 else 2 + contF (N - 2).toNat (l.drop 2) := by
  unfold rowHave
  rw [hx0, hN, hlo, hhi]
 rw [hx0, hN]
 have HF := Lib.hid hfin
 clear hfin hN hlo hhi hx0
 have HB := Lib.hid hbn
 clear hbn
 obtain ⟨hN0, hN4⟩ := hNb
 by_cases hN2 : N < 2
 ·go_enter Tryz.func249, Tryz.ntmps249
  go_wp2_with fail
  refine (HB.out _).mono ?_
  rintro e w1 ⟨rfl, rfl⟩
  go_wp2_with fail
  go_ret2
  exact ⟨ret_2 (by rw [HF.out, if_pos (by omega)]) rfl, rfl⟩
 ·by_cases hlen : n < 2
  ·have hsp : (n : Int) < 2 := by omega
   go_enter Tryz.func249, Tryz.ntmps249
   go_wp2_with fail
   refine (HB.out _).mono ?_
   rintro e w1 ⟨rfl, rfl⟩
   go_wp2_with fail
   go_ret2
   exact ⟨ret_2 (by rw [HF.out, if_neg (by omega), if_pos (.inl (by omega))]) rfl, rfl⟩
  ·obtain ⟨ad', hade, _, hc1⟩ := hl.at_ (show 1 < n by omega)
   injection hade with hade
   subst hade
   rw [add_pos ad 1 (by omega)] at hc1
   obtain ⟨x1, hx1⟩ : ∃ x, l.getD 1 0 = x := ⟨_, rfl⟩
   have hx1b := hb.at_ 1
   rw [hx1] at hc1 hx1b
   have HX := Lib.hid hx1
   clear hx1
   have hsp : ¬ (n : Int) < 2 := by omega
   by_cases hlo : x1 < lo
   ·go_enter Tryz.func249, Tryz.ntmps249
    go_wp2_with fail
    refine (HB.out _).mono ?_
    rintro e w1 ⟨rfl, rfl⟩
    go_wp2_with fail
    go_ret2
    exact ⟨ret_2 (by rw [HF.out, if_neg (by omega), if_pos (.inr (.inl (by rw [HX.out]; exact hlo)))]) rfl, rfl⟩
   ·by_cases hhi : hi < x1
    ·go_enter Tryz.func249, Tryz.ntmps249
     go_wp2_with fail
     refine (HB.out _).mono ?_
     rintro e w1 ⟨rfl, rfl⟩
     go_wp2_with fail
     go_ret2
     exact ⟨ret_2 (by rw [HF.out, if_neg (by omega), if_pos (.inr (.inr (by rw [HX.out]; exact hhi)))]) rfl, rfl⟩
    ·go_enter Tryz.func249, Tryz.ntmps249
     go_wp2_with fail
     refine (HB.out _).mono ?_
     rintro e w1 ⟨rfl, rfl⟩
     go_wp2_with fail
     have hfin : rowHave l = 2 + contF (N - 2).toNat (l.drop 2) := by
      rw [HF.out, if_neg (by omega), if_neg (by rw [HX.out]; omega)]
     have HF := Lib.hid hfin
     clear hfin hc1
     go_loopg [7] (N - 2).toNat (fun k q wr => RowR l N n w k q wr)
     case atStart => exact ⟨2, rfl, rfl, Nat.le_refl _, by omega, by omega, by omega, rfl⟩
     case round =>
      obtain ⟨h, rfl, rfl, h2, hhn, hhl, hk, hct⟩ := hrel
      have HC := Lib.hid hct
      clear hct
      by_cases c1 : (h : Int) < N
      ·by_cases c2 : h < n
       ·obtain ⟨ad', hade, _, hch⟩ := hl.at_ c2
        injection hade with hade
        subst hade
        obtain ⟨x, hx⟩ : ∃ x, l.getD h 0 = x := ⟨_, rfl⟩
        have hxb := hb.at_ h
        rw [hx] at hch hxb
        have hand := u8_and192 x hxb.1 hxb.2
        have hdr : l.drop h = x :: l.drop (h + 1) := by rw [<- hx]; exact drop_getD' l h (by omega)
        have HD := Lib.hid hdr
        clear hx hdr
        by_cases c3 : 128 <= x /\ x < 192
        ·have c4 : (bits .and .u8 x 192 == 128) = true := by rw [beq_iff_eq, hand]; omega
         clear hand
         go_wp2_with fail
         go_roundg (N - (h + 1)).toNat
         case measure => omega
         case rel =>
          refine ⟨h + 1, rfl, by go_num, by omega, by omega, by omega, by omega, ?_⟩
          rw [HC.out, HD.out, show (N - (h : Int)).toNat = (N - ((h + 1 : Nat) : Int)).toNat + 1 by omega, contF, if_pos c3]
          omega
        ·have c4 : (bits .and .u8 x 192 == 128) = false := by rw [beq_eq_false_iff_ne, hand]; omega
         clear hand
         have hz : contF (N - h).toNat (l.drop h) = 0 := by
          rw [HD.out]
          cases (N - (h : Int)).toNat <;> simp [contF]
          omega
         have HZ := Lib.hid hz
         clear hz
         go_wp2_with fail
         go_ret2
         exact ⟨ret_2 (by have := HC.out; have := HZ.out; rw [HF.out]; omega) rfl, rfl⟩
       ·have hz : contF (N - h).toNat (l.drop h) = 0 := by
         rw [List.drop_eq_nil_of_le (by omega)]
         cases (N - (h : Int)).toNat <;> simp [contF]
        have HZ := Lib.hid hz
        clear hz
        have c3 : ¬ (h : Int) < n := by omega
        go_wp2_with fail
        go_ret2
        exact ⟨ret_2 (by have := HC.out; have := HZ.out; rw [HF.out]; omega) rfl, rfl⟩
      ·have hz : contF (N - h).toNat (l.drop h) = 0 := by
        rw [show (N - (h : Int)).toNat = 0 by omega]
        rfl
       have HZ := Lib.hid hz
       clear hz
       go_wp2_with fail
       go_ret2
       exact ⟨ret_2 (by have := HC.out; have := HZ.out; rw [HF.out]; omega) rfl, rfl⟩
theorem i64_and (i : Nat) (hi : i <= 30) (x : Int) (h0 : 0 <= x) (h1 : x < 2147483648) : bits .and .i64 x (2 ^ i - 1) = x % 2 ^ i :=
 bits_mask .i64 31 (by decide) (fun n a b => by rw [IntKind.wrap_i64]; omega) i (by omega) x h0 h1
theorem i64_and31 (x : Int) (h0 : 0 <= x) (h1 : x < 256) : bits .and .i64 x 31 = x % 32 := i64_and 5 (by omega) x h0 (by omega)
theorem i64_and15 (x : Int) (h0 : 0 <= x) (h1 : x < 256) : bits .and .i64 x 15 = x % 16 := i64_and 4 (by omega) x h0 (by omega)
theorem i64_and7 (x : Int) (h0 : 0 <= x) (h1 : x < 256) : bits .and .i64 x 7 = x % 8 := i64_and 3 (by omega) x h0 (by omega)
theorem i64_or6 (x y : Int) (h0 : 0 <= x) (h1 : x < 33554432) (h2 : 0 <= y) (h3 : y < 64) : bits .or .i64 (x * 64) y = x * 64 + y :=
 bits_join .i64 31 (by decide) (fun n a b => by rw [IntKind.wrap_i64]; omega) 6 (x * 64) y (by omega) (by omega) (by omega) h2 (by omega) (by omega)
def leadF (N x : Int) : Int := if N = 2 then x % 32 else if N = 3 then x % 16 else if N = 4 then x % 8 else x
def goOn (a c : Int) : Int := a * 64 + c % 64
def valF8 (l : List Int) : Int := ((l.drop 1).take (bdN (l.getD 0 0) - 1).toNat).foldl goOn (leadF (bdN (l.getD 0 0)) (l.getD 0 0))
def rawF (l : List Int) : Bool := decide (bdN (l.getD 0 0) = 0 \/ rowHave l < bdN (l.getD 0 0))
def atom8 (l : List Int) : Int := if rawF l = true then -1 - l.getD 0 0 else valF8 l
def size8 (l : List Int) : Int := if rawF l = true then 1 else bdN (l.getD 0 0)
theorem pow64_le (i : Nat) (h : i <= 2) : (64 : Int) ^ i <= 4096 := by
 have h2 : (64 : Nat) ^ i <= 64 ^ 2 := Nat.pow_le_pow_right (by omega) h
 have e : (64 : Nat) ^ 2 = 4096 := by decide
 have h3 : ((64 : Int) ^ i) = ((64 ^ i : Nat) : Int) := by simp
 omega
theorem leadF_bd (N x : Int) (h0 : 0 <= x) (h1 : x < 256) : 0 <= leadF N x /\ leadF N x < 256 := by unfold leadF; (repeat' split) <;> omega
theorem rowHave_le (l : List Int) (h : 0 < l.length) : rowHave l <= l.length := by
 unfold rowHave
 have := contF_len (bdN (l.getD 0 0) - 2).toNat (l.drop 2)
 simp only [List.length_drop] at this
 (repeat' split) <;> omega
def V8R (l r : List Int) (a0 : Int) (w0 : World) (k : Nat) (q8 q49 : Value) (wr : World) : Prop :=
 ∃ (i : Nat) (a : Int), wr = w0 /\ q49 = .int .i64 (i : Int) /\ q8 = .int .i64 a /\ i <= r.length /\ r.length - i <= k /\ (r.take i).foldl goOn a0 = a /\ 0 <= a /\ a < 256 * 64 ^ i
theorem first8_any (D : Nat -> Prop) (A : Option Addr) (n c : Nat) (l : List Int) (w : World) (hl : Bts w D A n l) (hb : Byt l) (hn : n <= 2147483648) (h0 : 0 < n) (hcap : n <= c) :
    Calls Tryz.prog 244 #[.agg #[], .slice A n c] w fun e w' => e = .returned (.tuple #[.int .i64 (atom8 l), .int .i64 (size8 l)]) /\ Below w.heap.size w w' := by
  have hle1 : l.length <= n := Nat.le_of_eq hl.len
  have hle2 : n <= l.length := Nat.le_of_eq hl.len.symm
  obtain ⟨ad, rfl, hD, hc0⟩ := hl.at_ h0
  obtain ⟨x0, hx0⟩ : ∃ x, l.getD 0 0 = x := ⟨_, rfl⟩
  have hx0b := hb.at_ 0
  rw [hx0, add_zero] at hc0
  rw [hx0] at hx0b
  obtain ⟨N, hN⟩ : ∃ x, bdN x0 = x := ⟨_, rfl⟩
  obtain ⟨H, hH⟩ : ∃ x, rowHave l = x := ⟨_, rfl⟩
  have hNb := bdN_le x0
  rw [hN] at hNb
  have hNx := Lib.hid hN
  have HHx := Lib.hid hH
  have hrow := row_any D (some ad) n c l (w.alloc (.cells #[] 237)) (Reads.below hl ((Below.refl _ w).alloc (Nat.le_refl _) _)) hb hn h0
  rw [hx0, hN, hH] at hrow
  have hfa : atom8 l = if rawF l = true then -1 - x0 else valF8 l := by unfold atom8; rw [hx0]
  have hfs : size8 l = if rawF l = true then 1 else N := by unfold size8; rw [hx0, hN]
  have hraw : rawF l = decide (N = 0 \/ H < N) := by unfold rawF; rw [hx0, hN, hH]
  have HA := Lib.hid hfa
  have HS := Lib.hid hfs
  have HR := Lib.hid hraw
  have HW := Lib.hid hrow
  clear hfa hfs hraw hrow
  obtain ⟨hN0, hN4⟩ := hNb
  clear hN hH
  have hW : Below w.heap.size w (w.alloc (.cells #[] 237)) := (Below.refl _ w).alloc (Nat.le_refl _) _
  have hc0' := cell_keep hW hc0
  by_cases hr : N = 0 \/ H < N
  · have hfa : atom8 l = -1 - x0 := by rw [HA.out, HR.out, if_pos (by simpa using hr)]
    have hfs : size8 l = 1 := by rw [HS.out, HR.out, if_pos (by simpa using hr)]
    have HA2 := Lib.hid hfa
    have HS2 := Lib.hid hfs
    clear hfa hfs
    have hr2 : (N == 0) = true \/ ((N == 0) = false /\ H < N) := by
      cases h : (N == 0)
      · rw [beq_eq_false_iff_ne] at h; exact .inr ⟨rfl, by omega⟩
      · exact .inl rfl
    clear hr
    rcases hr2 with hr2 | ⟨hr2, hr3⟩
    all_goals
      go_enter Tryz.func244, Tryz.ntmps244
      go_wp2_with fail
      refine (HW.out).mono ?_
      rintro e w1 ⟨rfl, rfl⟩
      go_wp2_with fail
      go_ret2
      exact ⟨ret_2 (by rw [HA2.out]) (by rw [HS2.out]), (Below.refl _ w).alloc (Nat.le_refl _) _⟩
  · have hfa : atom8 l = valF8 l := by rw [HA.out, HR.out, if_neg (by simpa using hr)]
    have hfs : size8 l = N := by rw [HS.out, HR.out, if_neg (by simpa using hr)]
    have HA2 := Lib.hid hfa
    have HS2 := Lib.hid hfs
    clear hfa hfs
    have q1 : (N == 0) = false := by rw [beq_eq_false_iff_ne]; omega
    have q2 : ¬ H < N := by omega
    have hval : valF8 l = ((l.drop 1).take (N - 1).toNat).foldl goOn (leadF N x0) := by unfold valF8; rw [hx0, hNx.out]
    have HV := Lib.hid hval
    have HH : Hid (H <= n) := Lib.hid (by rw [<- HHx.out]; have := rowHave_le l (by omega); omega)
    clear hval hx0
    obtain ⟨r, hrr⟩ : ∃ r, (l.drop 1).take (N - 1).toNat = r := ⟨_, rfl⟩
    go_enter Tryz.func244, Tryz.ntmps244
    go_wp2_with fail
    refine (HW.out).mono ?_
    rintro e w1 ⟨rfl, rfl⟩
    have a31 := i64_and31 x0 hx0b.1 hx0b.2
    have a15 := i64_and15 x0 hx0b.1 hx0b.2
    have a7 := i64_and7 x0 hx0b.1 hx0b.2
    go_upto_block 0 with fail
    go_cut [8] (fun s8 wx => s8 = .int .i64 (leadF N x0) /\ wx = w.alloc (.cells #[] 237))
    case first =>
      go_wp2_with fail
      all_goals
        go_light
        go_meet
        refine ⟨congrArg (Value.int .i64) ?_, rfl⟩
        (try simp only [beq_iff_eq, beq_eq_false_iff_ne, ne_eq] at *)
        unfold leadF
        (repeat' split) <;> first | rfl | omega
    case rest =>
      obtain ⟨rfl, rfl⟩ := hcut
      clear a31 a15 a7 hc0 hc0'
      have hNn : N <= n := by have := HH.out; omega
      have q3 : (1 : Int) <= N := by simp only [beq_eq_false_iff_ne, ne_eq] at q1; omega
      have q4 : N <= (c : Int) := by omega
      obtain ⟨M, rfl⟩ : ∃ M : Nat, N = (M : Int) + 1 := ⟨(N - 1).toNat, by omega⟩
      have hr' : (l.drop 1).take M = r := by rw [<- hrr]; congr 1; omega
      have hrl : r.length = M := by rw [<- hr', List.length_take, List.length_drop]; omega
      have hrl1 : r.length <= M := Nat.le_of_eq hrl
      have hrl2 : M <= r.length := Nat.le_of_eq hrl.symm
      have hrb : Byt r := by rw [<- hr']; exact (hb.drop 1).take M
      have hl1 := Reads.below hl hW
      have HRR := Lib.hid hr'
      clear hrr hr' hrl
      have q5 : 0 <= (M : Int) + 1 := by omega
      have q6 : ((M : Int) + 1).toNat - 1 = M := by omega
      by_cases hc1 : c = 1
      all_goals
        go_wp2_with fail
        go_loopg [8, 49] M (fun k q8 q49 wr => V8R l r (leadF ((M : Int) + 1) x0) (w.alloc (.cells #[] 237)) k q8 q49 wr)
        case atStart =>
          have := leadF_bd ((M : Int) + 1) x0 hx0b.1 hx0b.2
          exact ⟨0, _, rfl, rfl, rfl, by omega, by omega, rfl, this.1, by simpa using this.2⟩
        case round =>
          obtain ⟨i, a, rfl, rfl, rfl, hi, hik, hfo, ha0, ha1⟩ := hrel
          have HFO := Lib.hid hfo
          clear hfo
          by_cases hlt : i < M
          · first
              | (exfalso; omega)
              | (obtain ⟨ad', hade, _, hci⟩ := Bts.at_ hl1 (show 1 + i < n by omega)
                 injection hade with hade
                 subst hade
                 rw [add_pos ad (1 + i) (by omega), <- Nat.add_assoc] at hci
                 obtain ⟨x, hx⟩ : ∃ x, r.getD i 0 = x := ⟨_, rfl⟩
                 have hxl : l.getD (1 + i) 0 = x := by
                   rw [<- hx, <- HRR.out, List.getD_eq_getElem?_getD, List.getD_eq_getElem?_getD, List.getElem?_take, if_pos hlt, List.getElem?_drop]
                 have hxb := hrb.at_ i
                 rw [hx] at hxb
                 rw [hxl] at hci
                 have hsn : (r.take (i + 1)).foldl goOn (leadF ((M : Int) + 1) x0) = a * 64 + x % 64 := by
                   rw [List.take_succ_eq_append_getElem (by omega), List.foldl_append, HFO.out, <- hx, List.getD_eq_getElem?_getD, List.getElem?_eq_getElem (by omega)]
                   rfl
                 have HSN := Lib.hid hsn
                 clear hsn hx hxl
                 have hp := pow64_le i (by omega)
                 have hab : a < 33554432 := by omega
                 have hm : 0 <= x % 64 /\ x % 64 < 64 := by omega
                 have k1 := u8_and63 x hxb.1 hxb.2
                 have k2 := i64_or6 a (x % 64) ha0 hab hm.1 hm.2
                 go_wp2_with fail
                 go_roundg (M - (i + 1))
                 case measure => omega
                 case rel =>
                   refine ⟨i + 1, _, rfl, by go_num, rfl, by omega, by omega, ?_, ?_, ?_⟩
                   · exact HSN.out
                   · omega
                   · rw [Int.pow_succ]; omega)
          · have hiM : i = M := by omega
            subst hiM
            have hfo := HFO.out
            rw [List.take_of_length_le (by omega)] at hfo
            have HFO2 := Lib.hid hfo
            clear hfo
            go_wp2_with fail
            go_ret2
            refine ⟨ret_2 ?_ (by rw [HS2.out]), hW⟩
            rw [HA2.out, HV.out, show ((i : Int) + 1 - 1).toNat = i by omega, HRR.out]
            exact HFO2.out.symm
theorem nat_mask_hi (u : Nat) (h : u < 65536) : u &&& (2 ^ 64 - 1 - 1023) = u - u % 1024 := by
 have e : u - u % 1024 = (u / 1024) * 2 ^ 10 := by omega
 rw [e]
 apply Nat.eq_of_testBit_eq
 intro i
 rw [Nat.testBit_and, Nat.testBit_mul_two_pow]
 have hm : (2 ^ 64 - 1 - 1023 : Nat) = (2 ^ 54 - 1) * 2 ^ 10 := by decide
 rw [hm, Nat.testBit_mul_two_pow, Nat.testBit_two_pow_sub_one]
 by_cases hi : 10 <= i
 ·have : u.testBit i = (u / 1024).testBit (i - 10) := by
   have : u / 1024 = u >>> 10 := by rw [Nat.shiftRight_eq_div_pow]
   rw [this, Nat.testBit_shiftRight]; congr 1; omega
  simp only [hi, decide_true, Bool.true_and, this]
  by_cases h2 : i - 10 < 54
  ·simp [h2]
  ·have : (u / 1024).testBit (i - 10) = false := Nat.testBit_lt_two_pow (by
    have : (2:Nat)^54 <= 2 ^ (i - 10) := Nat.pow_le_pow_right (by omega) (by omega)
    have : (2:Nat)^54 = 18014398509481984 := by decide
    omega)
   simp [this]
 ·simp [hi]
theorem i64_andNot1023 (u : Int) (h0 : 0 <= u) (h1 : u < 65536) : bits .andNot .i64 u 1023 = u - u % 1024 := by
 obtain ⟨a, rfl⟩ := Int.eq_ofNat_of_zero_le h0
 have ha : a < 65536 := by omega
 have hm := nat_mask_hi a ha
 show IntKind.i64.wrap ((BitVec.ofInt 64 (a : Int) &&& ~~~BitVec.ofInt 64 ((1023 : Nat) : Int)).toNat : Int) = _
 rw [BitVec.toNat_and, BitVec.toNat_not, BitVec.ofInt_natCast, BitVec.ofInt_natCast, BitVec.toNat_ofNat, BitVec.toNat_ofNat, Nat.mod_eq_of_lt (show a < 2 ^ 64 by omega), Nat.mod_eq_of_lt (show 1023 < 2 ^ 64 by decide), hm, IntKind.wrap_i64]
 omega
theorem i64_or8 (x y : Int) (h0 : 0 <= x) (h1 : x < 256) (h2 : 0 <= y) (h3 : y < 256) : bits .or .i64 x (y * 256) = x + y * 256 := by
 have e : bits .or .i64 (y * 256) x = y * 256 + x := bits_join .i64 31 (by decide) (fun n a b => by rw [IntKind.wrap_i64]; omega) 8 (y * 256) x (by omega) (by omega) (by omega) h0 (by omega) (by omega)
 obtain ⟨a, rfl⟩ := Int.eq_ofNat_of_zero_le h0
 obtain ⟨b, rfl⟩ := Int.eq_ofNat_of_zero_le h2
 have hk : ∀ n : Int, 0 <= n -> n < 2 ^ 31 -> IntKind.i64.wrap n = n := fun n a b => by rw [IntKind.wrap_i64]; omega
 have c : ((b : Int) * 256) = ((b * 256 : Nat) : Int) := by omega
 rw [c] at e ⊢
 rw [(bits_nat .i64 31 (by decide) hk _ _ (by omega) (by omega)).2] at e ⊢
 rw [Nat.or_comm, e]
 omega
theorem below_drewN {B : Nat} {a w : World} (h : Below B a w) (n : Nat) : Below B a (w.drewN n) := ⟨h.os, h.tape, h.output, h.size, h.block⟩
theorem i64_and1023 (x : Int) (h0 : 0 <= x) (h1 : x < 65536) : bits .and .i64 x 1023 = x % 1024 := i64_and 10 (by omega) x h0 (by omega)
theorem Bts.cut_ {w : World} {D : Nat -> Prop} {ad : Addr} {n k : Nat} {l : List Int} (h : Bts w D (some ad) n l) (h0 : 0 < k) (hk : k <= n) : Bts w D (some ⟨ad.block, ad.off + k, none⟩) (n - k) (l.drop k) := by
 have := Reads.cut h hk (Nat.le_succ n)
 rw [if_neg (by omega)] at this
 simpa [add_pos ad k h0, Bts] using this
def unitF (o : Int) (l : List Int) : Int := if o = 0 then l.getD 0 0 + l.getD 1 0 * 256 else l.getD 1 0 + l.getD 0 0 * 256
theorem unitF_bd (o : Int) (l : List Int) (h : Byt l) : 0 <= unitF o l /\ unitF o l < 65536 := by
 have := h.at_ 0
 have := h.at_ 1
 unfold unitF
 split <;> omega
theorem unit_any (o : Int) (D : Nat -> Prop) (A : Option Addr) (n c : Nat) (l : List Int) (w : World) (ho : o = 0 \/ o = 1) (hl : Bts w D A n l) (hb : Byt l) (hn : n <= 2147483648) (h0 : 2 <= n) :
  Calls Tryz.prog 256 #[.agg #[.int .i64 o], .slice A n c] w fun e w' => e = .returned (.int .i64 (unitF o l)) /\ Below w.heap.size w w' := by
 obtain ⟨ad, rfl, hD, hc0⟩ := hl.at_ (show 0 < n by omega)
 obtain ⟨ad', hade, _, hc1⟩ := hl.at_ (show 1 < n by omega)
 injection hade with hade
 subst hade
 rw [add_zero] at hc0
 rw [add_pos ad 1 (by omega)] at hc1
 obtain ⟨x0, hx0⟩ : ∃ x, l.getD 0 0 = x := ⟨_, rfl⟩
 obtain ⟨x1, hx1⟩ : ∃ x, l.getD 1 0 = x := ⟨_, rfl⟩
 have b0 := hb.at_ 0
 have b1 := hb.at_ 1
 rw [hx0] at hc0 b0
 rw [hx1] at hc1 b1
 have q0 : (0 : Int) < n := by omega
 have q1 : (1 : Int) < n := by omega
 have hW : Below w.heap.size w (w.alloc (.cells #[.int .i64 o] 239)) := (Below.refl _ w).alloc (Nat.le_refl _) _
 have d0 := cell_keep hW hc0
 have d1 := cell_keep hW hc1
 have k1 := i64_or8 x0 x1 b0.1 b0.2 b1.1 b1.2
 have k2 := i64_or8 x1 x0 b1.1 b1.2 b0.1 b0.2
 have hu : unitF o l = if o = 0 then x0 + x1 * 256 else x1 + x0 * 256 := by unfold unitF; rw [hx0, hx1]
 have HU := Lib.hid hu
 clear hu hx0 hx1 hc0 hc1
 rcases ho with rfl | rfl
 all_goals
  go_enter Tryz.func256, Tryz.ntmps256
  go_wp2_with fail
  go_quiet (fail)
  go_wp2_with fail
  go_ret
  refine ⟨ret_i ?_, below_drewN hW _⟩
  rw [HU.out]
  rfl
def highF (u : Int) : Bool := decide (u / 1024 = 54)
def lowF (u : Int) : Bool := decide (u / 1024 = 55)
theorem high_any (u : Int) (w : World) (h0 : 0 <= u) (h1 : u < 65536) : Calls Tryz.prog 257 #[.int .i64 u] w fun e w' => e = .returned (.bool (highF u)) /\ w = w' := by
 have k := i64_andNot1023 u h0 h1
 go_enter Tryz.func257, Tryz.ntmps257
 go_wp2
 go_ret
 refine ⟨ret_b ?_, rfl⟩
 show ((u - u % 1024) == 55296) = highF u
 unfold highF
 rw [Bool.eq_iff_iff, beq_iff_eq, decide_eq_true_eq]
 omega
theorem low_any (u : Int) (w : World) (h0 : 0 <= u) (h1 : u < 65536) : Calls Tryz.prog 258 #[.int .i64 u] w fun e w' => e = .returned (.bool (lowF u)) /\ w = w' := by
 have k := i64_andNot1023 u h0 h1
 go_enter Tryz.func258, Tryz.ntmps258
 go_wp2
 go_ret
 refine ⟨ret_b ?_, rfl⟩
 show ((u - u % 1024) == 56320) = lowF u
 unfold lowF
 rw [Bool.eq_iff_iff, beq_iff_eq, decide_eq_true_eq]
 omega
def pairF (o : Int) (l : List Int) : Bool := highF (unitF o l) && decide (4 <= l.length) && lowF (unitF o (l.drop 2))
def atom16 (o : Int) (l : List Int) : Int :=
 if l.length = 1 then -1 - l.getD 0 0 else if pairF o l = true then 65536 + unitF o l % 1024 * 1024 + unitF o (l.drop 2) % 1024 else unitF o l
def size16 (o : Int) (l : List Int) : Int := if l.length = 1 then 1 else if pairF o l = true then 4 else 2
theorem first16_any (o : Int) (D : Nat -> Prop) (A : Option Addr) (n c : Nat) (l : List Int) (w : World) (ho : o = 0 \/ o = 1) (hl : Bts w D A n l) (hb : Byt l) (hn : n <= 2147483648) (h0 : 0 < n) (hcap : n <= c) :
  Calls Tryz.prog 251 #[.agg #[.int .i64 o], .slice A n c] w fun e w' => e = .returned (.tuple #[.int .i64 (atom16 o l), .int .i64 (size16 o l)]) /\ Below w.heap.size w w' := by
 have hle1 : l.length <= n := Nat.le_of_eq hl.len
 have hle2 : n <= l.length := Nat.le_of_eq hl.len.symm
 obtain ⟨ad, rfl, hD, hc0⟩ := hl.at_ h0
 rw [add_zero] at hc0
 obtain ⟨x0, hx0⟩ : ∃ x, l.getD 0 0 = x := ⟨_, rfl⟩
 have b0 := hb.at_ 0
 rw [hx0] at hc0 b0
 have hW : Below w.heap.size w (w.alloc (.cells #[.int .i64 o] 239)) := (Below.refl _ w).alloc (Nat.le_refl _) _
 have d0 := cell_keep hW hc0
 have hl1 := Reads.below hl hW
 clear hc0
 by_cases hn1 : n = 1
 ·have hfa : atom16 o l = -1 - x0 := by unfold atom16; rw [if_pos (by omega), hx0]
  have hfs : size16 o l = 1 := by unfold size16; rw [if_pos (by omega)]
  have HA := Lib.hid hfa
  have HS := Lib.hid hfs
  clear hfa hfs hx0
  have q1 : ((n : Int) == 1) = true := by rw [beq_iff_eq]; omega
  have q0 : (0 : Int) < n := by omega
  clear hn1
  go_enter Tryz.func251, Tryz.ntmps251
  go_wp2_with fail
  go_ret2
  exact ⟨ret_2 (by rw [HA.out]) (by rw [HS.out]), hW⟩
 ·have q1 : ((n : Int) == 1) = false := by rw [beq_eq_false_iff_ne]; omega
  have ub := unitF_bd o l hb
  obtain ⟨u, hu⟩ : ∃ u, unitF o l = u := ⟨_, rfl⟩
  rw [hu] at ub
  have hun := unit_any o D (some ad) n c l _ ho hl1 hb hn (by omega)
  rw [hu] at hun
  have HUN := Lib.hid hun
  have hfa : atom16 o l = if pairF o l = true then 65536 + u % 1024 * 1024 + unitF o (l.drop 2) % 1024 else u := by unfold atom16; rw [if_neg (by omega), hu]
  have hfs : size16 o l = if pairF o l = true then 4 else 2 := by unfold size16; rw [if_neg (by omega)]
  have hfp : pairF o l = (highF u && decide (4 <= l.length) && lowF (unitF o (l.drop 2))) := by unfold pairF; rw [hu]
  have HA := Lib.hid hfa
  have HS := Lib.hid hfs
  have HP := Lib.hid hfp
  clear hfa hfs hfp hx0 hu hun
  cases hh : highF u
  ·have hp : pairF o l = false := by rw [HP.out, hh]; rfl
   have HP2 := Lib.hid hp
   clear hp
   go_enter Tryz.func251, Tryz.ntmps251
   go_wp2_with fail
   refine (HUN.out).mono ?_
   rintro e w1 ⟨rfl, hb1⟩
   go_wp2_with fail
   refine (high_any u _ ub.1 ub.2).mono ?_
   rintro e w2 ⟨rfl, rfl⟩
   go_wp2_with fail
   go_ret2
   exact ⟨ret_2 (by rw [HA.out, HP2.out]; rfl) (by rw [HS.out, HP2.out]; rfl), hW.trans (hb1.mono (by simp))⟩
  ·by_cases h4 : n < 4
   ·have hp : pairF o l = false := by rw [HP.out, hh, show decide (4 <= l.length) = false by simp; omega]; rfl
    have HP2 := Lib.hid hp
    clear hp
    have q4 : (n : Int) < 4 := by omega
    go_enter Tryz.func251, Tryz.ntmps251
    go_wp2_with fail
    refine (HUN.out).mono ?_
    rintro e w1 ⟨rfl, hb1⟩
    go_wp2_with fail
    refine (high_any u _ ub.1 ub.2).mono ?_
    rintro e w2 ⟨rfl, rfl⟩
    go_wp2_with fail
    go_ret2
    exact ⟨ret_2 (by rw [HA.out, HP2.out]; rfl) (by rw [HS.out, HP2.out]; rfl), hW.trans (hb1.mono (by simp))⟩
   ·have q4 : ¬ (n : Int) < 4 := by omega
    have vb := unitF_bd o (l.drop 2) (hb.drop 2)
    obtain ⟨v, hv⟩ : ∃ v, unitF o (l.drop 2) = v := ⟨_, rfl⟩
    rw [hv] at vb
    have hp : pairF o l = lowF v := by rw [HP.out, hh, show decide (4 <= l.length) = true by simp; omega, hv]; rfl
    have HP2 := Lib.hid hp
    have HV := Lib.hid hv
    clear hp hv
    have q5 : (2 : Int) <= n := by omega
    have q6 : (n : Int) <= c := by omega
    have m1 := i64_and1023 u ub.1 ub.2
    have m2 := i64_and1023 v vb.1 vb.2
    have q7 : ¬ c = 2 := by omega
    have hb2 : Bts (w.alloc (.cells #[.int .i64 o] 239)) D (some ⟨ad.block, ad.off + 2, none⟩) (n - 2) (l.drop 2) := Bts.cut_ hl1 (by omega) (by omega)
    go_enter Tryz.func251, Tryz.ntmps251
    go_wp2_with fail
    refine (HUN.out).mono ?_
    rintro e w1 ⟨rfl, hb1⟩
    go_wp2_with fail
    refine (high_any u _ ub.1 ub.2).mono ?_
    rintro e w2 ⟨rfl, rfl⟩
    go_wp2_with fail
    have hbox : Blk w1 w.heap.size 239 #[.int .i64 o] := (Blk.new w _ _).below hb1
    have c0 := hbox.cell 0
    simp at c0
    have hbw := Reads.below hb2 hb1
    go_cut [7] (fun s7 wx => s7 = .int .i64 v /\ Below w1.heap.size w1 wx)
    case first =>
     go_region_held3 (fun w' => w'.cell? ⟨w.heap.size, 0, none⟩ = some (.int .i64 o)) (first | assumption | exact cell_keep (by assumption) (by assumption)) (first | (go_at_call 256; refine (unit_any o D _ (n - 2) (c - 2) (l.drop 2) _ ho ?hx1 (hb.drop 2) ?hx2 ?hx3).mono ?_; exact hbw; omega; omega; rintro e w3 ⟨rfl, hb3⟩))
     all_goals
      go_wp2_with fail
      go_meet
      exact ⟨by rw [HV.out], bdrew (by assumption)⟩
    case rest =>
     obtain ⟨rfl, hb3⟩ := hcut
     have hend : Below w.heap.size w wc := (hW.trans (hb1.mono (by simp))).trans (hb3.mono (by have := hb1.size; simp at this; omega))
     cases hlo : lowF v
     all_goals
      go_wp2_with fail
      refine (low_any v _ vb.1 vb.2).mono ?_
      rintro e w4 ⟨rfl, rfl⟩
      go_wp2_with fail
      go_ret2
      exact ⟨ret_2 (by rw [HA.out, HP2.out, hlo, HV.out]; rfl) (by rw [HS.out, HP2.out, hlo]; rfl), hend⟩
def atomL (l : List Int) : Int := l.getD 0 0
theorem firstL_any (D : Nat -> Prop) (A : Option Addr) (n c : Nat) (l : List Int) (w : World) (hl : Bts w D A n l) (hb : Byt l) (h0 : 0 < n) :
  Calls Tryz.prog 260 #[.agg #[], .slice A n c] w fun e w' => e = .returned (.tuple #[.int .i64 (atomL l), .int .i64 1]) /\ Below w.heap.size w w' := by
 obtain ⟨ad, rfl, hD, hc0⟩ := hl.at_ h0
 rw [add_zero] at hc0
 obtain ⟨x0, hx0⟩ : ∃ x, l.getD 0 0 = x := ⟨_, rfl⟩
 have b0 := hb.at_ 0
 rw [hx0] at hc0 b0
 have HX := Lib.hid hx0
 have hW : Below w.heap.size w (w.alloc (.cells #[] 240)) := (Below.refl _ w).alloc (Nat.le_refl _) _
 have d0 := cell_keep hW hc0
 clear hc0 hx0
 have q0 : (0 : Int) < n := by omega
 go_enter Tryz.func260, Tryz.ntmps260
 go_wp2_with fail
 go_ret2
 exact ⟨ret_2 (by unfold atomL; rw [HX.out]) rfl, hW⟩
theorem pA {α : Type} (l : List α) (i : Nat) (a : α) : l.toArray.setIfInBounds i a = (l.set i a).toArray := List.setIfInBounds_toArray ..
theorem pB {α : Type} (a b : α) (l : List α) : (a :: l).set 0 b = b :: l := List.set_cons_zero ..
theorem pC {α : Type} (a b : α) (l : List α) (n : Nat) : (a :: l).set (n + 1) b = a :: l.set n b := List.set_cons_succ ..
def SteadyRun (P : Program) (S : World -> Prop) (v : Value) : Result Next -> Prop
 | .ok (.value u) w' => u = v /\ S w'
 | .ok (.enter f args) w' => Calls P f args w' fun e w'' => e = .returned v /\ S w''
 | _ => False
def Steady (P : Program) (ops : Array Oper) (S : World -> Prop) (o : Oper) (v : Value) (a : Act) : Prop :=
 (Region.wanted o (yielded ops a.tmps) = true /\ ∀ w, S w -> SteadyRun P S v ((execOp a.eval o).run P w)) \/ (Region.wanted o (yielded ops a.tmps) = false /\ v = undef)
section
variable {P : Program} {ops : Array Oper} {md : Region.Mode} {S : World -> Prop} {Q : Exit -> Act -> World -> Prop}
theorem Steady.of_same {o : Oper} {v : Value} {a a' : Act} (hy : Steady P ops S o v a) (he : execOp a'.eval o = execOp a.eval o)
  (hw : Region.wanted o (yielded ops a'.tmps) = Region.wanted o (yielded ops a.tmps)) : Steady P ops S o v a' := by
 unfold Steady at *
 rw [he, hw]
 exact hy
theorem Steady.wpOp {i : Nat} {o : Oper} {v : Value} {a : Act} {K : Act -> World -> Prop} {w : World} (hi : ops[i]? = some o) (hy : Steady P ops S o v a) (hS : S w)
  (h : ∀ w', S w' -> K (a.put o.dst v) w') : Go.wpOp P ops Q i K a w := by
 unfold Go.wpOp
 simp only [hi]
 rcases hy with ⟨hw, hv⟩ | ⟨hw, rfl⟩
 ·simp only [hw, if_true]
  refine .inl ?_
  have h1 := hv w hS
  unfold Oper.wp
  generalize (execOp a.eval o).run P w = r at *
  cases r with
  | ok n w' =>
   cases n <;> simp only [SteadyRun] at h1 <;> simp only [Oper.upon]
   case value u => obtain ⟨rfl, h2⟩ := h1; exact h _ h2
   case enter f args => exact Calls.mono h1 fun e w'' ⟨he, h2⟩ => by subst he; exact h _ h2
  | halt x w' => simp only [SteadyRun] at h1
 ·simp only [hw, Bool.false_eq_true, if_false]
  exact h w hS
def Lin (P : Program) (ops : Array Oper) (S : World -> Prop) (L : Act -> Prop) : List Nat -> Act -> Prop
 | [], a => L a
 | i :: is, a => ∃ o v, ops[i]? = some o /\ Steady P ops S o v a /\ Lin P ops S L is (a.put o.dst v)
theorem Lin.pull {L : Act -> Prop} (hsel : ∀ (j : Nat) (o : Oper) cs b, ops[j]? = some o -> o.op ≠ .select cs b) {j : Nat} :
  ∀ (is : List Nat) (a : Act), j ∈ is -> is.Pairwise (· < ·) -> (∀ i ∈ is, i < j -> ∀ oi oj, ops[i]? = some oi -> ops[j]? = some oj -> oi.apart ops oj = true) -> Lin P ops S L is a ->
   ∃ o v, ops[j]? = some o /\ Steady P ops S o v a /\ Lin P ops S L (is.erase j) (a.put o.dst v) := by
 intro is
 induction is with
 | nil => intro a hj; cases hj
 | cons i is ih =>
  intro a hj hp hap H
  by_cases hij : i = j
  ·subst hij
   rw [List.erase_cons_head]
   exact H
  ·have hj' : j ∈ is := (List.mem_cons.1 hj).resolve_left (fun e => hij e.symm)
   obtain ⟨hlt, hp'⟩ := List.pairwise_cons.1 hp
   obtain ⟨oi, vi, hoi, hyi, H'⟩ := H
   obtain ⟨oj, vj, hoj, hyj, H''⟩ := ih _ hj' hp' (fun k hk => hap k (List.mem_cons_of_mem _ hk)) H'
   obtain ⟨h1, h2, h3⟩ := Oper.apart_spec (hap i List.mem_cons_self (hlt j hj') oi oj hoi hoj)
   refine ⟨oj, vj, hoj, hyj.of_same (execOp_put oj (fun cs b => hsel j oj cs b hoj) a oi.dst vi h1).symm (wanted_put oj a oi.dst vi h1).symm, ?_⟩
   rw [List.erase_cons_tail (by simpa using hij)]
   refine ⟨oi, vi, hoi, hyi.of_same (execOp_put oi (fun cs b => hsel i oi cs b hoi) a oj.dst vj h3) (wanted_put oi a oj.dst vj h3), ?_⟩
   rw [<- Act.put_comm a vi vj h2]
   exact H''
def steadyB (md : Region.Mode) (ops : Array Oper) : Bool :=
 Region.noSelect ops && (List.range ops.size).all fun j => match ops[j]? with
  | none => true
  | some oj => (oj.after.all fun e => !Region.binds md e || decide (e.on < j)) && (List.range j).all fun i => oj.after.any (fun e => Region.binds md e && e.on == i) || match ops[i]? with
   | none => true
   | some oi => oi.apart ops oj
theorem steadyB_spec (h : steadyB md ops = true) : Region.noSelect ops = true /\ (∀ j oj, ops[j]? = some oj -> ∀ e ∈ oj.after, Region.binds md e = true -> e.on < j) /\
  ∀ i j oi oj, i < j -> ops[i]? = some oi -> ops[j]? = some oj -> (∀ e ∈ oj.after, Region.binds md e = true -> e.on ≠ i) -> oi.apart ops oj = true := by
 unfold steadyB at h
 rw [Bool.and_eq_true] at h
 have h2 := List.all_eq_true.1 h.2
 refine ⟨h.1, fun j oj hj e he hb => ?_, fun i j oi oj hij hi hj hno => ?_⟩
 ·have h3 := h2 j (List.mem_range.2 (Array.getElem?_eq_some_iff.1 hj).1)
  simp only [hj, Bool.and_eq_true] at h3
  have h4 := Array.all_eq_true_iff_forall_mem.1 h3.1 e he
  simp only [hb, Bool.not_true, Bool.false_or, decide_eq_true_eq] at h4
  exact h4
 ·have h3 := h2 j (List.mem_range.2 (Array.getElem?_eq_some_iff.1 hj).1)
  simp only [hj, Bool.and_eq_true] at h3
  have h4 := List.all_eq_true.1 h3.2 i (List.mem_range.2 hij)
  simp only [hi, Bool.or_eq_true] at h4
  rcases h4 with h4 | h4
  ·obtain ⟨e, he, hb⟩ := Array.any_eq_true'.1 h4
   simp only [Bool.and_eq_true, beq_iff_eq] at hb
   exact absurd hb.2 (hno e he hb.1)
  ·exact h4
theorem wpAny_of_lin (hB : steadyB md ops = true) : ∀ (fuel : Nat) (is : List Nat) (listed : Array Bool) (a : Act) (w : World), is.length <= fuel -> listed.size = ops.size ->
  (∀ j, j < ops.size -> (listed.getD j true = false ↔ j ∈ is)) -> (∀ j ∈ is, j < ops.size) -> is.Pairwise (· < ·) -> S w -> Lin P ops S (fun a => ∀ w, S w -> Q .normal a w) is a -> wpAny P md ops Q fuel listed a w := by
 obtain ⟨hsel, hlt, hap⟩ := steadyB_spec hB
 intro fuel
 have hnil : ∀ (is : List Nat) (listed : Array Bool), listed.size = ops.size -> (∀ j, j < ops.size -> (listed.getD j true = false ↔ j ∈ is)) -> (∀ j ∈ is, j < ops.size) -> is.Pairwise (· < ·) -> Region.ready md ops listed = [] -> is = [] := by
  intro is listed hsz hmem hin hp hr
  cases is with
  | nil => rfl
  | cons i is =>
   exfalso
   have hi := hin i List.mem_cons_self
   have : i ∈ Region.ready md ops listed := by
    refine mem_ready.2 ⟨(hmem i hi).2 List.mem_cons_self, ops[i], Array.getElem?_eq_getElem hi, fun e he hb => ?_⟩
    have h1 := hlt i _ (Array.getElem?_eq_getElem hi) e he hb
    cases h2 : listed.getD e.on false with
    | true => rfl
    | false =>
     have h3 := (hmem e.on (by omega)).1 (getD_in (by omega) h2)
     rcases List.mem_cons.1 h3 with h3 | h3
     ·omega
     ·have := (List.pairwise_cons.1 hp).1 _ h3; omega
   rw [hr] at this
   cases this
 induction fuel with
 | zero =>
  intro is listed a w hf hsz hmem hin hp hS H
  have e : is = [] := List.eq_nil_of_length_eq_zero (by omega)
  subst e
  refine ⟨?_, H w hS⟩
  rw [List.eq_nil_iff_forall_not_mem]
  intro j hj
  obtain ⟨h1, o, ho, _⟩ := mem_ready.1 hj
  have := (hmem j (Array.getElem?_eq_some_iff.1 ho).1).1 h1
  cases this
 | succ fuel ih =>
  intro is listed a w hf hsz hmem hin hp hS H
  refine ⟨fun hr => ?_, fun j hj => ?_⟩
  ·have e := hnil is listed hsz hmem hin hp hr
   subst e
   exact H w hS
  ·obtain ⟨h1, oj, hoj, hall⟩ := mem_ready.1 hj
   have hjs := (Array.getElem?_eq_some_iff.1 hoj).1
   have hji := (hmem j hjs).1 h1
   obtain ⟨o, v, ho, hy, H'⟩ := Lin.pull (Region.noSelect_spec hsel) is a hji hp (fun i hi hij oi oj' hoi hoj' => by
    refine hap i j oi oj' hij hoi hoj' (fun e he hb heq => ?_)
    have : oj' = oj := Option.some.inj (hoj'.symm.trans hoj)
    subst this
    have h2 := hall e he hb
    have h3 := (hmem i (hin i hi)).2 hi
    rw [heq] at h2
    rw [getD_both h3] at h2
    cases h2) H
   refine hy.wpOp ho hS (fun w' hS' => ?_)
   have hnd : is.Nodup := hp.imp (fun h => Nat.ne_of_lt h)
   refine ih (is.erase j) _ _ w' (by rw [List.length_erase_of_mem hji]; omega) (by simpa using hsz) (fun k hk => ?_) (fun k hk => hin k (List.mem_of_mem_erase hk)) (hp.sublist List.erase_sublist) hS' H'
   rw [hnd.mem_erase_iff]
   by_cases hkj : k = j
   ·subst hkj
    simp [hsz, hk]
   ·rw [getD_set_ne true (Ne.symm hkj), hmem k hk]
    simp [hkj]
def wpSt (P : Program) (ops : Array Oper) (S : World -> Prop) (L : Act -> Prop) : List Oper -> Act -> Prop
 | [], a => L a
 | o :: os, a => ∃ v, Steady P ops S o v a /\ wpSt P ops S L os (a.put o.dst v)
theorem lin_of_st {L : Act -> Prop} : ∀ (os : List Oper) (k : Nat) (a : Act), (∀ j, os[j]? = ops[k + j]?) -> wpSt P ops S L os a -> Lin P ops S L (List.range' k os.length) a := by
 intro os
 induction os with
 | nil => intro k a _ h; exact h
 | cons o os ih =>
  intro k a hj h
  obtain ⟨v, hy, h⟩ := h
  rw [List.length_cons, List.range'_succ]
  refine ⟨o, v, by have := hj 0; simpa using this.symm, hy, ih (k + 1) _ (fun j => ?_) h⟩
  have := hj (j + 1)
  rw [List.getElem?_cons_succ] at this
  rw [this, Nat.add_right_comm, Nat.add_assoc]
theorem wp_region_steady {id : Nat} {a : Act} {w : World} {l : List Oper} (S : World -> Prop) (hm : P.follows .mixedOrders = true) (hB : steadyB .any l.toArray = true) (hS : S w.drew)
  (h : wpSt P l.toArray S (fun a => ∀ w, S w -> Q .normal a w) l a) : (Code.region id l.toArray true).wp P Q a w := by
 refine wp_region_any hm (wpAny_of_lin hB _ (List.range' 0 l.length) _ a _ (by simp) (by simp) (fun j hj => ?_) (fun j hj => by simpa using hj) (List.pairwise_lt_range' ..) hS (lin_of_st l 0 a (fun j => by simp) h))
 simp at hj
 simp [hj]
theorem wpSt_nil {L : Act -> Prop} {a : Act} (h : L a) : wpSt P ops S L [] a := h
theorem wpSt_read {L : Act -> Prop} {o : Oper} {os : List Oper} {a : Act} {v : Value} (hw : Region.wanted o (yielded ops a.tmps) = true) (hy : ∀ w, S w -> (execOp a.eval o).run P w = .ok (.value v) w)
  (h : wpSt P ops S L os (a.put o.dst v)) : wpSt P ops S L (o :: os) a := ⟨v, .inl ⟨hw, fun w hS => by rw [hy w hS]; exact ⟨rfl, hS⟩⟩, h⟩
theorem wpSt_not {L : Act -> Prop} {o : Oper} {os : List Oper} {a : Act} (hw : Region.wanted o (yielded ops a.tmps) = false) (h : wpSt P ops S L os (a.put o.dst undef)) : wpSt P ops S L (o :: os) a :=
 ⟨undef, .inr ⟨hw, rfl⟩, h⟩
theorem wpSt_call {L : Act -> Prop} {o : Oper} {os : List Oper} {a : Act} {f : FuncId} {args : Array Value} {v : Value} (hw : Region.wanted o (yielded ops a.tmps) = true) (he : ∀ w, S w -> (execOp a.eval o).run P w = .ok (.enter f args) w)
  (hy : ∀ w, S w -> Calls P f args w fun e w' => e = .returned v /\ S w') (h : wpSt P ops S L os (a.put o.dst v)) : wpSt P ops S L (o :: os) a :=
 ⟨v, .inl ⟨hw, fun w hS => by rw [he w hS]; exact hy w hS⟩, h⟩
end
section
variable {P : Program} {ops : Array Oper} {md : Region.Mode} {S0 : World -> Prop} {hv fin fr : Nat -> Bool} {Q : Exit -> Act -> World -> Prop}
def RS (P : Program) (ops : Array Oper) (S0 : World -> Prop) (o : Oper) (v : Value) (a : Act) : Prop :=
 (Region.wanted o (yielded ops a.tmps) = true /\ ∀ w, S0 w -> (execOp a.eval o).run P w = .ok (.value v) w) \/ (Region.wanted o (yielded ops a.tmps) = false /\ v = undef)
def HRun (P : Program) (T : Value -> World -> Prop) : Result Next -> Prop
 | .ok (.value u) w' => T u w'
 | .ok .skip w' => T undef w'
 | .ok (.enter f args) w' => Calls P f args w' fun e w'' => ∃ v, e = .returned v /\ T v w''
 | _ => False
theorem HRun.some {T : Value -> World -> Prop} {r : Result Next} (h : HRun P T r) : ∃ v w, T v w := by
 cases r with
 | ok n w' =>
  cases n <;> simp only [HRun] at h
  case value u => exact ⟨u, w', h⟩
  case skip => exact ⟨_, w', h⟩
  case enter f args =>
   obtain ⟨e, w'', fr, ⟨v, _, ht⟩, _⟩ := h []
   exact ⟨v, w'', ht⟩
 | halt x w' => simp only [HRun] at h
def HS (P : Program) (ops : Array Oper) (S : World -> Prop) (o : Oper) (T : Value -> World -> Prop) (a : Act) : Prop :=
 Region.wanted o (yielded ops a.tmps) = true /\ ∀ w, S w -> HRun P T ((execOp a.eval o).run P w)
theorem RS.of_same {o : Oper} {v : Value} {a a' : Act} (hy : RS P ops S0 o v a) (he : execOp a'.eval o = execOp a.eval o)
  (hw : Region.wanted o (yielded ops a'.tmps) = Region.wanted o (yielded ops a.tmps)) : RS P ops S0 o v a' := by
 unfold RS at *
 rw [he, hw]
 exact hy
theorem RS.uniq {o : Oper} {v v' : Value} {a : Act} {w : World} (h : RS P ops S0 o v a) (h' : RS P ops S0 o v' a) (hw : S0 w) : v = v' := by
 rcases h with ⟨h1, h2⟩ | ⟨h1, rfl⟩ <;> rcases h' with ⟨h3, h4⟩ | ⟨h3, rfl⟩
 ·have := (h2 w hw).symm.trans (h4 w hw)
  injection this with this
  injection this
 ·rw [h1] at h3; cases h3
 ·rw [h1] at h3; cases h3
 ·rfl
theorem HS.of_same {S : World -> Prop} {o : Oper} {T : Value -> World -> Prop} {a a' : Act} (hy : HS P ops S o T a) (he : execOp a'.eval o = execOp a.eval o)
  (hw : Region.wanted o (yielded ops a'.tmps) = Region.wanted o (yielded ops a.tmps)) : HS P ops S o T a' := by
 unfold HS at *
 rw [he, hw]
 exact hy
def Lin2 (P : Program) (ops : Array Oper) (S0 : World -> Prop) (hv fin fr : Nat -> Bool) (L : Act -> World -> Prop) : (World -> Prop) -> List Nat -> Act -> Prop
  | S, [], a => ∀ w, S w -> L a w
  | S, i :: is, a => ∃ o, ops[i]? = some o /\
      ((∃ v, RS P ops (fun w => fr i = true \/ S0 w) o v a /\ Lin2 P ops S0 hv fin fr L S is (a.put o.dst v)) \/
       (hv i = true /\ ∃ T, HS P ops S o T a /\ (fin i = true \/ ∀ v w, T v w -> S0 w) /\ ∀ v, (∃ w, T v w) -> Lin2 P ops S0 hv fin fr L (T v) is (a.put o.dst v)))
theorem Lin2.pull {L : Act -> World -> Prop} (hsel : ∀ (j : Nat) (o : Oper) cs b, ops[j]? = some o -> o.op ≠ .select cs b) {j : Nat} :
    ∀ (is : List Nat) (S : World -> Prop) (a : Act), j ∈ is -> is.Pairwise (· < ·) -> (∀ i ∈ is, i < j -> ∀ oi oj, ops[i]? = some oi -> ops[j]? = some oj -> oi.apart ops oj = true) ->
      (∀ i ∈ is, i < j -> hv i = true -> hv j = false) -> (∀ i ∈ is, i < j -> fin i = false \/ fr j = true) -> (∃ w, S w) -> (∀ w, S w -> fr j = true \/ S0 w) -> Lin2 P ops S0 hv fin fr L S is a ->
      ∃ o, ops[j]? = some o /\ ((∃ v, RS P ops (fun w => fr j = true \/ S0 w) o v a /\ Lin2 P ops S0 hv fin fr L S (is.erase j) (a.put o.dst v)) \/
       (hv j = true /\ ∃ T, HS P ops S o T a /\ (fin j = true \/ ∀ v w, T v w -> S0 w) /\ ∀ v, (∃ w, T v w) -> Lin2 P ops S0 hv fin fr L (T v) (is.erase j) (a.put o.dst v))) := by
  intro is
  induction is with
  | nil => intro S a hj; cases hj
  | cons i is ih =>
    intro S a hj hp hap hhv hfin hS hSS H
    by_cases hij : i = j
    · subst hij
      rw [List.erase_cons_head]
      exact H
    · have hj' : j ∈ is := (List.mem_cons.1 hj).resolve_left (fun e => hij e.symm)
      obtain ⟨hlt, hp'⟩ := List.pairwise_cons.1 hp
      have hij' := hlt j hj'
      rw [List.erase_cons_tail (by simpa using hij)]
      obtain ⟨oi, hoi, H⟩ := H
      rcases H with ⟨vi, hyi, H⟩ | ⟨hh, T, hT, hT0, H⟩
      · obtain ⟨oj, hoj, H'⟩ := ih S _ hj' hp' (fun k hk => hap k (List.mem_cons_of_mem _ hk)) (fun k hk => hhv k (List.mem_cons_of_mem _ hk)) (fun k hk => hfin k (List.mem_cons_of_mem _ hk)) hS hSS H
        obtain ⟨h1, h2, h3⟩ := Oper.apart_spec (hap i List.mem_cons_self hij' oi oj hoi hoj)
        refine ⟨oj, hoj, ?_⟩
        rcases H' with ⟨vj, hyj, H'⟩ | ⟨hhj, T, hT, hT0, H'⟩
        · refine .inl ⟨vj, hyj.of_same (execOp_put oj (fun cs b => hsel j oj cs b hoj) a oi.dst vi h1).symm (wanted_put oj a oi.dst vi h1).symm, oi, hoi, .inl ⟨vi, hyi.of_same (execOp_put oi (fun cs b => hsel i oi cs b hoi) a oj.dst vj h3) (wanted_put oi a oj.dst vj h3), ?_⟩⟩
          rw [<- Act.put_comm a vi vj h2]
          exact H'
        · refine .inr ⟨hhj, T, hT.of_same (execOp_put oj (fun cs b => hsel j oj cs b hoj) a oi.dst vi h1).symm (wanted_put oj a oi.dst vi h1).symm, hT0, fun v hv => ?_⟩
          refine ⟨oi, hoi, .inl ⟨vi, hyi.of_same (execOp_put oi (fun cs b => hsel i oi cs b hoi) a oj.dst v h3) (wanted_put oi a oj.dst v h3), ?_⟩⟩
          rw [<- Act.put_comm a vi v h2]
          exact H' v hv
      · have hjn : hv j = false := hhv i List.mem_cons_self hij' hh
        have hT1 : ∀ v w, T v w -> fr j = true \/ S0 w := by
          rcases hT0 with h | h
          · rcases hfin i List.mem_cons_self hij' with h1 | h1
            · rw [h1] at h; cases h
            · exact fun _ _ _ => .inl h1
          · exact fun v w hw => .inr (h v w hw)
        obtain ⟨w0, hw0⟩ := hS
        obtain ⟨v0, w1, ht0⟩ := (hT.2 w0 hw0).some
        have key : ∀ v, (∃ w, T v w) -> ∃ oj vj, ops[j]? = some oj /\ RS P ops (fun w => fr j = true \/ S0 w) oj vj a /\ oi.apart ops oj = true /\ Lin2 P ops S0 hv fin fr L (T v) (is.erase j) ((a.put oi.dst v).put oj.dst vj) := by
          intro v hv'
          obtain ⟨oj, hoj, H'⟩ := ih (T v) _ hj' hp' (fun k hk => hap k (List.mem_cons_of_mem _ hk)) (fun k hk => hhv k (List.mem_cons_of_mem _ hk)) (fun k hk => hfin k (List.mem_cons_of_mem _ hk)) hv' (fun w h => hT1 v w h) (H v hv')
          have hapj := hap i List.mem_cons_self hij' oi oj hoi hoj
          obtain ⟨h1, h2, h3⟩ := Oper.apart_spec hapj
          rcases H' with ⟨vj, hyj, H'⟩ | ⟨hhj, _⟩
          · exact ⟨oj, vj, hoj, hyj.of_same (execOp_put oj (fun cs b => hsel j oj cs b hoj) a oi.dst v h1).symm (wanted_put oj a oi.dst v h1).symm, hapj, H'⟩
          · rw [hjn] at hhj; cases hhj
        obtain ⟨oj, vj, hoj, hyj, hapj, _⟩ := key v0 ⟨w1, ht0⟩
        obtain ⟨h1, h2, h3⟩ := Oper.apart_spec hapj
        refine ⟨oj, hoj, .inl ⟨vj, hyj, oi, hoi, .inr ⟨hh, T, hT.of_same (execOp_put oi (fun cs b => hsel i oi cs b hoi) a oj.dst vj h3) (wanted_put oi a oj.dst vj h3), hT0, fun v hv' => ?_⟩⟩⟩
        obtain ⟨oj', vj', hoj', hyj', _, H'⟩ := key v hv'
        have e1 : oj' = oj := Option.some.inj (hoj'.symm.trans hoj)
        subst e1
        have e2 : vj' = vj := hyj'.uniq hyj (hSS w0 hw0)
        subst e2
        rw [<- Act.put_comm a v vj' h2]
        exact H'
def reachB (md : Region.Mode) (ops : Array Oper) (i : Nat) : Nat -> Nat -> Bool
 | 0, _ => false
 | f + 1, j => match ops[j]? with
  | none => false
  | some oj => oj.after.any fun e => Region.binds md e && (e.on == i || reachB md ops i f e.on)
def linB (md : Region.Mode) (ops : Array Oper) (hv fin fr : Nat -> Bool) : Bool :=
 steadyB md ops && (List.range ops.size).all fun j => (List.range j).all fun i =>
  (!(hv i && hv j) || reachB md ops i ops.size j) && (!(fin i) || fr j) && (!(fin j) || reachB md ops i ops.size j || fr i)
def ClosedL (md : Region.Mode) (ops : Array Oper) (listed : Array Bool) : Prop := ∀ j oj, ops[j]? = some oj -> listed.getD j false = true -> ∀ e ∈ oj.after, Region.binds md e = true -> listed.getD e.on false = true
theorem reach_listed {listed : Array Bool} (hc : ClosedL md ops listed) {i : Nat} : ∀ (f j : Nat) oj, ops[j]? = some oj -> (∀ e ∈ oj.after, Region.binds md e = true -> listed.getD e.on false = true) -> reachB md ops i f j = true -> listed.getD i false = true := by
 intro f
 induction f with
 | zero => intro j oj _ _ h; cases h
 | succ f ih =>
  intro j oj hoj hall h
  simp only [reachB, hoj] at h
  obtain ⟨e, he, hb⟩ := Array.any_eq_true'.1 h
  rw [Bool.and_eq_true, Bool.or_eq_true, beq_iff_eq] at hb
  rcases hb.2 with h1 | h1
  ·rw [<- h1]; exact hall e he hb.1
  ·have hl := hall e he hb.1
   cases ho : ops[e.on]? with
   | none =>
    cases f with
    | zero => cases h1
    | succ f => simp only [reachB, ho] at h1; cases h1
   | some o' => exact ih e.on o' ho (hc e.on o' ho hl) h1
theorem linB_spec (h : linB md ops hv fin fr = true) : steadyB md ops = true /\ ∀ i j oj, i < j -> ops[j]? = some oj -> (hv i = true -> hv j = true -> reachB md ops i ops.size j = true) /\ (fin i = false \/ fr j = true) /\ (fin j = true -> reachB md ops i ops.size j = true \/ fr i = true) := by
 unfold linB at h
 rw [Bool.and_eq_true] at h
 refine ⟨h.1, fun i j oj hij hj => ?_⟩
 have h1 := List.all_eq_true.1 (List.all_eq_true.1 h.2 j (List.mem_range.2 (Array.getElem?_eq_some_iff.1 hj).1)) i (List.mem_range.2 hij)
 simp only [hj, Bool.and_eq_true, Bool.or_eq_true, Bool.not_eq_true', Bool.and_eq_false_iff] at h1
 obtain ⟨⟨h2, h3⟩, h4⟩ := h1
 refine ⟨fun a b => ?_, h3, fun hf => ?_⟩
 ·rcases h2 with (h2 | h2) | h2
  ·rw [a] at h2; cases h2
  ·rw [b] at h2; cases h2
  ·exact h2
 ·rcases h4 with (h4 | h4) | h4
  ·rw [hf] at h4; cases h4
  ·exact .inl h4
  ·exact .inr h4
theorem wpAny_of_lin2 (hB : linB md ops hv fin fr = true) : ∀ (fuel : Nat) (S : World -> Prop) (is : List Nat) (listed : Array Bool) (a : Act) (w : World), is.length <= fuel -> listed.size = ops.size ->
  (∀ j, j < ops.size -> (listed.getD j true = false ↔ j ∈ is)) -> (∀ j ∈ is, j < ops.size) -> is.Pairwise (· < ·) -> ClosedL md ops listed -> ((∀ i ∈ is, fr i = true) \/ ∀ w, S w -> S0 w) -> S w -> Lin2 P ops S0 hv fin fr (Q .normal) S is a -> wpAny P md ops Q fuel listed a w := by
 obtain ⟨hB1, hB2⟩ := linB_spec hB
 obtain ⟨hsel, hlt, hap⟩ := steadyB_spec hB1
 intro fuel
 have hnil : ∀ (is : List Nat) (listed : Array Bool), listed.size = ops.size -> (∀ j, j < ops.size -> (listed.getD j true = false ↔ j ∈ is)) -> (∀ j ∈ is, j < ops.size) -> is.Pairwise (· < ·) -> Region.ready md ops listed = [] -> is = [] := by
  intro is listed hsz hmem hin hp hr
  cases is with
  | nil => rfl
  | cons i is =>
   exfalso
   have hi := hin i List.mem_cons_self
   have : i ∈ Region.ready md ops listed := by
    refine mem_ready.2 ⟨(hmem i hi).2 List.mem_cons_self, ops[i], Array.getElem?_eq_getElem hi, fun e he hb => ?_⟩
    have h1 := hlt i _ (Array.getElem?_eq_getElem hi) e he hb
    cases h2 : listed.getD e.on false with
    | true => rfl
    | false =>
     have h3 := (hmem e.on (by omega)).1 (getD_in (by omega) h2)
     rcases List.mem_cons.1 h3 with h3 | h3
     ·omega
     ·have := (List.pairwise_cons.1 hp).1 _ h3; omega
   rw [hr] at this
   cases this
 induction fuel with
 | zero =>
  intro S is listed a w hf hsz hmem hin hp hcl hS0 hS H
  have e : is = [] := List.eq_nil_of_length_eq_zero (by omega)
  subst e
  refine ⟨?_, H w hS⟩
  rw [List.eq_nil_iff_forall_not_mem]
  intro j hj
  obtain ⟨h1, o, ho, _⟩ := mem_ready.1 hj
  have := (hmem j (Array.getElem?_eq_some_iff.1 ho).1).1 h1
  cases this
 | succ fuel ih =>
  intro S is listed a w hf hsz hmem hin hp hcl hS0 hS H
  refine ⟨fun hr => ?_, fun j hj => ?_⟩
  ·have e := hnil is listed hsz hmem hin hp hr
   subst e
   exact H w hS
  ·obtain ⟨h1, oj, hoj, hall⟩ := mem_ready.1 hj
   have hjs := (Array.getElem?_eq_some_iff.1 hoj).1
   have hji := (hmem j hjs).1 h1
   have hSS : ∀ w, S w -> fr j = true \/ S0 w := by
    rcases hS0 with h | h
    ·exact fun _ _ => .inl (h j hji)
    ·exact fun w hw => .inr (h w hw)
   have hS1 : (∀ i ∈ is.erase j, fr i = true) \/ ∀ w, S w -> S0 w := hS0.imp (fun h k hk => h k (List.mem_of_mem_erase hk)) id
   have hno : ∀ i ∈ is, listed.getD i false ≠ true := by
    intro i hi h2
    have h3 := (hmem i (hin i hi)).2 hi
    rw [getD_both h3] at h2
    cases h2
   obtain ⟨o, ho, H'⟩ := Lin2.pull (Region.noSelect_spec hsel) is S a hji hp (fun i hi hij oi oj' hoi hoj' => by
    refine hap i j oi oj' hij hoi hoj' (fun e he hb heq => ?_)
    have : oj' = oj := Option.some.inj (hoj'.symm.trans hoj)
    subst this
    have h2 := hall e he hb
    rw [heq] at h2
    exact hno i hi h2)
    (fun i hi hij h2 => by
     cases h3 : hv j with
     | false => rfl
     | true =>
      exfalso
      exact hno i hi (reach_listed hcl _ j oj hoj hall ((hB2 i j oj hij hoj).1 h2 h3)))
    (fun i hi hij => (hB2 i j oj hij hoj).2.1) ⟨w, hS⟩ hSS H
   have e1 : o = oj := Option.some.inj (ho.symm.trans hoj)
   subst e1
   have hnd : is.Nodup := hp.imp (fun h => Nat.ne_of_lt h)
   have hcl' : ClosedL md ops (listed.setIfInBounds j true) := by
    intro k ok hok hk e he hb
    have hkey : listed.getD e.on false = true := by
     by_cases hkj : k = j
     ·subst hkj
      have : ok = o := Option.some.inj (hok.symm.trans hoj)
      subst this
      exact hall e he hb
     ·rw [getD_set_ne false (Ne.symm hkj)] at hk
      exact hcl k ok hok hk e he hb
    by_cases hej : e.on = j
    ·rw [hej]
     simp [hsz, hjs]
    ·rw [getD_set_ne false (Ne.symm hej)]
     exact hkey
   have hmem' : ∀ k, k < ops.size -> ((listed.setIfInBounds j true).getD k true = false ↔ k ∈ is.erase j) := by
    intro k hk
    rw [hnd.mem_erase_iff]
    by_cases hkj : k = j
    ·subst hkj
     simp [hsz, hk]
    ·rw [getD_set_ne true (Ne.symm hkj), hmem k hk]
     simp [hkj]
   have go := fun (S' : World -> Prop) (a' : Act) (w' : World) (h0 : (∀ i ∈ is.erase j, fr i = true) \/ ∀ w, S' w -> S0 w) (hS' : S' w') (HH : Lin2 P ops S0 hv fin fr (Q .normal) S' (is.erase j) a') =>
    ih S' (is.erase j) (listed.setIfInBounds j true) a' w' (by rw [List.length_erase_of_mem hji]; omega) (by simpa using hsz) hmem' (fun k hk => hin k (List.mem_of_mem_erase hk)) (hp.sublist List.erase_sublist) hcl' h0 hS' HH
   unfold Go.wpOp
   simp only [hoj]
   rcases H' with ⟨v, hy, H'⟩ | ⟨hhj, T, ⟨hw, hT⟩, hT0, H'⟩
   ·rcases hy with ⟨hw, hr⟩ | ⟨hw, rfl⟩
    ·simp only [hw, if_true]
     refine .inl ?_
     unfold Oper.wp
     rw [hr w (hSS w hS)]
     exact go S _ w hS1 hS H'
    ·simp only [hw, Bool.false_eq_true, if_false]
     exact go S _ w hS1 hS H'
   ·simp only [hw, if_true]
    refine .inl ?_
    have hfinL : ∀ v, (∀ k ∈ is.erase j, fr k = true) \/ ∀ w, T v w -> S0 w := by
     intro v
     rcases hT0 with hf' | hf'
     ·refine .inl ?_
      intro k hk
      obtain ⟨hkj, hk'⟩ := hnd.mem_erase_iff.1 hk
      rcases Nat.lt_or_ge k j with h2 | h2
      ·rcases (hB2 k j o h2 hoj).2.2 hf' with h3 | h3
       ·exact absurd (reach_listed hcl _ j o hoj hall h3) (hno k hk')
       ·exact h3
      ·have h3 : j < k := by omega
       have hks := hin k hk'
       rcases (hB2 j k ops[k] h3 (Array.getElem?_eq_getElem hks)).2.1 with h4 | h4
       ·rw [hf'] at h4
        cases h4
       ·exact h4
     ·exact .inr (hf' v)
    have h2 := hT w hS
    unfold Oper.wp
    generalize (execOp a.eval o).run P w = r at *
    cases r with
    | ok n w' =>
     cases n <;> simp only [HRun] at h2 <;> simp only [Oper.upon]
     case value u => exact go (T u) _ w' (hfinL u) h2 (H' u ⟨w', h2⟩)
     case skip => exact go (T undef) _ w' (hfinL undef) h2 (H' undef ⟨w', h2⟩)
     case enter f args =>
      refine Calls.mono h2 fun e w'' he => ?_
      obtain ⟨v, rfl, ht⟩ := he
      exact go (T v) _ w'' (hfinL v) ht (H' v ⟨w'', ht⟩)
    | halt x w' => simp only [HRun] at h2
def wpL (P : Program) (ops : Array Oper) (S0 : World -> Prop) (hv fin fr : Nat -> Bool) (L : Act -> World -> Prop) : Nat -> (World -> Prop) -> List Oper -> Act -> Prop
  | _, S, [], a => ∀ w, S w -> L a w
  | k, S, o :: os, a => (∃ v, RS P ops (fun w => fr k = true \/ S0 w) o v a /\ wpL P ops S0 hv fin fr L (k + 1) S os (a.put o.dst v)) \/
      (hv k = true /\ ∃ T, HS P ops S o T a /\ (fin k = true \/ ∀ v w, T v w -> S0 w) /\ ∀ v, (∃ w, T v w) -> wpL P ops S0 hv fin fr L (k + 1) (T v) os (a.put o.dst v))
theorem lin2_of_l {L : Act -> World -> Prop} : ∀ (os : List Oper) (k : Nat) (S : World -> Prop) (a : Act), (∀ j, os[j]? = ops[k + j]?) -> wpL P ops S0 hv fin fr L k S os a -> Lin2 P ops S0 hv fin fr L S (List.range' k os.length) a := by
 intro os
 induction os with
 | nil => intro k S a _ h; exact h
 | cons o os ih =>
  intro k S a hj h
  rw [List.length_cons, List.range'_succ]
  have hj' : ∀ j, os[j]? = ops[k + 1 + j]? := fun j => by
   have := hj (j + 1)
   rw [List.getElem?_cons_succ] at this
   rw [this, Nat.add_right_comm, Nat.add_assoc]
  refine ⟨o, by have := hj 0; simpa using this.symm, ?_⟩
  rcases h with ⟨v, hy, h⟩ | ⟨hh, T, hT, hT0, h⟩
  ·exact .inl ⟨v, hy, ih (k + 1) S _ hj' h⟩
  ·exact .inr ⟨hh, T, hT, hT0, fun v hv' => ih (k + 1) (T v) _ hj' (h v hv')⟩
theorem wp_region_lin {id : Nat} {a : Act} {w : World} {l : List Oper} (S0 S : World -> Prop) (hv fin fr : Nat -> Bool) (hm : P.follows .mixedOrders = true) (hB : linB .any l.toArray hv fin fr = true) (hS : S w.drew) (hSS : ∀ w, S w -> S0 w)
  (h : wpL P l.toArray S0 hv fin fr (Q .normal) 0 S l a) : (Code.region id l.toArray true).wp P Q a w := by
 refine wp_region_any hm (wpAny_of_lin2 hB _ S (List.range' 0 l.length) _ a _ (by simp) (by simp) (fun j hj => ?_) (fun j hj => by simpa using hj) (List.pairwise_lt_range' ..) (fun j oj hj hl => ?_) (.inr hSS) hS (lin2_of_l l 0 S a (fun j => by simp) h))
 ·simp at hj
  simp [hj]
 ·exfalso
  rw [Array.getD_eq_getD_getElem?] at hl
  rw [Array.getElem?_replicate] at hl
  split at hl <;> simp at hl
theorem wpL_nil {L : Act -> World -> Prop} {k : Nat} {S : World -> Prop} {a : Act} (h : ∀ w, S w -> L a w) : wpL P ops S0 hv fin fr L k S [] a := h
theorem wpL_read {L : Act -> World -> Prop} {k : Nat} {S : World -> Prop} {o : Oper} {os : List Oper} {a : Act} {v : Value} (hf : fr k = false) (hw : Region.wanted o (yielded ops a.tmps) = true) (hy : ∀ w, S0 w -> (execOp a.eval o).run P w = .ok (.value v) w)
  (h : wpL P ops S0 hv fin fr L (k + 1) S os (a.put o.dst v)) : wpL P ops S0 hv fin fr L k S (o :: os) a := .inl ⟨v, .inl ⟨hw, fun w hh => hy w (hh.resolve_left (by rw [hf]; simp))⟩, h⟩
theorem wpL_free {L : Act -> World -> Prop} {k : Nat} {S : World -> Prop} {o : Oper} {os : List Oper} {a : Act} {v : Value} (hw : Region.wanted o (yielded ops a.tmps) = true) (hy : ∀ w, (execOp a.eval o).run P w = .ok (.value v) w)
  (h : wpL P ops S0 hv fin fr L (k + 1) S os (a.put o.dst v)) : wpL P ops S0 hv fin fr L k S (o :: os) a := .inl ⟨v, .inl ⟨hw, fun w _ => hy w⟩, h⟩
theorem wpL_not {L : Act -> World -> Prop} {k : Nat} {S : World -> Prop} {o : Oper} {os : List Oper} {a : Act} (hw : Region.wanted o (yielded ops a.tmps) = false) (h : wpL P ops S0 hv fin fr L (k + 1) S os (a.put o.dst undef)) : wpL P ops S0 hv fin fr L k S (o :: os) a :=
 .inl ⟨undef, .inr ⟨hw, rfl⟩, h⟩
theorem wpL_call {L : Act -> World -> Prop} {k : Nat} {S : World -> Prop} {o : Oper} {os : List Oper} {a : Act} {f : FuncId} {args : Array Value} (T : Value -> World -> Prop) (hk : hv k = true) (hw : Region.wanted o (yielded ops a.tmps) = true) (he : ∀ w, S w -> (execOp a.eval o).run P w = .ok (.enter f args) w)
  (hy : ∀ w, S w -> Calls P f args w fun e w' => ∃ v, e = .returned v /\ T v w') (h0 : fin k = true \/ ∀ v w, T v w -> S0 w) (h : ∀ v, (∃ w, T v w) -> wpL P ops S0 hv fin fr L (k + 1) (T v) os (a.put o.dst v)) : wpL P ops S0 hv fin fr L k S (o :: os) a :=
 .inr ⟨hk, T, ⟨hw, fun w hS => by rw [he w hS]; exact hy w hS⟩, h0, h⟩
theorem wpL_call1 {L : Act -> World -> Prop} {k : Nat} {S : World -> Prop} {o : Oper} {os : List Oper} {a : Act} {f : FuncId} {args : Array Value} {v : Value} (hk : hv k = true) (hw : Region.wanted o (yielded ops a.tmps) = true) (he : ∀ w, S w -> (execOp a.eval o).run P w = .ok (.enter f args) w)
  (hSS : ∀ w, S w -> S0 w) (hy : ∀ w, S w -> Calls P f args w fun e w' => e = .returned v /\ S w') (h : wpL P ops S0 hv fin fr L (k + 1) S os (a.put o.dst v)) : wpL P ops S0 hv fin fr L k S (o :: os) a :=
 .inr ⟨hk, fun u w => u = v /\ S w, ⟨hw, fun w hS => by
  rw [he w hS]
  exact Calls.mono (hy w hS) fun e w' ⟨h1, h2⟩ => ⟨v, h1, rfl, h2⟩⟩, .inr (fun u w h => hSS w h.2), fun u hu => by
   obtain ⟨w, rfl, _⟩ := hu
   have : (fun w => u = u /\ S w) = S := by funext w; simp
   dsimp only
   rw [this]
   exact h⟩
theorem wpL_heavy {L : Act -> World -> Prop} {k : Nat} {S : World -> Prop} {o : Oper} {os : List Oper} {a : Act} (T : Value -> World -> Prop) (hk : hv k = true) (hw : Region.wanted o (yielded ops a.tmps) = true) (hy : ∀ w, S w -> HRun P T ((execOp a.eval o).run P w))
  (h0 : fin k = true \/ ∀ v w, T v w -> S0 w) (h : ∀ v, (∃ w, T v w) -> wpL P ops S0 hv fin fr L (k + 1) (T v) os (a.put o.dst v)) : wpL P ops S0 hv fin fr L k S (o :: os) a :=
 .inr ⟨hk, T, ⟨hw, hy⟩, h0, h⟩
end
theorem hrun_append {P : Program} {T : Value -> World -> Prop} {o : Oper} {a : Act} {s x : Operand} {t : TypeId} {v sl v' : Value} {w w' : World}
  (ho : o.op = .call { callee := .builtin .append, args := #[s, x], argTypes := #[t, t] }) (hs : a.eval s = v) (hx : a.eval x = sl) (hr : (Builtin.append_ #[t, t] o.type #[v, sl]).run P w = .ok v' w') (hT : T v' w') : HRun P T ((execOp a.eval o).run P w) := by
 unfold execOp
 simp only [ho, resolve, invoke, builtin, Sem.run_bind, Sem.run_pure, Result.andThen_ok, List.map_toArray, List.map_cons, List.map_nil, hs, hx, hr]
 exact hT
theorem hrun_append_own {P : Program} {T : Value -> World -> Prop} {o : Oper} {a : Act} {s x : Operand} {w : World} (t : TypeId)
  (ho : o.op = .call { callee := .builtin .append, args := #[s, x], argTypes := #[t, t] })
  (base : Nat) (e : TypeId) (i : TypeInfo) (z : Value) (size bytes : Nat) (ht : P.underlying t = some (.slice e)) (hi : P.info? e = some i) (hz : i.zero = some z)
  (hsize : i.size = size) (hby : i.bytes = bytes) (hzs : z.cells.size = size) (hsz : 0 < size)
  (v : Value) (n : Nat) (xs : List Value) (hs : a.eval s = v) (hown : w.ownsRow base e size v n xs)
  (ad : Addr) (m c : Nat) (news : List Value) (hx : a.eval x = .slice (some ad) m c) (hl : news.length = m * size) (hnews : ∀ j u, news[j]? = some u -> w.cell? (ad.add j) = some u) (h1 : ∀ u ∈ news, u.oneCell' = true)
  (h63 : n + m <= maxLen) (hbytes : (n + m) * bytes <= 140737488355328) (hbase : base <= w.heap.size)
  (h : ∀ v' w', w'.ownsRow base e size v' (n + m) (xs ++ news) -> w.grownBy w' v.ownBlock -> (v' = .slice none 0 0 ↔ v = .slice none 0 0 /\ m = 0) -> (v'.ownBlock = v.ownBlock \/ v'.ownBlock = some w.heap.size) -> T v' w') : HRun P T ((execOp a.eval o).run P w) := by
 obtain ⟨v', w', hr, h2, h3, h4, h5⟩ := run_append_own_at (P := P) w base t o.type e i z size bytes ht hi hz hsize hby hzs hsz v n xs hown ad m c news hl hnews h1 h63 hbytes hbase
 exact hrun_append ho hs hx hr (h v' w' h2 h3 h4 h5)
end Go.Proofs.YtkoakanpaehkmaaGreatDoor
