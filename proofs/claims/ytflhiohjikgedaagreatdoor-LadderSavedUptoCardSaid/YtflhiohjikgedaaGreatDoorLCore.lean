/-
  What lies in memory while a text's atoms go by.
-/
import Derived.Test.YtflhiohjikgedaaGreatDoorLItems2
import Derived.Laws.EntriesVeiled
import Derived.Test.YtflhiohjikgedaaGreatDoorLText
set_option linter.unusedSimpArgs false
set_option linter.unusedVariables false
set_option maxRecDepth 100000
set_option maxHeartbeats 32000000
namespace Go.Proofs.YtflhiohjikgedaaGreatDoor
open Go.RowKit
theorem roundIn_anyDepth {F : Fence} (hd : F.depth = none) {m m' : Nat} {P : Program} {l : Nat} {f : FuncId} {tmps : Array Value} {assign body : Code} {w : World} {R : Ending -> World -> Prop}
  (h : RoundIn F m P l f tmps assign body w R) : RoundIn F m' P l f tmps assign body w R := ⟨h.1, fun c cs _ => h.2 c cs (fun d h => by rw [hd] at h; cases h)⟩
theorem yieldAt_anyDepth {F : Fence} (hd : F.depth = none) {m : Nat} (m' : Nat) {P : Program} {l : Nat} {args : Array Value} {W : World} {R : Ending -> World -> Prop} (h : YieldAt F m P l args W R) : YieldAt F m' P l args W R := by
 obtain ⟨fn, tmps, assign, body, hy, hR⟩ := h
 exact ⟨fn, tmps, assign, body, hy, roundIn_anyDepth hd hR⟩
def SeqPost (J Jx : List Pc -> World -> Prop) (xs : List Pc) (e : Ending) (W' : World) : Prop := (∃ v, e = .returned v) /\ (J xs W' \/ ∃ q, q <+: xs /\ Jx q W')
theorem items1_any (l : Nat) (G : Pc -> Prop) (J Jx : List Pc -> World -> Prop) (L : List Pc) (B1 B2 : Nat) (hJ : (∀ s W, J s W -> J s W.drew) /\ ∀ s W n, J s W -> J s (W.drewN n)) (hJa : ∀ s W o, J s W -> J s (W.alloc o)) (hY : YSpec l G J Jx L)
  (t : Tr) (a : Option Addr) (i : Int) (W : World) (hn : NodeAt W t a) (hG : ∀ p ∈ t.list, G p) (h1 : W.cell? ⟨B1, 0, none⟩ = some (.pointer a)) (h2 : W.cell? ⟨B2, 0, none⟩ = some (.int .i64 i)) (i0 : -2147483648 <= i) (i1 : i <= 2147483648)
  (hlen : t.list.length <= 1073741824) (hj : J [] W) (hN : t.list.drop i.toNat <+: L) :
  Calls Tryz.prog 73 #[.func (.yield l) #[] #[], .pointer (some ⟨B1, 0, none⟩), .pointer (some ⟨B2, 0, none⟩)] W fun e W' => SeqPost J Jx (t.list.drop i.toNat) e W' := by
 have hW : Below W.heap.size W ((W.alloc (.cells #[.func (.yield l) #[] #[]] 152)).alloc (.cells #[.func (.func 74) #[] #[.pointer (some ⟨W.heap.size + 1, 0, none⟩), .pointer (some ⟨W.heap.size, 0, none⟩)]] 153)) := balloc (balloc (Below.refl _ W))
 have b1 : Blk ((W.alloc (.cells #[.func (.yield l) #[] #[]] 152)).alloc (.cells #[.func (.func 74) #[] #[.pointer (some ⟨W.heap.size + 1, 0, none⟩), .pointer (some ⟨W.heap.size, 0, none⟩)]] 153)) (W.heap.size + 1) 153 #[.func (.func 74) #[] #[.pointer (some ⟨W.heap.size + 1, 0, none⟩), .pointer (some ⟨W.heap.size, 0, none⟩)]] := by
  have := Blk.new (W.alloc (.cells #[.func (.yield l) #[] #[]] 152)) 153 #[.func (.func 74) #[] #[.pointer (some ⟨W.heap.size + 1, 0, none⟩), .pointer (some ⟨W.heap.size, 0, none⟩)]]
  simpa only [World.size_alloc] using this
 have b2 : Blk ((W.alloc (.cells #[.func (.yield l) #[] #[]] 152)).alloc (.cells #[.func (.func 74) #[] #[.pointer (some ⟨W.heap.size + 1, 0, none⟩), .pointer (some ⟨W.heap.size, 0, none⟩)]] 153)) W.heap.size 152 #[.func (.yield l) #[] #[]] := (Blk.new W _ _).alloc _
 have hjj := hJa _ _ (.cells #[.func (.func 74) #[] #[.pointer (some ⟨W.heap.size + 1, 0, none⟩), .pointer (some ⟨W.heap.size, 0, none⟩)]] 153) (hJa _ _ (.cells #[.func (.yield l) #[] #[]] 152) hj)
 have hc := items2_any l G J Jx L (W.heap.size + 1) W.heap.size hJ hY t a (max 0 i) [] _ (NodeAt.below hW _ _ hn) hG b1 b2 (by omega) (by omega) hlen hjj (by rw [show (max 0 i).toNat = i.toNat by omega, List.nil_append]; exact hN)
 rw [show (max 0 i).toNat = i.toNat by omega] at hc
 obtain ⟨ys, hys⟩ : ∃ ys, t.list.drop i.toNat = ys := ⟨_, rfl⟩
 rw [hys] at hc ⊢
 have l1 := lt_of_cell h1
 have l2 := lt_of_cell h2
 have he := Tryz.call74
 by_cases h0 : 0 < i
 all_goals
  first
   | rw [show max 0 i = i by omega] at hc
   | rw [show max 0 i = 0 by omega] at hc
  have HC := Lib.hid hc
  clear hc hjj b1 b2 hW hJ hJa hY hys
  go_enter Tryz.func73, Tryz.ntmps73
  go_wp2_with fail
  refine (HC.out).mono ?_
  rintro e w1 ⟨b, rfl, hyp⟩
  go_wp2_with fail
  go_end0
  refine ⟨⟨_, rfl⟩, ?_⟩
  cases b
  ·exact .inr (hyp.2 rfl)
  ·exact .inl (hyp.1 rfl).1
theorem items_any (a : Option Addr) (i : Int) (w : World) :
  Calls Tryz.prog 44 #[.agg #[.pointer a], .int .i64 i] w fun e w' =>
   e = .returned (.func (.func 73) #[] #[.pointer (some ⟨w.heap.size, 0, none⟩), .pointer (some ⟨w.heap.size + 1, 0, none⟩)]) /\
   (w.alloc (.cells #[.pointer a] 86)).alloc (.cells #[.int .i64 i] 3) = w' := by
 go_enter Tryz.func44, Tryz.ntmps44
 go_wp2_with fail
 go_ret
 exact ⟨rfl, rfl⟩
theorem items_stops (G : Pc -> Prop) (n : Nat) (B1 B2 : Nat) (t : Tr) (a : Option Addr) (i : Int) (w : World) (hn : NodeAt w t a) (hG : ∀ p ∈ t.list, G p) (h1 : w.cell? ⟨B1, 0, none⟩ = some (.pointer a)) (h2 : w.cell? ⟨B2, 0, none⟩ = some (.int .i64 i))
    (i0 : -2147483648 <= i) (i1 : i <= 2147483648) (hlen : t.list.length <= 1073741824) :
    SeqStopsK Fence.wide n Tryz.prog 73 #[.pointer (some ⟨B1, 0, none⟩), .pointer (some ⟨B2, 0, none⟩)] (fun x : { p : Pc // G p } => #[.agg x.1.cells]) KT
      (fun xs => xs.map Subtype.val = t.list.drop i.toNat) (fun pre => pre.map Subtype.val <+: t.list.drop i.toNat) (t.list.drop i.toNat).length w := by
  intro l J Jx W hW hJ hJx hY h0
  refine callsIn_wide.2 ?_
  have hJJ : (∀ (s : List Pc) W', (∃ l' : List { p : Pc // G p }, l'.map Subtype.val = s /\ J l' W') -> ∃ l' : List { p : Pc // G p }, l'.map Subtype.val = s /\ J l' W'.drew) /\
      ∀ (s : List Pc) W' (k : Nat), (∃ l' : List { p : Pc // G p }, l'.map Subtype.val = s /\ J l' W') -> ∃ l' : List { p : Pc // G p }, l'.map Subtype.val = s /\ J l' (W'.drewN k) :=
    ⟨fun s W' ⟨l', e, hj⟩ => ⟨l', e, hJ l' W' _ none hj ⟨rfl, rfl, rfl, Nat.le_refl _, fun _ _ _ => rfl⟩ (fun r e => by cases e)⟩,
     fun s W' k ⟨l', e, hj⟩ => ⟨l', e, hJ l' W' _ none hj ⟨rfl, rfl, rfl, Nat.le_refl _, fun _ _ _ => rfl⟩ (fun r e => by cases e)⟩⟩
  have hc := items1_any l G (fun s W' => ∃ l' : List { p : Pc // G p }, l'.map Subtype.val = s /\ J l' W') (fun s W' => ∃ l' : List { p : Pc // G p }, l'.map Subtype.val = s /\ Jx l' W') (t.list.drop i.toNat) B1 B2 hJJ
    (fun s W' o ⟨l', e, hj⟩ => ⟨l', e, hJ l' W' _ none hj (World.grownBy_alloc W' o none) (fun r e => by cases e)⟩)
    (fun m pre x W1 hx ⟨l', e, hj⟩ hlen' => by
      have hl : l'.length = pre.length := by rw [<- e, List.length_map]
      refine (yieldAt_anyDepth rfl m (hY l' ⟨x, hx⟩ W1 hj (by have := hlen'.length_le; simp only [List.length_append, List.length_singleton] at this; omega))).mono ?_
      rintro e2 W2 (⟨h1, h2, h3⟩ | ⟨h1, h2⟩)
      · exact .inl ⟨h1, ⟨l' ++ [⟨x, hx⟩], by rw [List.map_append, e]; rfl, h2⟩, h3⟩
      · exact .inr ⟨h1, ⟨l' ++ [⟨x, hx⟩], by rw [List.map_append, e]; rfl, h2⟩⟩)
    t a i W (NodeAt.below hW t a hn) hG ((hW.cell (lt_of_cell h1)).trans h1) ((hW.cell (lt_of_cell h2)).trans h2) i0 i1 hlen ⟨[], rfl, h0⟩ (List.prefix_refl _)
  refine hc.mono ?_
  rintro e W' ⟨hv, (⟨l', e', hj⟩ | ⟨q, hq, l', e', hj⟩)⟩
  · exact ⟨hv, .inl ⟨l', e', hj⟩⟩
  · exact ⟨hv, .inr ⟨l', by show l'.map Subtype.val <+: _; rw [e']; exact hq, hj⟩⟩
def tagF (tag : Int) : Int -> List (Int × Int) -> List (Int × Int)
 | _, [] => []
 | off, d :: r => (d.1, if tag < 0 then -1 else tag + off) :: tagF tag (off + d.2) r
theorem tagF_fst (tag : Int) (ds : List (Int × Int)) : ∀ off, (tagF tag off ds).map Prod.fst = ds.map Prod.fst := by
 induction ds with
 | nil => intro off; rfl
 | cons d ds ih => intro off; simp only [tagF, List.map_cons, ih]
theorem tagF_len (tag off : Int) (ds : List (Int × Int)) : (tagF tag off ds).length = ds.length := by
 have := congrArg List.length (tagF_fst tag ds off)
 simpa using this
def atsP (enc : Int) (p : Pc) : List (Int × Int) := tagF p.tag 0 (dec enc p.bytes)
def atsL (enc : Int) (ps : List Pc) : List (Int × Int) := ps.flatMap (atsP enc)
theorem atsL_app (enc : Int) (a b : List Pc) : atsL enc (a ++ b) = atsL enc a ++ atsL enc b := by unfold atsL; rw [List.flatMap_append]
theorem atsL_one (enc : Int) (a : Pc) : atsL enc [a] = atsP enc a := by simp [atsL]
theorem atsL_fst (enc : Int) (ps : List Pc) : (atsL enc ps).map Prod.fst = (decL enc ps).map Prod.fst := by
 induction ps with
 | nil => rfl
 | cons p ps ih =>
  rw [decL_cons, List.map_append, <- ih]
  show (atsP enc p ++ atsL enc ps).map Prod.fst = _
  rw [List.map_append]
  unfold atsP
  rw [tagF_fst]
theorem atsL_len (enc : Int) (ps : List Pc) : (atsL enc ps).length = (decL enc ps).length := by
 have := congrArg List.length (atsL_fst enc ps)
 simpa using this
def feed {σ : Type} (step : σ -> Int -> Int -> σ) : Nat -> Nat -> σ -> List (Int × Int) -> Bool × Nat × Nat × σ
 | n, left, s, [] => (false, n, left, s)
 | n + 1, left, s, _ :: r => feed step n left s r
 | 0, left, s, a :: r => if left <= 1 then (true, 0, 0, step s a.1 a.2) else feed step 0 (left - 1) (step s a.1 a.2) r
section
variable {σ : Type} {step : σ -> Int -> Int -> σ}
theorem feed_app (xs ys : List (Int × Int)) : ∀ (n left : Nat) (s : σ), feed step n left s (xs ++ ys) = if (feed step n left s xs).1 = true then feed step n left s xs else feed step (feed step n left s xs).2.1 (feed step n left s xs).2.2.1 (feed step n left s xs).2.2.2 ys := by
 induction xs with
 | nil => intro n left s; simp [feed]
 | cons a xs ih =>
  intro n left s
  cases n with
  | succ n => simp only [List.cons_append, feed]; exact ih n left s
  | zero =>
   simp only [List.cons_append, feed]
   split
   ·simp
   ·exact ih 0 (left - 1) _
theorem feed_val (xs : List (Int × Int)) : ∀ (n left : Nat) (s : σ), 1 <= left -> (feed step n left s xs).2.2.2 = ((xs.drop n).take left).foldl (fun s a => step s a.1 a.2) s := by
 induction xs with
 | nil => intro n left s _; simp [feed]
 | cons a xs ih =>
  intro n left s hl
  cases n with
  | succ n => simp only [feed, List.drop_succ_cons]; exact ih n left s hl
  | zero =>
   simp only [feed, List.drop_zero]
   split
   ·rw [show left = 1 by omega]; simp
   ·rw [show left = (left - 1) + 1 by omega, List.take_succ_cons, List.foldl_cons, Nat.add_sub_cancel]
    have := ih 0 (left - 1) (step s a.1 a.2) (by omega)
    simpa using this
theorem feed_stop (xs ys : List (Int × Int)) (n left : Nat) (s : σ) (h : (feed step n left s xs).1 = true) : feed step n left s (xs ++ ys) = feed step n left s xs := by
 rw [feed_app, if_pos h]
theorem feed_go (xs ys : List (Int × Int)) (n left n' left' : Nat) (s s' : σ) (h : feed step n left s xs = (false, n', left', s')) : feed step n left s (xs ++ ys) = feed step n' left' s' ys := by
 rw [feed_app, h]
 simp
end
def seg {α : Type} (f t : Int) (l : List α) : List α := (l.drop f.toNat).take (t.toNat - f.toNat)
theorem seg_map {α β : Type} (f t : Int) (l : List α) (h : α -> β) : (seg f t l).map h = seg f t (l.map h) := by unfold seg; rw [List.map_take, List.map_drop]
structure Sees (F : FuncId) (caps : Array Value) {σ : Type} (J : σ -> (Nat -> Prop) -> World -> Prop) (step : σ -> Int -> Int -> σ) (size : σ -> Nat) : Prop where
 rises : ∀ s a g, size (step s a g) <= size s + 1
 call : ∀ s X a g w, J s X w -> size s <= 2147483648 -> Calls Tryz.prog F (#[.int .i64 a, .int .i64 g] ++ caps) w fun e w' => e = .returned (.tuple #[]) /\ (∃ X', J (step s a g) X' w' /\ ∀ b, X' b -> X b \/ w.heap.size <= b) /\ Fr X w w'
 enter : ∀ args w, (callFunc F args).run Tryz.prog w = .ok (.enter F args) w
 kind : ∀ s X w b, J s X w -> X b -> ∃ cs T, Blk w b T cs /\ (T = 3 \/ T = 43)
 keep : ∀ s X w w', J s X w -> (∀ b, X b -> w'.heap[b]? = w.heap[b]?) -> J s X w'
def SeenPost {σ : Type} (J : σ -> (Nat -> Prop) -> World -> Prop) (s : σ) (X : Nat -> Prop) (w : World) (e : Ending) (w' : World) : Prop := e = .returned (.tuple #[]) /\ (∃ X', J s X' w' /\ ∀ b, X' b -> X b \/ w.heap.size <= b) /\ Fr X w w'
theorem ret_v {k : IntKind} {a b : Int} (h : a = b) : Value.int k a = .int k b := by rw [h]
structure Core {σ : Type} (J : σ -> (Nat -> Prop) -> World -> Prop) (X0 : Nat -> Prop) (w : World) (m2 g : Nat) (tc : Array Value) (fv : Value) (Bn : Nat) (n left : Nat) (s : σ) (X : Nat -> Prop) (wr : World) : Prop where
 j : J s X wr
 xs : ∀ b, X b -> X0 b \/ m2 <= b
 fr : Fr X0 w wr
 sz : m2 <= wr.heap.size
 b4 : Blk wr w.heap.size 39 #[.pointer (some ⟨g, 0, none⟩)]
 b7 : Blk wr (w.heap.size + 1) 111 #[fv]
 bn : Blk wr Bn 3 #[.int .i64 (n : Int)]
 bl : Blk wr (Bn + 1) 3 #[.int .i64 (left : Int)]
 tx : Blk wr g 88 tc
structure CoreOk (X0 : Nat -> Prop) (w : World) (m2 g : Nat) (Bn : Nat) : Prop where
 x0 : ∀ b, X0 b -> b < w.heap.size
 h1 : w.heap.size + 1 < Bn
 h2 : Bn + 1 < m2
def Rel (m2 : Nat) (W wr : World) : Prop := KeepsFrom m2 W wr /\ KT W wr
theorem Rel.refl (m2 : Nat) (W : World) : Rel m2 W W := ⟨KeepsFrom.refl _ _, KT.refl _⟩
theorem Rel.trans {m2 : Nat} {a b c : World} (h : Rel m2 a b) (k : Rel m2 b c) : Rel m2 a c := ⟨h.1.trans k.1, h.2.trans k.2⟩
theorem Rel.below {m2 : Nat} {W W' : World} (h : Below W.heap.size W W') : Rel m2 W W' :=
 ⟨⟨h.size, fun k o _ hk _ => (h.block k (Array.getElem?_eq_some_iff.1 hk).1).trans hk⟩, KT.below h⟩
theorem Rel.setInt {m2 : Nat} {W : World} {B : Nat} {cs : Array Value} (h : Blk W B 3 cs) (v : Value) : Rel m2 W (W.setCell ⟨B, 0, none⟩ v) :=
 ⟨(KeepsOthers.setCell W _ v).from _, by simp [World.setCell], fun b c T h1 hb => hb.far (fun e => Blk.ne_ hb h (h1.ne (by decide)) e) v⟩
section
variable {σ : Type} {F : FuncId} {caps : Array Value} {J : σ -> (Nat -> Prop) -> World -> Prop} {step : σ -> Int -> Int -> σ} {size : σ -> Nat} {X0 X : Nat -> Prop} {w wr w' : World} {m2 g Bn n left : Nat} {tc : Array Value} {fv : Value} {s s' : σ}
theorem Sees.no (hS : Sees F caps J step size) (hj : J s X wr) {b : Nat} {T : TypeId} {cs : Array Value} (hb : Blk wr b T cs) (h1 : T ≠ 3) (h2 : T ≠ 43) : ¬ X b := by
 intro hx
 obtain ⟨cs', T', hb', hT⟩ := hS.kind s X wr b hj hx
 have e : T = T' := by
  unfold Blk at hb hb'
  rw [hb] at hb'
  injection hb' with hb'
  injection hb'
 rcases hT with hT | hT
 ·exact h1 (e.trans hT)
 ·exact h2 (e.trans hT)
theorem Sees.noObj (hS : Sees F caps J step size) (hj : J s X wr) {b : Nat} {o : Obj} (hb : wr.heap[b]? = some o) (ho : o.isCells = false) : ¬ X b := by
 intro hx
 obtain ⟨cs', T', hb', _⟩ := hS.kind s X wr b hj hx
 unfold Blk at hb'
 rw [hb] at hb'
 injection hb' with hb'
 rw [hb'] at ho
 cases ho
theorem Core.below (hS : Sees F caps J step size) (h : Core J X0 w m2 g tc fv Bn n left s X wr) (hb : Below wr.heap.size wr w') : Core J X0 w m2 g tc fv Bn n left s X w' :=
 ⟨hS.keep _ _ _ _ h.j (fun b hx => by obtain ⟨cs, T, hbk, _⟩ := hS.kind _ _ _ b h.j hx; exact hb.block b hbk.lt), h.xs, h.fr.bel hb, Nat.le_trans h.sz hb.size, h.b4.below hb, h.b7.below hb, h.bn.below hb, h.bl.below hb, h.tx.below hb⟩
theorem Core.not {b : Nat} (hc : CoreOk X0 w m2 g Bn) (h : Core J X0 w m2 g tc fv Bn n left s X wr) (h1 : w.heap.size <= b) (h2 : b < m2) : ¬ X b := by
 intro hx
 rcases h.xs b hx with h3 | h3
 ·have := hc.x0 b h3; omega
 ·omega
theorem Core.setN (hc : CoreOk X0 w m2 g Bn) (hS : Sees F caps J step size) (h : Core J X0 w m2 g tc fv Bn n left s X wr) (k : Nat) : Core J X0 w m2 g tc fv Bn k left s X (wr.setCell ⟨Bn, 0, none⟩ (.int .i64 (k : Int))) := by
 have h1 := hc.h1
 have h2 := hc.h2
 have hn := h.not hc (b := Bn) (by omega) (by omega)
 exact ⟨hS.keep _ _ _ _ h.j (fun b hx => Below.heap_setCell wr _ _ b (fun e => hn (by rw [<- (show b = Bn from e)]; exact hx))), h.xs, h.fr.setCell (.inr (show w.heap.size <= Bn by omega)) _, by simpa [World.setCell] using h.sz,
  h.b4.far (show w.heap.size ≠ Bn by omega) _, h.b7.far (show w.heap.size + 1 ≠ Bn by omega) _, h.bn.set_ 0 _, h.bl.far (show Bn + 1 ≠ Bn by omega) _, h.tx.far (fun e => Blk.ne_ h.tx h.bn (by decide) e) _⟩
theorem Core.setL (hc : CoreOk X0 w m2 g Bn) (hS : Sees F caps J step size) (h : Core J X0 w m2 g tc fv Bn n left s X wr) (k : Nat) : Core J X0 w m2 g tc fv Bn n k s X (wr.setCell ⟨Bn + 1, 0, none⟩ (.int .i64 (k : Int))) := by
 have h1 := hc.h1
 have h2 := hc.h2
 have hn := h.not hc (b := Bn + 1) (by omega) (by omega)
 exact ⟨hS.keep _ _ _ _ h.j (fun b hx => Below.heap_setCell wr _ _ b (fun e => hn (by rw [<- (show b = Bn + 1 from e)]; exact hx))), h.xs, h.fr.setCell (.inr (show w.heap.size <= Bn + 1 by omega)) _, by simpa [World.setCell] using h.sz,
  h.b4.far (show w.heap.size ≠ Bn + 1 by omega) _, h.b7.far (show w.heap.size + 1 ≠ Bn + 1 by omega) _, h.bn.far (show Bn ≠ Bn + 1 by omega) _, h.bl.set_ 0 _, h.tx.far (fun e => Blk.ne_ h.tx h.bl (by decide) e) _⟩
theorem Core.see (hc : CoreOk X0 w m2 g Bn) (hS : Sees F caps J step size) (h : Core J X0 w m2 g tc fv Bn n left s X wr) {X' : Nat -> Prop} (hj : J s' X' w') (hx : ∀ b, X' b -> X b \/ wr.heap.size <= b) (hf : Fr X wr w') : Core J X0 w m2 g tc fv Bn n left s' X' w' := by
 have h1 := hc.h1
 have h2 := hc.h2
 have hsz := h.sz
 refine ⟨hj, fun b hb => ?_, ?_, Nat.le_trans h.sz hf.size, h.b4.fr hf (h.not hc (Nat.le_refl _) (by omega)), h.b7.fr hf (h.not hc (by omega) (by omega)), h.bn.fr hf (h.not hc (by omega) (by omega)), h.bl.fr hf (h.not hc (by omega) (by omega)), h.tx.fr hf (hS.no h.j h.tx (by decide) (by decide))⟩
 ·rcases hx b hb with h3 | h3
  ·exact h.xs b h3
  ·exact .inr (by omega)
 ·refine h.fr.call hf (fun i hi hX => ?_)
  rcases h.xs i hX with h3 | h3
  ·exact h3
  ·omega
theorem Core.rel (hS : Sees F caps J step size) (h : Core J X0 w m2 g tc fv Bn n left s X wr) (hf : Fr X wr w') : Rel m2 wr w' :=
 ⟨⟨hf.size, fun k o _ hk ho => (hf.block k (Array.getElem?_eq_some_iff.1 hk).1 (hS.noObj h.j hk ho)).trans hk⟩, hf.size, fun b cs T h1 hb => hb.fr hf (hS.no h.j hb (h1.ne (by decide)) (h1.ne (by decide)))⟩
theorem Core.own (hc : CoreOk X0 w m2 g Bn) (hS : Sees F caps J step size) (h : Core J X0 w m2 g tc fv Bn n left s X wr) {row : Option Nat} (hg : wr.grownBy w' row) (hr : ∀ r, row = some r -> m2 <= r /\ ∃ o : Obj, wr.heap[r]? = some o /\ o.isCells = false) :
  Core J X0 w m2 g tc fv Bn n left s X w' := by
 have h1 := hc.h1
 have h2 := hc.h2
 have hne : ∀ {b : Nat} {T : TypeId} {cs : Array Value}, Blk wr b T cs -> some b ≠ row := by
  intro b T cs hb e
  obtain ⟨_, o, ho, hcell⟩ := hr b e.symm
  unfold Blk at hb
  rw [hb] at ho
  injection ho with ho
  rw [<- ho] at hcell
  cases hcell
 refine ⟨hS.keep _ _ _ _ h.j (fun b hx => ?_), h.xs, ?_, Nat.le_trans h.sz hg.size, h.b4.grown hg (hne h.b4), h.b7.grown hg (hne h.b7), h.bn.grown hg (hne h.bn), h.bl.grown hg (hne h.bl), h.tx.grown hg (hne h.tx)⟩
 ·obtain ⟨cs, T, hbk, _⟩ := hS.kind _ _ _ b h.j hx
  exact hg.block b hbk.lt (hne hbk)
 ·exact h.fr.grown hg (fun k e hk => by have := (hr k e).1; omega)
end
def GPc (w : World) (D : Nat -> Prop) (enc : Int) (p : Pc) : Prop := PcOk enc p /\ Bts w D p.A p.n p.bytes
def WkI {σ : Type} (J : σ -> (Nat -> Prop) -> World -> Prop) (step : σ -> Int -> Int -> σ) (size : σ -> Nat) (X0 : Nat -> Prop) (w : World) (m2 g : Nat) (tc : Array Value) (fv : Value) (Bn : Nat) (enc : Int) (G : Pc -> Prop) (n0 left0 : Nat) (s0 : σ) (pre : List { p : Pc // G p }) (W : World) : Prop :=
 ∃ n left s X, feed step n0 left0 s0 (atsL enc (pre.map Subtype.val)) = (false, n, left, s) /\ 1 <= left /\ size s + left <= 2147483648 /\ n <= 1073741824 /\ Core J X0 w m2 g tc fv Bn n left s X W
def WkX {σ : Type} (J : σ -> (Nat -> Prop) -> World -> Prop) (step : σ -> Int -> Int -> σ) (X0 : Nat -> Prop) (w : World) (m2 g : Nat) (tc : Array Value) (fv : Value) (Bn : Nat) (enc : Int) (G : Pc -> Prop) (n0 left0 : Nat) (s0 : σ) (c : Code) (pre : List { p : Pc // G p }) (W : World) : Prop :=
 c = .ret /\ ∃ k l s X, feed step n0 left0 s0 (atsL enc (pre.map Subtype.val)) = (true, k, l, s) /\ Core J X0 w m2 g tc fv Bn 0 0 s X W
def WkR {σ : Type} (J : σ -> (Nat -> Prop) -> World -> Prop) (step : σ -> Int -> Int -> σ) (size : σ -> Nat) (X0 : Nat -> Prop) (w : World) (m2 g : Nat) (tc : Array Value) (fv : Value) (Bn : Nat) (enc : Int) (x : Pc) (T : Bool × Nat × Nat × σ) (W : World) (kk : Nat) (q : Value) (wr : World) : Prop :=
 ∃ (k n left : Nat) (s : σ) (X : Nat -> Prop), q = .int .i64 (k : Int) /\ Core J X0 w m2 g tc fv Bn n left s X wr /\ Rel m2 W wr /\ feed step n left s (tagF x.tag (k : Int) (dec enc (x.bytes.drop k))) = T /\ 1 <= left /\ size s + left <= 2147483648 /\ n <= 1073741824 /\ k <= x.n /\ x.n - k <= kk
end Go.Proofs.YtflhiohjikgedaaGreatDoor
