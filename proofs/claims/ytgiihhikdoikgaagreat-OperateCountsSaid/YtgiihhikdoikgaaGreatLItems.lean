/-
  The walks of package tree at the pieces: Items, an iterator: its inner function, by induction on the tree.
-/
import Derived.Test.YtgiihhikdoikgaaGreatLTree8
import Derived.RangeFuncNested
import Derived.RangeFuncBound
import Derived.RangeFuncLeaves
import Derived.Shelf.Abstract
import Derived.Shelf.RegionOpen
import Derived.OwnWalkIn
import Derived.TacticsInMore
import Derived.LoopNIn
import Derived.LoopIn
import Derived.Stop.RegionWithIn
import Derived.Sort.LoopGhostIn
import Derived.Sort.CutIn
set_option linter.unusedSimpArgs false
set_option linter.unusedVariables false
set_option maxRecDepth 100000
set_option maxHeartbeats 32000000
namespace Go.Proofs.YtgiihhikdoikgaaGreat
open Go.RowKit
def KT (w w' : World) : Prop := w.heap.size <= w'.heap.size /\ ∀ (b : Nat) (cs : Array Value) (T : TypeId), T ≠ 3 -> T ≠ 36 -> Blk w b T cs -> Blk w' b T cs
theorem KT.refl (w : World) : KT w w := ⟨Nat.le_refl _, fun _ _ _ _ _ h => h⟩
theorem KT.trans {a b c : World} (h : KT a b) (k : KT b c) : KT a c := ⟨Nat.le_trans h.1 k.1, fun i cs T h1 h2 hb => k.2 i cs T h1 h2 (h.2 i cs T h1 h2 hb)⟩
theorem KT.below {w w' : World} (h : Below w.heap.size w w') : KT w w' := ⟨h.size, fun _ _ _ _ _ hb => hb.below h⟩
theorem KT.drew (w : World) : KT w w.drew := ⟨Nat.le_refl _, fun _ _ _ _ _ h => h⟩
theorem KT.drewN (w : World) (n : Nat) : KT w (w.drewN n) := ⟨Nat.le_refl _, fun _ _ _ _ _ h => h⟩
theorem KT.node {w w' : World} (hk : KT w w') : ∀ (t : Tr) (a : Option Addr), NodeAt w t a -> NodeAt w' t a := by
 intro t
 induction t with
 | nil => intro a h; exact h
 | node l x r ihl ihr =>
  rintro a ⟨b, al, ar, e, h, hl, hr⟩
  exact ⟨b, al, ar, e, hk.2 b _ _ (by decide) (by decide) h, ihl al hl, ihr ar hr⟩
def YSpec (l : Nat) (G : Pc -> Prop) (J Jx : List Pc -> World -> Prop) (N : Nat) : Prop := ∀ (m : Nat) (pre : List Pc) (x : Pc) (W : World), G x -> J pre W -> pre.length < N ->
 YieldAt Fence.wide m Tryz.prog l #[.agg x.cells] W fun e W' => (e = .returned (.bool true) /\ J (pre ++ [x]) W' /\ KT W W') \/ (e = .returned (.bool false) /\ Jx (pre ++ [x]) W')
def YP (J Jx : List Pc -> World -> Prop) (pre xs : List Pc) (W : World) (b : Bool) (W' : World) : Prop :=
 (b = true -> J (pre ++ xs) W' /\ KT W W') /\ (b = false -> ∃ q, q <+: xs /\ Jx (pre ++ q) W')
def WkPost (J Jx : List Pc -> World -> Prop) (pre xs : List Pc) (W : World) (e : Ending) (W' : World) : Prop := ∃ b, e = .returned (.bool b) /\ YP J Jx pre xs W b W'
def WkCut (J Jx : List Pc -> World -> Prop) (pre xs : List Pc) (W : World) (s : Value) (W' : World) : Prop := ∃ b, s = .bool (!b) /\ YP J Jx pre xs W b W'
section
variable {J Jx : List Pc -> World -> Prop} {pre xs ys : List Pc} {W W1 W2 : World} {b : Bool}
theorem YP.nil (h : J pre W1) (hk : KT W W1) : YP J Jx pre [] W true W1 := ⟨fun _ => ⟨by rwa [List.append_nil], hk⟩, fun h => by cases h⟩
theorem YP.more (h : YP J Jx pre xs W true W1) (k : YP J Jx (pre ++ xs) ys W1 b W2) : YP J Jx pre (xs ++ ys) W b W2 := by
 refine ⟨fun hb => ?_, fun hb => ?_⟩
 ·have h1 := h.1 rfl
  have h2 := k.1 hb
  exact ⟨by rw [<- List.append_assoc]; exact h2.1, h1.2.trans h2.2⟩
 ·obtain ⟨q, hq, hx⟩ := k.2 hb
  exact ⟨xs ++ q, (List.prefix_append_right_inj xs).2 hq, by rw [<- List.append_assoc]; exact hx⟩
theorem YP.no (h : YP J Jx pre xs W false W1) (ys : List Pc) : YP J Jx pre (xs ++ ys) W false W1 :=
 ⟨(fun h => by cases h), fun _ => by obtain ⟨q, hq, hx⟩ := h.2 rfl; exact ⟨q, hq.trans (List.prefix_append xs ys), hx⟩⟩
theorem YP.from_ (h : YP J Jx pre xs W1 b W2) (hk : KT W W1) : YP J Jx pre xs W b W2 := ⟨fun hb => ⟨(h.1 hb).1, hk.trans (h.1 hb).2⟩, h.2⟩
end
theorem YSpec.at_ {l : Nat} {G : Pc -> Prop} {J Jx : List Pc -> World -> Prop} {N : Nat} (h : YSpec l G J Jx N) (m : Nat) (pre : List Pc) (x : Pc) (W : World) (hG : G x) (hJ : J pre W) (hN : pre.length < N) :
  YieldAt Fence.wide m Tryz.prog l #[.agg x.cells] W fun e W' => WkPost J Jx pre [x] W e W' := by
 refine (h m pre x W hG hJ hN).mono ?_
 rintro e W' (⟨rfl, h1, h2⟩ | ⟨rfl, h1⟩)
 ·exact ⟨true, rfl, fun _ => ⟨h1, h2⟩, fun h => by cases h⟩
 ·exact ⟨false, rfl, (fun h => by cases h), fun _ => ⟨[x], List.prefix_refl _, h1⟩⟩
theorem drop_node (l : Tr) (x : Pc) (r : Tr) (i : Int) (hi : 0 <= i) :
  (Tr.node l x r).list.drop i.toNat = (l.list.drop i.toNat ++ (if i <= l.size then [x] else [])) ++ r.list.drop (max 0 (i - l.size - 1)).toNat := by
 have hs := Tr.size_list l
 rw [Tr.list, List.drop_append]
 split
 ·rw [show (max 0 (i - l.size - 1)).toNat = 0 by omega, show i.toNat - l.list.length = 0 by omega]
  simp
 ·rw [List.drop_eq_nil_of_le (by omega), show i.toNat - l.list.length = (max 0 (i - l.size - 1)).toNat + 1 by omega]
  simp
end Go.Proofs.YtgiihhikdoikgaaGreat
