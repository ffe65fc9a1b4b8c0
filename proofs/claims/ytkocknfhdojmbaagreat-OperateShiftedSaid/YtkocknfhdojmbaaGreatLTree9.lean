/-
  The walks of package tree at the pieces, ninth part: lists that may lie in a tree; of, with them.
-/
import Derived.Test.YtkocknfhdojmbaaGreatLTree8
set_option linter.unusedSimpArgs false
set_option linter.unusedVariables false
set_option maxRecDepth 100000
set_option maxHeartbeats 32000000
namespace Go.Proofs.YtkocknfhdojmbaaGreat
open Go.RowKit
structure LstOk (ls : List Pc) : Prop where
 good : AllGood ls
 tot : totB ls <= 2147483648
 len : ls.length <= 1073741824
theorem AllGood.left {a b : List Pc} (h : AllGood (a ++ b)) : AllGood a := fun p hp => h p (List.mem_append_left _ hp)
theorem AllGood.right {a b : List Pc} (h : AllGood (a ++ b)) : AllGood b := fun p hp => h p (List.mem_append_right _ hp)
theorem LstOk.left {a b : List Pc} (h : LstOk (a ++ b)) : LstOk a := by
 have h1 := totB_app a b
 have h2 := totB_nonneg h.good.right
 have h3 := h.tot
 have h4 := h.len
 rw [List.length_append] at h4
 exact ⟨h.good.left, by omega, by omega⟩
theorem LstOk.right {a b : List Pc} (h : LstOk (a ++ b)) : LstOk b := by
 have h1 := totB_app a b
 have h2 := totB_nonneg h.good.left
 have h3 := h.tot
 have h4 := h.len
 rw [List.length_append] at h4
 exact ⟨h.good.right, by omega, by omega⟩
theorem LstOk.tail {x : Pc} {b : List Pc} (h : LstOk (x :: b)) : LstOk b := LstOk.right (a := [x]) h
theorem LstOk.sum {t : Tr} (h : LstOk t.list) : t.sum.ok := by
 obtain ⟨h1, h2⟩ := Tr.sum_good t h.good
 exact h1.ok (by rw [h2]; exact h.tot)
def TrPost (ls : List Pc) (w : World) (e : Ending) (w' : World) : Prop := ∃ t a, e = .returned (.pointer a) /\ NodeAt w' t a /\ t.list = ls /\ Below w.heap.size w w'
theorem of_list (l r : Tr) (al ar : Option Addr) (x : Pc) (w : World) (hl : NodeAt w l al) (hr : NodeAt w r ar) (h : LstOk (l.list ++ x :: r.list)) :
  Calls Tryz.prog 180 #[.pointer al, .agg x.cells, .pointer ar] w fun e w' => TrPost (l.list ++ x :: r.list) w e w' := by
 have h1 := h.left
 have h2 := h.right
 have hx := h2.good x (by simp)
 have h3 := h2.tail
 have hxb : x.sum.bytes <= 2147483648 := by
  have := totB_cons x r.list
  have := totB_nonneg h3.good
  have := h2.tot
  omega
 obtain ⟨g1, g2⟩ := lsum_good l x h1.good hx
 have hlb : totB l.list + x.sum.bytes <= 2147483648 := by
  have e1 := totB_app l.list (x :: r.list)
  have e2 := totB_cons x r.list
  have e3 := totB_nonneg h3.good
  have e4 := h.tot
  omega
 refine (tof_any l r al ar x w hl hr (Tr.small_of h1.len) (Tr.small_of h3.len) (hx.ok hxb) h1.sum h3.sum (g1.ok (by rw [g2]; exact hlb))).mono ?_
 rintro e w' ⟨a, rfl, hn, hb⟩
 exact ⟨_, a, rfl, hn, rfl, hb⟩
end Go.Proofs.YtkocknfhdojmbaaGreat
