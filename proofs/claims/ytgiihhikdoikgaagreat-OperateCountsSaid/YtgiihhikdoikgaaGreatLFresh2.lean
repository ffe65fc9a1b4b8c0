/-
  The walk of the closure in Text.fresh that shuts a piece.
-/
import Derived.Test.YtgiihhikdoikgaaGreatLGrow
import Derived.Test.YtgiihhikdoikgaaGreatLOpenLaw
import Derived.Test.YtgiihhikdoikgaaGreatLEncode
import Derived.Test.YtgiihhikdoikgaaGreatLHeavy
import Derived.Test.YtgiihhikdoikgaaGreatLEnds
import Derived.Test.YtgiihhikdoikgaaGreatLRf2
import Derived.Test.YtgiihhikdoikgaaGreatLOfLaw
set_option linter.unusedSimpArgs false
set_option linter.unusedVariables false
set_option maxRecDepth 100000
set_option maxHeartbeats 32000000
namespace Go.Proofs.YtgiihhikdoikgaaGreat
open Go.RowKit
theorem even_out {l r : Tr} {al ar : Option Addr} {x : Pc} {W w : World} (hb : Below W.heap.size W w) (hl : NodeAt w l al) (hr : NodeAt w r ar) (h : LstOk (l.list ++ x :: r.list)) :
  Calls Tryz.prog 195 #[.pointer al, .agg x.cells, .pointer ar] w fun e w' => ∃ v, e = .returned v /\ TrOut (l.list ++ x :: r.list) W v w' := by
 refine (even_any l r al ar x w hl hr h).mono ?_
 rintro e w' ⟨t, a, rfl, h1, h2, h3⟩
 exact ⟨_, rfl, t, a, rfl, h1, h2, bseq hb h3⟩
theorem join_any : ∀ (n : Nat) (l r : Tr) (al ar : Option Addr) (x : Pc) (w : World), l.list.length + r.list.length <= n -> NodeAt w l al -> NodeAt w r ar -> LstOk (l.list ++ x :: r.list) ->
  Calls Tryz.prog 188 #[.pointer al, .agg x.cells, .pointer ar] w fun e w' => TrPost (l.list ++ x :: r.list) w e w' := by
 intro n
 induction n with
 | zero =>
  intro l r al ar x w hn hl hr h
  have e1 : l = .nil := by cases l with | nil => rfl | node a b c => simp [Tr.list] at hn
  have e2 : r = .nil := by cases r with | nil => rfl | node a b c => simp [Tr.list] at hn
  subst e1
  subst e2
  cases hl
  cases hr
  have hW : Below w.heap.size w (w.alloc (.cells x.cells 107)) := balloc (Below.refl _ w)
  have hbx := BoxC.of (Blk.new w 107 x.cells) (Below.refl _ _)
  have kl := fun (w' : World) => tall_any .nil none w' rfl
  have hc := fun (w' : World) => of_list .nil .nil none none x w' rfl rfl h
  obtain ⟨x0, x1, x2, x3, x4, x5, x6⟩ := hbx
  have KL := Lib.hid kl
  have HC := Lib.hid hc
  clear kl hc hn h
  simp only [Pc.cells, partC, Tr.tall] at *
  go_enter Tryz.func188, Tryz.ntmps188
  go_wp2_with fail
  iterate 4
   refine (KL.out _).mono ?_
   rintro e w1 ⟨rfl, rfl⟩
   go_wp2_with fail
  refine (HC.out _).mono ?_
  rintro e w3 ⟨t, a, rfl, hn, hl, hb⟩
  go_wp2_with fail
  go_ret
  exact ⟨t, a, rfl, hn, hl, bseq hW hb⟩
 | succ n ih =>
  intro l r al ar x w hn hl hr h
  have hbox := Blk.new w 107 x.cells
  have hW : Below w.heap.size w (w.alloc (.cells x.cells 107)) := balloc (Below.refl _ w)
  have hlW := NodeAt.below hW l al hl
  have hrW := NodeAt.below hW r ar hr
  have sl := Tr.small_of h.left.len
  have sr := Tr.small_of h.right.tail.len
  obtain ⟨W, hWe⟩ : ∃ W, w.alloc (.cells x.cells 107) = W := ⟨_, rfl⟩
  rw [hWe] at hbox hW hlW hrW
  simp only [Pc.cells, partC] at hWe
  have fx := fun (w' : World) (hb : Below W.heap.size W w') => BoxC.of hbox hb
  have HWE := Lib.hid hWe
  have FX := Lib.hid fx
  have IH := Lib.hid ih
  clear hWe hl hr fx hbox ih
  obtain ⟨tl, htl⟩ : ∃ n, l.tall = n := ⟨_, rfl⟩
  obtain ⟨tr, htr⟩ : ∃ n, r.tall = n := ⟨_, rfl⟩
  have kl := tall_any l al W hlW
  have kr := tall_any r ar W hrW
  rw [htl] at kl
  rw [htr] at kr
  obtain ⟨_, _, l3, l4⟩ := sl
  obtain ⟨_, _, r3, r4⟩ := sr
  rw [htl] at l3 l4
  rw [htr] at r3 r4
  have KL := Lib.hid kl
  have KR := Lib.hid kr
  clear kl kr
  by_cases h1 : tr + 1 < tl
  ·cases l with
   | nil => exfalso; simp only [Tr.tall] at htl; omega
   | node ll lx lr =>
    obtain ⟨b, al', ar', rfl, hblk, hnl, hnr⟩ := hlW
    have fn := fun (w' : World) (hb : Below W.heap.size W w') => NodeC.of hblk hb
    have FN := Lib.hid fn
    have HL := Lib.hid hnl
    have HR := Lib.hid hnr
    have HRR := Lib.hid hrW
    have hlist : (Tr.node ll lx lr).list ++ x :: r.list = ll.list ++ lx :: (lr.list ++ x :: r.list) := by simp [Tr.list]
    have hlen : (Tr.node ll lx lr).list.length = ll.list.length + lr.list.length + 1 := by simp only [Tr.list, List.length_append, List.length_cons]; omega
    have hLK : LstOk (ll.list ++ lx :: (lr.list ++ x :: r.list)) := by rw [<- hlist]; exact h
    have hin := fun (w' : World) (hb : Below W.heap.size W w') => IH.out lr r ar' ar x w' (by omega) (NodeAt.below hb _ _ hnr) (NodeAt.below hb _ _ hrW) hLK.right.tail
    have HLIST := Lib.hid hlist
    have HLK := Lib.hid hLK
    have HIN := Lib.hid hin
    clear hlist hLK hin hrW h fn htl htr hblk hlen hn hnl hnr IH
    have g1 : (tr + 1 < tl) = True := by simp; omega
    simp only [Pc.cells, partC]
    go_enter Tryz.func188, Tryz.ntmps188
    go_wp2_with fail
    rw [HWE.out]
    refine (KL.out).mono ?_
    rintro e w1 ⟨rfl, rfl⟩
    go_wp2_with fail
    refine (KR.out).mono ?_
    rintro e w1 ⟨rfl, rfl⟩
    go_wp2_with fail
    refine wp_region_lin (fun w' => Below W.heap.size W w') (fun w' => Below W.heap.size W w') (fun k => k == 14 || k == 15) (fun _ => false) (fun _ => false) (by kernel_rfl) (by kernel_rfl) (Below.drew (Below.refl _ _)) (fun _ h => h) ?_
    repeat ((first
     | (refine wpL_read (v := ?_) (by rfl) (by rfl) (fun w6 hSw => ?_) ?_; rotate_left; (· (obtain ⟨n0, n1, n2, n3, n4, n5, n6, n7, n8⟩ := FN.out _ hSw; obtain ⟨x0, x1, x2, x3, x4, x5, x6⟩ := FX.out _ hSw; go_simp; try with_reducible rfl)))
     | (refine wpL_free (v := ?_) (by rfl) (fun w6 => ?_) ?_; rotate_left; (· (go_simp; try with_reducible rfl)))
     | refine wpL_not (by rfl) ?_); (try simp only [Act.put, pA, pB, pC]))
    refine wpL_call (f := ?_) (args := ?_) (TrOut (lr.list ++ x :: r.list) W) (by rfl) (by rfl) (fun w6 hSw => ?_) (fun w6 hSw => ?_) (.inr (fun v6 w6 hT6 => ?_)) (fun v6 hv6 => ?_)
    rotate_left 2
    ·(skip; go_simp; first | done | (constructor <;> with_reducible rfl) | with_reducible rfl)
    ·(refine (HIN.out _ hSw).mono ?_; rintro e w5 ⟨t5, a5, rfl, h51, h52, h53⟩; exact ⟨_, rfl, t5, a5, rfl, h51, h52, bseq hSw h53⟩)
    ·(exact hT6.bel)
    obtain ⟨w7, t7, a7, rfl, hc7⟩ := hv6; clear hc7
    (try simp only [Act.put, pA, pB, pC])
    repeat ((first
     | (refine wpL_read (v := ?_) (by rfl) (by rfl) (fun w6 hSw => ?_) ?_; rotate_left; (· (obtain ⟨n0, n1, n2, n3, n4, n5, n6, n7, n8⟩ := FN.out _ hSw; go_simp; try with_reducible rfl)))
     | (refine wpL_free (v := ?_) (by rfl) (fun w6 => ?_) ?_; rotate_left; (· (go_simp; try with_reducible rfl)))
     | refine wpL_not (by rfl) ?_); (try simp only [Act.put, pA, pB, pC]))
    refine wpL_call (f := ?_) (args := ?_) (TrOut (ll.list ++ lx :: (lr.list ++ x :: r.list)) W) (by rfl) (by rfl) (fun w6 hSw => ?_) (fun w6 hSw => ?_) (.inr (fun v6 w6 hT6 => ?_)) (fun v6 hv6 => ?_)
    rotate_left 2
    ·(skip; go_simp; first | done | (constructor <;> with_reducible rfl) | with_reducible rfl)
    ·(obtain ⟨t8, hn8, hl8, hb8⟩ := hSw.out; (have := even_out hb8 (NodeAt.below hb8 _ _ HL.out) hn8 (x := lx) (by rw [hl8]; exact HLK.out)); rw [hl8] at this; exact this)
    ·(exact hT6.bel)
    obtain ⟨w8, t8, a8, rfl, hc8⟩ := hv6; clear hc8
    (try simp only [Act.put, pA, pB, pC])
    repeat ((first
     | (refine wpL_read (v := ?_) (by rfl) (by rfl) (fun w6 hSw => ?_) ?_; rotate_left; (· (skip; go_simp; try with_reducible rfl)))
     | (refine wpL_free (v := ?_) (by rfl) (fun w6 => ?_) ?_; rotate_left; (· (go_simp; try with_reducible rfl)))
     | refine wpL_not (by rfl) ?_); (try simp only [Act.put, pA, pB, pC]))
    refine wpL_nil ?_
    intro w3 hw3
    obtain ⟨t9, hn9, hl9, hb9⟩ := hw3.out
    go_wp2_with fail
    go_ret
    rw [HLIST.out]
    exact ⟨t9, _, rfl, hn9, hl9, bseq hW hb9⟩
  ·by_cases h2 : tl + 1 < tr
   ·cases r with
    | nil => exfalso; simp only [Tr.tall] at htr; omega
    | node ll lx lr =>
     obtain ⟨b, al', ar', rfl, hblk, hnl, hnr⟩ := hrW
     have fn := fun (w' : World) (hb : Below W.heap.size W w') => NodeC.of hblk hb
     have FN := Lib.hid fn
     have HL := Lib.hid hnl
     have HR := Lib.hid hnr
     have HRR := Lib.hid hlW
     have hlist : l.list ++ x :: (Tr.node ll lx lr).list = (l.list ++ x :: ll.list) ++ lx :: lr.list := by simp [Tr.list]
     have hlen : (Tr.node ll lx lr).list.length = ll.list.length + lr.list.length + 1 := by simp only [Tr.list, List.length_append, List.length_cons]; omega
     have hLK : LstOk ((l.list ++ x :: ll.list) ++ lx :: lr.list) := by rw [<- hlist]; exact h
     have hin := fun (w' : World) (hb : Below W.heap.size W w') => IH.out l ll al al' x w' (by omega) (NodeAt.below hb _ _ hlW) (NodeAt.below hb _ _ hnl) hLK.left
     have HLIST := Lib.hid hlist
     have HLK := Lib.hid hLK
     have HIN := Lib.hid hin
     clear hlist hLK hin hlW h fn htl htr hblk hlen hn hnl hnr IH
     have g1 : (tr + 1 < tl) = False := by simp; omega
     have g3 : (tl + 1 < tr) = True := by simp; omega
     simp only [Pc.cells, partC]
     go_enter Tryz.func188, Tryz.ntmps188
     go_wp2_with fail
     rw [HWE.out]
     refine (KL.out).mono ?_
     rintro e w1 ⟨rfl, rfl⟩
     go_wp2_with fail
     refine (KR.out).mono ?_
     rintro e w1 ⟨rfl, rfl⟩
     go_wp2_with fail
     refine (KR.out).mono ?_
     rintro e w1 ⟨rfl, rfl⟩
     go_wp2_with fail
     refine (KL.out).mono ?_
     rintro e w1 ⟨rfl, rfl⟩
     go_wp2_with fail
     refine wp_region_lin (fun w' => Below W.heap.size W w') (fun w' => Below W.heap.size W w') (fun k => k == 6 || k == 15) (fun _ => false) (fun _ => false) (by kernel_rfl) (by kernel_rfl) (Below.drew (Below.refl _ _)) (fun _ h => h) ?_
     repeat ((first
      | (refine wpL_read (v := ?_) (by rfl) (by rfl) (fun w6 hSw => ?_) ?_; rotate_left; (· (obtain ⟨n0, n1, n2, n3, n4, n5, n6, n7, n8⟩ := FN.out _ hSw; obtain ⟨x0, x1, x2, x3, x4, x5, x6⟩ := FX.out _ hSw; go_simp; try with_reducible rfl)))
      | (refine wpL_free (v := ?_) (by rfl) (fun w6 => ?_) ?_; rotate_left; (· (go_simp; try with_reducible rfl)))
      | refine wpL_not (by rfl) ?_); (try simp only [Act.put, pA, pB, pC]))
     refine wpL_call (f := ?_) (args := ?_) (TrOut (l.list ++ x :: ll.list) W) (by rfl) (by rfl) (fun w6 hSw => ?_) (fun w6 hSw => ?_) (.inr (fun v6 w6 hT6 => ?_)) (fun v6 hv6 => ?_)
     rotate_left 2
     ·(skip; go_simp; first | done | (constructor <;> with_reducible rfl) | with_reducible rfl)
     ·(refine (HIN.out _ hSw).mono ?_; rintro e w5 ⟨t5, a5, rfl, h51, h52, h53⟩; exact ⟨_, rfl, t5, a5, rfl, h51, h52, bseq hSw h53⟩)
     ·(exact hT6.bel)
     obtain ⟨w7, t7, a7, rfl, hc7⟩ := hv6; clear hc7
     (try simp only [Act.put, pA, pB, pC])
     repeat ((first
      | (refine wpL_read (v := ?_) (by rfl) (by rfl) (fun w6 hSw => ?_) ?_; rotate_left; (· (obtain ⟨n0, n1, n2, n3, n4, n5, n6, n7, n8⟩ := FN.out _ hSw; go_simp; try with_reducible rfl)))
      | (refine wpL_free (v := ?_) (by rfl) (fun w6 => ?_) ?_; rotate_left; (· (go_simp; try with_reducible rfl)))
      | refine wpL_not (by rfl) ?_); (try simp only [Act.put, pA, pB, pC]))
     refine wpL_call (f := ?_) (args := ?_) (TrOut ((l.list ++ x :: ll.list) ++ lx :: lr.list) W) (by rfl) (by rfl) (fun w6 hSw => ?_) (fun w6 hSw => ?_) (.inr (fun v6 w6 hT6 => ?_)) (fun v6 hv6 => ?_)
     rotate_left 2
     ·(skip; go_simp; first | done | (constructor <;> with_reducible rfl) | with_reducible rfl)
     ·(obtain ⟨t8, hn8, hl8, hb8⟩ := hSw.out; (have := even_out hb8 hn8 (NodeAt.below hb8 _ _ HR.out) (x := lx) (by rw [hl8]; exact HLK.out)); rw [hl8] at this; exact this)
     ·(exact hT6.bel)
     obtain ⟨w8, t8, a8, rfl, hc8⟩ := hv6; clear hc8
     (try simp only [Act.put, pA, pB, pC])
     repeat ((first
      | (refine wpL_read (v := ?_) (by rfl) (by rfl) (fun w6 hSw => ?_) ?_; rotate_left; (· (skip; go_simp; try with_reducible rfl)))
      | (refine wpL_free (v := ?_) (by rfl) (fun w6 => ?_) ?_; rotate_left; (· (go_simp; try with_reducible rfl)))
      | refine wpL_not (by rfl) ?_); (try simp only [Act.put, pA, pB, pC]))
     refine wpL_nil ?_
     intro w3 hw3
     obtain ⟨t9, hn9, hl9, hb9⟩ := hw3.out
     go_wp2_with fail
     go_ret
     rw [HLIST.out]
     exact ⟨t9, _, rfl, hn9, hl9, bseq hW hb9⟩
   ·have g1 : (tr + 1 < tl) = False := by simp; omega
    have g2 : (tl + 1 < tr) = False := by simp; omega
    have hc := fun (w' : World) (hb : Below W.heap.size W w') => of_list l r al ar x w' (NodeAt.below hb _ _ hlW) (NodeAt.below hb _ _ hrW) h
    have HC := Lib.hid hc
    obtain ⟨x0, x1, x2, x3, x4, x5, x6⟩ := FX.out _ (Below.refl _ _)
    clear h1 h2 hc hlW hrW h htl htr hn IH
    simp only [Pc.cells, partC] at *
    go_enter Tryz.func188, Tryz.ntmps188
    go_wp2_with fail
    rw [HWE.out]
    refine (KL.out).mono ?_
    rintro e w1 ⟨rfl, rfl⟩
    go_wp2_with fail
    refine (KR.out).mono ?_
    rintro e w1 ⟨rfl, rfl⟩
    go_wp2_with fail
    refine (KR.out).mono ?_
    rintro e w1 ⟨rfl, rfl⟩
    go_wp2_with fail
    refine (KL.out).mono ?_
    rintro e w1 ⟨rfl, rfl⟩
    go_wp2_with fail
    refine (HC.out _ (Below.refl _ _)).mono ?_
    rintro e w3 ⟨t, a, rfl, hn, hl, hb⟩
    go_wp2_with fail
    go_ret
    exact ⟨t, a, rfl, hn, hl, bseq hW hb⟩
theorem join_outB {la : List Pc} {a : Option Addr} {l r : Tr} {al ar : Option Addr} {x : Pc} {W w : World} (hb : Below W.heap.size W w) (ha : ∃ t, NodeAt w t a /\ t.list = la) (hl : NodeAt w l al) (hr : NodeAt w r ar) (h : LstOk (l.list ++ x :: r.list)) :
  Calls Tryz.prog 188 #[.pointer al, .agg x.cells, .pointer ar] w fun e w' => ∃ v, e = .returned v /\ TrOut2 la (l.list ++ x :: r.list) a W v w' := by
 obtain ⟨t0, hn0, hl0⟩ := ha
 refine (join_any _ l r al ar x w (Nat.le_refl _) hl hr h).mono ?_
 rintro e w' ⟨t, a, rfl, h1, h2, h3⟩
 exact ⟨_, rfl, ⟨t0, NodeAt.below h3 _ _ hn0, hl0⟩, t, a, rfl, h1, h2, bseq hb h3⟩
def TCutPost (ls : List Pc) (i : Nat) (w : World) (e : Ending) (w' : World) : Prop :=
 ∃ t1 a1 t2 a2, e = .returned (.tuple #[.pointer a1, .pointer a2]) /\ NodeAt w' t1 a1 /\ NodeAt w' t2 a2 /\ t1.list = ls.take i /\ t2.list = ls.drop i /\ Below w.heap.size w w'
theorem take_mid {α : Type} (a : List α) (x : α) (b : List α) (k m : Nat) (h : a.length = k) : (a ++ x :: b).take (k + (m + 1)) = a ++ x :: b.take m := by
 subst h
 rw [List.take_append, List.take_of_length_le (by omega), Nat.add_sub_cancel_left, List.take_succ_cons]
theorem drop_mid {α : Type} (a : List α) (x : α) (b : List α) (k m : Nat) (h : a.length = k) : (a ++ x :: b).drop (k + (m + 1)) = b.drop m := by
 subst h
 rw [List.drop_append, List.drop_eq_nil_of_le (by omega), Nat.add_sub_cancel_left, List.drop_succ_cons, List.nil_append]
theorem tcut_any : ∀ (t : Tr) (a : Option Addr) (i : Int) (w : World), NodeAt w t a -> LstOk t.list -> -1073741826 <= i -> i <= 1073741826 ->
  Calls Tryz.prog 181 #[.pointer a, .int .i64 i] w fun e w' => TCutPost t.list i.toNat w e w' := by
 intro t
 induction t with
 | nil =>
  intro a i w h _ _ _
  cases h
  go_enter Tryz.func181, Tryz.ntmps181
  go_wp2_with fail
  go_ret2
  exact ⟨.nil, none, .nil, none, rfl, rfl, rfl, by simp [Tr.list], by simp [Tr.list], Below.refl _ _⟩
 | node l x r ihl ihr =>
  intro a i w hnode h i0 i1
  obtain ⟨b, al, ar, rfl, hblk, hnl, hnr⟩ := hnode
  have hsz := Tr.size_list l
  have hl2 := h.left.len
  have fn := fun (w' : World) (hb : Below w.heap.size w w') => NodeC.of hblk hb
  have hcnt := count_any l al w hnl
  have hlist : (Tr.node l x r).list = l.list ++ x :: r.list := rfl
  rw [hsz] at hcnt
  rw [hlist] at h ⊢
  obtain ⟨k, hk⟩ : ∃ k, l.list.length = k := ⟨_, rfl⟩
  rw [hk] at hcnt hl2
  obtain ⟨n0, n1, n2, n3, n4, n5, n6, n7, n8⟩ := fn w (Below.refl _ _)
  have FN := Lib.hid fn
  have HC := Lib.hid hcnt
  have HK := Lib.hid hk
  have HLK := Lib.hid h
  have HL := Lib.hid hnl
  have HR := Lib.hid hnr
  have IHL := Lib.hid (ihl al i w hnl h.left i0 i1)
  by_cases hik : i <= (k : Int)
  ·have g1 : (i <= (k : Int)) = True := by simp; omega
   clear ihl ihr hcnt hk h hnl hnr fn hsz hlist hblk hik
   go_enter Tryz.func181, Tryz.ntmps181
   go_wp2_with fail
   refine (HC.out).mono ?_
   rintro e w1 ⟨rfl, rfl⟩
   go_wp2_with fail
   refine (IHL.out).mono ?_
   rintro e w1 ⟨t1, a1, t2, a2, rfl, h1, h2, h3, h4, hb1⟩
   have hik : i <= (k : Int) := by simpa using g1
   have H1 := Lib.hid h1
   have H2 := Lib.hid h2
   have H3 := Lib.hid h3
   have H4 := Lib.hid h4
   clear n0 n1 n2 n3 n4 n5 n6 n7 n8 g1 h1 h2 h3 h4
   go_wp2_with fail
   refine wp_region_lin (fun w' => Below w1.heap.size w1 w') (fun w' => Below w1.heap.size w1 w') (fun k => k == 10) (fun _ => false) (fun _ => false) (by kernel_rfl) (by kernel_rfl) (Below.drew (Below.refl _ _)) (fun _ h => h) ?_
   repeat ((first
    | (refine wpL_read (v := ?_) (by rfl) (by rfl) (fun w6 hSw => ?_) ?_; rotate_left; (· (obtain ⟨n0, n1, n2, n3, n4, n5, n6, n7, n8⟩ := FN.out _ (bseq hb1 hSw); go_simp; try with_reducible rfl)))
    | (refine wpL_free (v := ?_) (by rfl) (fun w6 => ?_) ?_; rotate_left; (· (go_simp; try with_reducible rfl)))
    | refine wpL_not (by rfl) ?_); (try simp only [Act.put, pA, pB, pC]))
   refine wpL_call (f := ?_) (args := ?_) (TrOut2 (l.list.take i.toNat) (l.list.drop i.toNat ++ x :: r.list) a1 w1) (by rfl) (by rfl) (fun w6 hSw => ?_) (fun w6 hSw => ?_) (.inr (fun v6 w6 hT6 => ?_)) (fun v6 hv6 => ?_)
   rotate_left 2
   ·(skip; go_simp; first | done | (constructor <;> with_reducible rfl) | with_reducible rfl)
   ·((have := join_outB (la := l.list.take i.toNat) (a := a1) (x := x) hSw ⟨t1, NodeAt.below hSw _ _ H1.out, H3.out⟩ (NodeAt.below hSw _ _ H2.out) (NodeAt.below (bseq hb1 hSw) _ _ HR.out) (by rw [H4.out]; have := HLK.out; rw [<- List.take_append_drop i.toNat l.list, List.append_assoc] at this; exact this.right)); rw [H4.out] at this; exact this)
   ·(exact hT6.2.bel)
   obtain ⟨w7, hx7, t7, a7, rfl, hc7⟩ := hv6; clear hc7 hx7
   (try simp only [Act.put, pA, pB, pC])
   repeat ((first
    | (refine wpL_read (v := ?_) (by rfl) (by rfl) (fun w6 hSw => ?_) ?_; rotate_left; (· (skip; go_simp; try with_reducible rfl)))
    | (refine wpL_free (v := ?_) (by rfl) (fun w6 => ?_) ?_; rotate_left; (· (go_simp; try with_reducible rfl)))
    | refine wpL_not (by rfl) ?_); (try simp only [Act.put, pA, pB, pC]))
   refine wpL_nil ?_
   intro w3 hw3
   obtain ⟨⟨t9, hn9, hl9⟩, h10⟩ := hw3
   obtain ⟨t11, hn11, hl11, hb11⟩ := h10.out
   have hbw := bseq hb1 hb11
   clear h10
   go_wp2_with fail
   go_ret2
   refine ⟨t9, _, t11, _, rfl, hn9, hn11, ?_, ?_, hbw⟩
   ·rw [hl9, List.take_append_of_le_length (by rw [HK.out]; omega)]
   ·rw [hl11, List.drop_append_of_le_length (by rw [HK.out]; omega)]
  ·have g1 : (i <= (k : Int)) = False := by simp; omega
   have IHR := Lib.hid (ihr ar (i - k - 1) w hnr h.right.tail (by omega) (by omega))
   have k1 : IntKind.i64.wrap (i - (k : Int)) = i - k := IntWalk.i64_in _ (by omega)
   have k2 : IntKind.i64.wrap (i - (k : Int) - 1) = i - k - 1 := IntWalk.i64_in _ (by omega)
   clear ihl ihr hcnt hk h hnl hnr fn hsz hlist hblk hik IHL
   go_enter Tryz.func181, Tryz.ntmps181
   go_wp2_with fail
   refine (HC.out).mono ?_
   rintro e w1 ⟨rfl, rfl⟩
   go_wp2_with fail
   refine (IHR.out).mono ?_
   rintro e w1 ⟨t1, a1, t2, a2, rfl, h1, h2, h3, h4, hb1⟩
   have hik : (k : Int) < i := by simpa using g1
   have H1 := Lib.hid h1
   have H2 := Lib.hid h2
   have H3 := Lib.hid h3
   have H4 := Lib.hid h4
   clear n0 n1 n2 n3 n4 n5 n6 n7 n8 g1 h1 h2 h3 h4
   go_wp2_with fail
   refine wp_region_lin (fun w' => Below w1.heap.size w1 w') (fun w' => Below w1.heap.size w1 w') (fun k => k == 9) (fun _ => false) (fun _ => false) (by kernel_rfl) (by kernel_rfl) (Below.drew (Below.refl _ _)) (fun _ h => h) ?_
   repeat ((first
    | (refine wpL_read (v := ?_) (by rfl) (by rfl) (fun w6 hSw => ?_) ?_; rotate_left; (· (obtain ⟨n0, n1, n2, n3, n4, n5, n6, n7, n8⟩ := FN.out _ (bseq hb1 hSw); go_simp; try with_reducible rfl)))
    | (refine wpL_free (v := ?_) (by rfl) (fun w6 => ?_) ?_; rotate_left; (· (go_simp; try with_reducible rfl)))
    | refine wpL_not (by rfl) ?_); (try simp only [Act.put, pA, pB, pC]))
   refine wpL_call (f := ?_) (args := ?_) (TrOut2 (r.list.drop (i - k - 1).toNat) (l.list ++ x :: r.list.take (i - k - 1).toNat) a2 w1) (by rfl) (by rfl) (fun w6 hSw => ?_) (fun w6 hSw => ?_) (.inr (fun v6 w6 hT6 => ?_)) (fun v6 hv6 => ?_)
   rotate_left 2
   ·(skip; go_simp; first | done | (constructor <;> with_reducible rfl) | with_reducible rfl)
   ·((have := join_outB (la := r.list.drop (i - k - 1).toNat) (a := a2) (x := x) hSw ⟨t2, NodeAt.below hSw _ _ H2.out, H4.out⟩ (NodeAt.below (bseq hb1 hSw) _ _ HL.out) (NodeAt.below hSw _ _ H1.out) (by rw [H3.out]; have := HLK.out; rw [<- List.take_append_drop (i - k - 1).toNat r.list, <- List.cons_append, <- List.append_assoc] at this; exact this.left)); rw [H3.out] at this; exact this)
   ·(exact hT6.2.bel)
   obtain ⟨w7, hx7, t7, a7, rfl, hc7⟩ := hv6; clear hc7 hx7
   (try simp only [Act.put, pA, pB, pC])
   repeat ((first
    | (refine wpL_read (v := ?_) (by rfl) (by rfl) (fun w6 hSw => ?_) ?_; rotate_left; (· (skip; go_simp; try with_reducible rfl)))
    | (refine wpL_free (v := ?_) (by rfl) (fun w6 => ?_) ?_; rotate_left; (· (go_simp; try with_reducible rfl)))
    | refine wpL_not (by rfl) ?_); (try simp only [Act.put, pA, pB, pC]))
   refine wpL_nil ?_
   intro w3 hw3
   obtain ⟨⟨t9, hn9, hl9⟩, h10⟩ := hw3
   obtain ⟨t11, hn11, hl11, hb11⟩ := h10.out
   have hbw := bseq hb1 hb11
   clear h10
   go_wp2_with fail
   go_ret2
   have ek : i.toNat = k + ((i - k - 1).toNat + 1) := by omega
   refine ⟨t11, _, t9, _, rfl, hn11, hn9, ?_, ?_, hbw⟩
   ·rw [hl11, ek, take_mid _ _ _ _ _ HK.out]
   ·rw [hl9, ek, drop_mid _ _ _ _ _ HK.out]
def FirstPost (ls : List Pc) (w : World) (e : Ending) (w' : World) : Prop := ∃ x t a, e = .returned (.tuple #[.agg x.cells, .pointer a]) /\ NodeAt w' t a /\ ls = x :: t.list /\ Below w.heap.size w w'
def BoxS (w : World) (g : Nat) (cs : Array Value) (w' : World) : Prop := Below w.heap.size w w' /\ Blk w' g 107 cs
theorem setP_fr (w : World) (b : Nat) (A : Option Addr) (n c : Nat) (tag : Int) (s : Sums) : Fr (· = b) w (setP w b A n c tag s) :=
 (((((((Fr.refl _ w).set1 0 _).set1 1 _).set1 2 _).set1 3 _).set1 4 _).set1 5 _).set1 6 _
theorem setP_node {w : World} {b : Nat} {A : Option Addr} {n c : Nat} {tag : Int} {s : Sums} {cs : Array Value} (hk : Blk w b 107 cs) {t : Tr} {a : Option Addr} (h : NodeAt w t a) : NodeAt (setP w b A n c tag s) t a :=
 NodeAt.keepBut (KeepBut.of_fr (setP_fr w b A n c tag s) hk) (by decide) t a h
theorem part_facts' {w : World} {b : Nat} (h : Blk w b 107 (partC none 0 0 0 zeroS)) :
  (w.cell? ⟨b, 0, none⟩ = some (.slice none 0 0) /\ w.cell? ⟨b, 1, none⟩ = some (.int .i64 0) /\ w.cell? ⟨b, 2, none⟩ = some (.int .i64 0) /\ w.cell? ⟨b, 3, none⟩ = some (.int .i64 0) /\ w.cell? ⟨b, 4, none⟩ = some (.int .i64 0) /\ w.cell? ⟨b, 5, none⟩ = some (.bool false) /\ w.cell? ⟨b, 6, none⟩ = some (.bool false)) /\
  w.frozen? ⟨b, 0, none⟩ = false /\ w.frozen? ⟨b, 1, none⟩ = false /\ w.frozen? ⟨b, 2, none⟩ = false /\ w.frozen? ⟨b, 3, none⟩ = false /\ w.frozen? ⟨b, 4, none⟩ = false /\ w.frozen? ⟨b, 5, none⟩ = false /\ w.frozen? ⟨b, 6, none⟩ = false := part_facts h
theorem first_tree : ∀ (t : Tr) (a : Option Addr) (w : World), NodeAt w t a -> LstOk t.list -> t ≠ .nil ->
    Calls Tryz.prog 189 #[.pointer a] w fun e w' => FirstPost t.list w e w' := by
  intro t
  induction t with
  | nil => intro a w _ _ h; exact absurd rfl h
  | node l x r ihl ihr =>
    intro a w hnode h _
    obtain ⟨b, al, ar, rfl, hblk, hnl, hnr⟩ := hnode
    have fn := fun (w' : World) (hb : Below w.heap.size w w') => NodeC.of hblk hb
    have hW : Below w.heap.size w (w.alloc (.cells (partC none 0 0 0 zeroS) 107)) := balloc (Below.refl _ w)
    have hk0 := Blk.new w 107 (partC none 0 0 0 zeroS)
    have hlist : (Tr.node l x r).list = l.list ++ x :: r.list := rfl
    rw [hlist] at h ⊢
    have FN := Lib.hid fn
    have HLK := Lib.hid h
    have HR := Lib.hid hnr
    obtain ⟨n0, n1, n2, n3, n4, n5, n6, n7, n8⟩ := fn _ hW
    obtain ⟨W, hWe⟩ : ∃ W, w.alloc (.cells (partC none 0 0 0 zeroS) 107) = W := ⟨_, rfl⟩
    rw [hWe] at hW hk0
    simp only [partC, zeroS] at hWe n0 n1 n2 n3 n4 n5 n6 n7 n8
    have HWE := Lib.hid hWe
    have HK0 := Lib.hid hk0
    clear hWe hk0 ihr h hnr hlist hblk fn
    cases l with
    | nil =>
      cases hnl
      clear ihl
      go_enter Tryz.func189, Tryz.ntmps189
      go_wp2_with fail
      rw [HWE.out]
      refine wp_region_lin (fun w' => Below w.heap.size w w') (BoxS w w.heap.size (partC none 0 0 0 zeroS)) (fun k => k == 8) (fun _ => false) (fun _ => false) (by kernel_rfl) (by kernel_rfl) (⟨hW.drew, HK0.out.drew⟩) (fun _ h => h.1) ?_
      repeat ((first
        | (refine wpL_read (v := ?_) (by rfl) (by rfl) (fun w6 hSw => ?_) ?_; rotate_left; (· (obtain ⟨n0, n1, n2, n3, n4, n5, n6, n7, n8⟩ := FN.out _ hSw; go_simp; try with_reducible rfl)))
        | (refine wpL_free (v := ?_) (by rfl) (fun w6 => ?_) ?_; rotate_left; (· (go_simp; try with_reducible rfl)))
        | refine wpL_not (by rfl) ?_); (try simp only [Act.put, pA, pB, pC]))
      refine wpL_heavy (fun _ w'' => BoxS w w.heap.size x.cells w'') (by rfl) (by rfl) (fun w6 hSw => ?_) (.inr (fun v6 w6 hT6 => ?_)) (fun v6 hv6 => ?_)
      · (obtain ⟨hb6, hk6⟩ := hSw; obtain ⟨⟨y0, y1, y2, y3, y4, y5, y6⟩, z0, z1, z2, z3, z4, z5, z6⟩ := part_facts hk6; simp only [zeroS] at y0 y1 y2 y3 y4 y5 y6; go_simp; exact ⟨setP_below hb6 (Nat.le_refl _), setP_own hk6⟩)
      · (exact hT6.1)
      skip
      (try simp only [Act.put, pA, pB, pC])
      repeat ((first
        | (refine wpL_read (v := ?_) (by rfl) (by rfl) (fun w6 hSw => ?_) ?_; rotate_left; (· (obtain ⟨n0, n1, n2, n3, n4, n5, n6, n7, n8⟩ := FN.out _ hSw; go_simp; try with_reducible rfl)))
        | (refine wpL_free (v := ?_) (by rfl) (fun w6 => ?_) ?_; rotate_left; (· (go_simp; try with_reducible rfl)))
        | refine wpL_not (by rfl) ?_); (try simp only [Act.put, pA, pB, pC]))
      refine wpL_nil ?_
      rintro w3 ⟨hb3, hk3⟩
      obtain ⟨⟨y0, y1, y2, y3, y4, y5, y6⟩, -⟩ := part_facts (show Blk w3 _ _ (partC x.A x.n x.c x.tag x.sum) from hk3)
      go_wp2_with fail
      exact bodyPost_ret (v := .tuple #[.agg x.cells, .pointer ar]) (by simp [results, Tryz.results189, go_sem, y0, y1, y2, y3, y4, y5, y6, Pc.cells, partC]) rfl ⟨x, r, ar, rfl, NodeAt.below hb3 _ _ HR.out, rfl, hb3⟩
    | node ll lx lr =>
      have hnl' := hnl
      obtain ⟨lb, al', ar', rfl, _, _, _⟩ := hnl'
      have hih := ihl _ W (NodeAt.below hW _ _ hnl) HLK.out.left (by intro e; cases e)
      have HIH := Lib.hid hih
      clear ihl hih
      go_enter Tryz.func189, Tryz.ntmps189
      go_wp2_with fail
      rw [HWE.out]
      refine (HIH.out).mono ?_
      rintro e w1 ⟨y, t1, a1, rfl, h1, h2, hb1⟩
      clear n0 n1 n2 n3 n4 n5 n6 n7 n8
      simp only [Pc.cells, partC]
      go_wp2_with fail
      have hbw : Below w.heap.size w (w1.alloc (.cells (partC y.A y.n y.c y.tag y.sum) 107)) := balloc (bseq hW hb1)
      have hbx := Blk.new w1 107 (partC y.A y.n y.c y.tag y.sum)
      have hk1 := (HK0.out.below hb1).alloc (.cells (partC y.A y.n y.c y.tag y.sum) 107)
      have hn1 := NodeAt.below (balloc (Below.refl _ w1) (o := .cells (partC y.A y.n y.c y.tag y.sum) 107)) _ _ h1
      simp only [partC] at hbw hbx hk1 hn1
      obtain ⟨W2, hWe⟩ : ∃ W2, w1.alloc (.cells #[.slice y.A y.n y.c, .int .i64 y.tag, .int .i64 y.sum.atoms, .int .i64 y.sum.bytes, .int .i64 y.sum.breaks, .bool y.sum.lf, .bool y.sum.cr] 107) = W2 := ⟨_, rfl⟩
      rw [hWe] at hbw hbx hk1 hn1 ⊢
      have hlk : LstOk (t1.list ++ x :: r.list) := by
        have := HLK.out
        rw [h2] at this
        exact this.tail
      have fx := fun (w' : World) (hb : Below W2.heap.size W2 w') => BoxC.of (x := y) hbx hb
      have FX := Lib.hid fx
      have H1 := Lib.hid hn1
      have H2 := Lib.hid h2
      have HK := Lib.hid hlk
      have HK1 := Lib.hid hk1
      have HBW := Lib.hid hbw
      have HBX := Lib.hid hbx
      have hgne : w1.heap.size ≠ w.heap.size := by have := hb1.size; have e : W.heap.size = w.heap.size + 1 := by rw [<- HWE.out]; simp
                                                   omega
      clear hWe fx hn1 h1 h2 hlk hk1 hbx hbw
      refine wp_region_lin (fun w' => Below w.heap.size w w' /\ BoxC w' w1.heap.size y) (fun w' => Below W2.heap.size W2 w') (fun k => k == 10 || k == 11) (fun _ => false) (fun _ => false) (by kernel_rfl) (by kernel_rfl) (Below.drew (Below.refl _ _)) (fun w' h => ⟨bseq HBW.out h, FX.out w' h⟩) ?_
      repeat ((first
        | (refine wpL_read (v := ?_) (by rfl) (by rfl) (fun w6 hSw => ?_) ?_; rotate_left; (· (obtain ⟨hw6, x0, x1, x2, x3, x4, x5, x6⟩ := hSw; obtain ⟨n0, n1, n2, n3, n4, n5, n6, n7, n8⟩ := FN.out _ hw6; go_simp; try with_reducible rfl)))
        | (refine wpL_free (v := ?_) (by rfl) (fun w6 => ?_) ?_; rotate_left; (· (go_simp; try with_reducible rfl)))
        | refine wpL_not (by rfl) ?_); (try simp only [Act.put, pA, pB, pC]))
      refine wpL_call (f := ?_) (args := ?_) (TrOut (t1.list ++ x :: r.list) W2) (by rfl) (by rfl) (fun w6 hSw => ?_) (fun w6 hSw => ?_) (.inr (fun v6 w6 hT6 => ?_)) (fun v6 hv6 => ?_)
      rotate_left 2
      · (skip; go_simp; first | done | (constructor <;> with_reducible rfl) | with_reducible rfl)
      · (exact even_out hSw (NodeAt.below hSw _ _ H1.out) (NodeAt.below (bseq HBW.out hSw) _ _ HR.out) HK.out)
      · (exact ⟨bseq HBW.out hT6.bel, FX.out _ hT6.bel⟩)
      obtain ⟨w7, t7, a7, rfl, hc7⟩ := hv6; clear hc7
      (try simp only [Act.put, pA, pB, pC])
      repeat ((first
        | (refine wpL_read (v := ?_) (by rfl) (by rfl) (fun w6 hSw => ?_) ?_; rotate_left; (· (obtain ⟨hw6, x0, x1, x2, x3, x4, x5, x6⟩ := hSw; go_simp; try with_reducible rfl)))
        | (refine wpL_free (v := ?_) (by rfl) (fun w6 => ?_) ?_; rotate_left; (· (go_simp; try with_reducible rfl)))
        | refine wpL_not (by rfl) ?_); (try simp only [Act.put, pA, pB, pC]))
      refine wpL_heavy (fun _ w'' => BoxS w w.heap.size y.cells w'' /\ BoxC w'' w1.heap.size y /\ ∃ t, NodeAt w'' t a7 /\ t.list = t1.list ++ x :: r.list) (by rfl) (by rfl) (fun w6 hSw => ?_) (.inr (fun v6 w6 hT6 => ?_)) (fun v6 hv6 => ?_)
      · (obtain ⟨t8, hn8, hl8, hb8⟩ := hSw.out; have hk6 := HK1.out.below hb8; obtain ⟨⟨y0, y1, y2, y3, y4, y5, y6⟩, z0, z1, z2, z3, z4, z5, z6⟩ := part_facts' hk6; go_simp; exact ⟨⟨setP_below (bseq HBW.out hb8) (Nat.le_refl _), setP_own hk6⟩, BoxC.of (x := y) (setP_far (HBX.out.below hb8) hgne) (Below.refl _ _), t8, setP_node hk6 hn8, hl8⟩)
      · (exact ⟨hT6.1.1, hT6.2.1⟩)
      skip
      (try simp only [Act.put, pA, pB, pC])
      repeat ((first
        | (refine wpL_read (v := ?_) (by rfl) (by rfl) (fun w6 hSw => ?_) ?_; rotate_left; (· (obtain ⟨hw6, x0, x1, x2, x3, x4, x5, x6⟩ := hSw; go_simp; try with_reducible rfl)))
        | (refine wpL_free (v := ?_) (by rfl) (fun w6 => ?_) ?_; rotate_left; (· (go_simp; try with_reducible rfl)))
        | refine wpL_not (by rfl) ?_); (try simp only [Act.put, pA, pB, pC]))
      refine wpL_nil ?_
      rintro w3 ⟨⟨hb3, hk3⟩, -, t9, hn9, hl9⟩
      obtain ⟨⟨y0, y1, y2, y3, y4, y5, y6⟩, -⟩ := part_facts (show Blk w3 _ _ (partC y.A y.n y.c y.tag y.sum) from hk3)
      go_wp2_with fail
      exact bodyPost_ret (v := .tuple #[.agg y.cells, .pointer a7]) (by simp [results, Tryz.results189, go_sem, y0, y1, y2, y3, y4, y5, y6, Pc.cells, partC]) rfl ⟨y, t9, a7, rfl, hn9, by rw [hl9, H2.out]; rfl, hb3⟩
theorem both_tree (l r : Tr) (al ar : Option Addr) (w : World) (hl : NodeAt w l al) (hr : NodeAt w r ar) (h : LstOk (l.list ++ r.list)) :
  Calls Tryz.prog 182 #[.pointer al, .pointer ar] w fun e w' => TrPost (l.list ++ r.list) w e w' := by
 cases r with
 | nil =>
  cases hr
  go_enter Tryz.func182, Tryz.ntmps182
  go_wp2_with fail
  go_ret
  exact ⟨l, al, rfl, hl, by simp [Tr.list], Below.refl _ _⟩
 | node ml mx mr =>
  have hf := first_tree _ ar w hr h.right (by intro e; cases e)
  obtain ⟨b, _, _, rfl, _, _, _⟩ := hr
  obtain ⟨rl, hrl⟩ : ∃ rl, (Tr.node ml mx mr).list = rl := ⟨_, rfl⟩
  rw [hrl] at hf h ⊢
  have HF := Lib.hid hf
  have HL := Lib.hid hl
  have HK := Lib.hid h
  clear hf hl h hrl
  go_enter Tryz.func182, Tryz.ntmps182
  go_wp2_with fail
  refine (HF.out).mono ?_
  rintro e w1 ⟨x, t, a, rfl, h1, h2, hb1⟩
  have hbw : Below w.heap.size w (w1.alloc (.cells x.cells 107)) := balloc hb1
  have hj := join_any _ l t al a x (w1.alloc (.cells x.cells 107)) (Nat.le_refl _) (NodeAt.below hbw _ _ HL.out) (NodeAt.below (balloc (Below.refl _ w1)) _ _ h1) (by rw [<- h2]; exact HK.out)
  obtain ⟨x0, x1, x2, x3, x4, x5, x6⟩ := BoxC.of (Blk.new w1 107 x.cells) (Below.refl _ _)
  rw [<- h2] at hj
  have HJ := Lib.hid hj
  clear hj h1 h2
  simp only [Pc.cells, partC] at *
  go_wp2_with fail
  refine (HJ.out).mono ?_
  rintro e w3 ⟨t3, a3, rfl, hn3, hl3, hb3⟩
  go_wp2_with fail
  go_ret
  exact ⟨t3, a3, rfl, hn3, hl3, bseq hbw hb3⟩
def ReplPost (ls : List Pc) (w : World) (e : Ending) (w' : World) : Prop := ∃ t a, e = .returned (.tuple #[.agg #[.pointer a], .int .i64 0]) /\ NodeAt w' t a /\ t.list = ls /\ Below w.heap.size w w'
theorem replace_tree (t : Tr) (a : Option Addr) (f k : Nat) (D : Nat -> Prop) (A : Option Addr) (n c : Nat) (ps : List Pc) (w : World) (h : NodeAt w t a) (hk : LstOk t.list) (hp : Parts w D A n ps) (hfk : f <= k) (hks : k <= t.list.length) (hc : n <= c)
  (hL : LstOk (t.list.take f ++ ps ++ t.list.drop k)) :
  Calls Tryz.prog 170 #[.agg #[.pointer a], .int .i64 (f : Int), .int .i64 (k : Int), .slice A n c] w fun e w' => ReplPost (t.list.take f ++ ps ++ t.list.drop k) w e w' := by
 have hlen := hp.len
 have hlp := hL.left.right
 obtain ⟨W, hWe⟩ : ∃ W, (w.alloc (.cells #[.pointer a] 102)).alloc (.cells #[.pointer none] 102) = W := ⟨_, rfl⟩
 have hW : Below w.heap.size w W := by rw [<- hWe]; exact balloc (balloc (Below.refl _ _))
 have hb1 : Blk W w.heap.size 102 #[.pointer a] := by rw [<- hWe]; exact (Blk.new w _ _).alloc _
 have hb2 : Blk W (w.heap.size + 1) 102 #[.pointer none] := by
  rw [<- hWe]
  have := Blk.new (w.alloc (.cells #[.pointer a] 102)) 102 #[.pointer none]
  simpa using this
 have hn := NodeAt.below hW t a h
 have fb := fun (w' : World) (hb : Below W.heap.size W w') => (And.intro ((hb1.below hb).cell 0) (And.intro ((hb2.below hb).cell 0) ((hb2.below hb).frozen 0)))
 have ks := tsize_any t a W hn
 have k1 := fun (w' : World) (hb : Below W.heap.size W w') => tcut_any t a (f : Int) w' (NodeAt.below hb _ _ hn) hk (by omega) (by have := hk.len; omega)
 have k2 := fun (w' : World) (hb : Below W.heap.size W w') => tcut_any t a (k : Int) w' (NodeAt.below hb _ _ hn) hk (by omega) (by have := hk.len; omega)
 have k3 := fun (w' : World) (hb : Below W.heap.size W w') => build_any ps.length D A n c ps w' (by omega) (Parts.below (Parts.below hp hW) hb) hlp.good hlp.tot (by have := hlp.len; omega) hc
 simp only [Int.toNat_natCast] at k1 k2
 rw [Tr.size_list] at ks
 obtain ⟨c1, c2, c3⟩ := fb W (Below.refl _ _)
 have q1 : ((f : Int) < 0) = False := by simp
 have q2 : ((k : Int) < (f : Int)) = False := by simp; omega
 have q3 : (((t.list.length : Nat) : Int) < (k : Int)) = False := by simp; omega
 obtain ⟨N, hN⟩ : ∃ N, t.list.length = N := ⟨_, rfl⟩
 rw [hN] at ks q3
 have HWE := Lib.hid hWe
 have FB := Lib.hid fb
 have KS := Lib.hid ks
 have K1 := Lib.hid k1
 have K2 := Lib.hid k2
 have K3 := Lib.hid k3
 have HL := Lib.hid hL
 have HB2 := Lib.hid hb2
 simp at c1 c2
 clear hWe fb ks k1 k2 k3 hL hb1 hb2 hn h hp hN hlen hks hfk
 go_enter Tryz.func170, Tryz.ntmps170
 go_wp2_with fail
 rw [HWE.out]
 refine (KS.out).mono ?_
 rintro e w1 ⟨rfl, hb1⟩
 obtain ⟨c1', -, -⟩ := FB.out _ hb1
 simp at c1'
 go_wp2_with fail
 refine (K1.out _ hb1).mono ?_
 rintro e w2 ⟨t1, a1, t2, a2, rfl, h1, h2, h3, h4, hb2⟩
 have hb2' := bseq hb1 hb2
 obtain ⟨c2', -, -⟩ := FB.out _ hb2'
 simp at c2'
 have H1 := Lib.hid h1
 have H3 := Lib.hid h3
 clear c1' h1 h2 h3 h4
 go_wp2_with fail
 refine (K2.out _ hb2').mono ?_
 rintro e w3 ⟨t3, a3, t4, a4, rfl, h5, h6, h7, h8, hb3⟩
 have hb3' := bseq hb2' hb3
 have H6 := Lib.hid h6
 have H8 := Lib.hid h8
 clear c2' h5 h6 h7 h8
 go_wp2_with fail
 refine (K3.out _ hb3').mono ?_
 rintro e w4 ⟨a5, rfl, h9, hb4⟩
 have hb4' := bseq hb3' hb4
 have e5 : (btF ps.length ps).list = ps := btF_list _ _ (Nat.le_refl _)
 have hk1 := both_tree t1 (btF ps.length ps) a1 a5 w4 (NodeAt.below hb4 _ _ (NodeAt.below hb3 _ _ H1.out)) h9 (by rw [H3.out, e5]; exact HL.out.left)
 rw [H3.out, e5] at hk1
 have HK1 := Lib.hid hk1
 clear hk1 h9 e5
 go_wp2_with fail
 refine (HK1.out).mono ?_
 rintro e w5 ⟨t6, a6, rfl, h10, h11, hb5⟩
 have hb5' := bseq hb4' hb5
 have hk2 := both_tree t6 t4 a6 a4 w5 h10 (NodeAt.below hb5 _ _ (NodeAt.below hb4 _ _ H6.out)) (by rw [h11, H8.out]; exact HL.out)
 rw [h11, H8.out] at hk2
 have HK2 := Lib.hid hk2
 clear hk2 h10 h11
 go_wp2_with fail
 refine (HK2.out).mono ?_
 rintro e w6 ⟨t7, a7, rfl, h12, h13, hb6⟩
 have hb6' := bseq hb5' hb6
 obtain ⟨-, d2, d3⟩ := FB.out _ hb6'
 have hB2 := HB2.out.below hb6'
 simp at d2
 have H12 := Lib.hid h12
 have H13 := Lib.hid h13
 have HBB := Lib.hid hB2
 clear h12 h13 hB2
 go_wp2_with fail
 have d4 : (w6.setCell ⟨w.heap.size + 1, 0, none⟩ (.pointer a7)).cell? ⟨w.heap.size + 1, 0, none⟩ = some (.pointer a7) := (HBB.out.set_ 0 _).cell 0
 refine bodyPost_ret (v := .tuple #[.agg #[.pointer a7], .int .i64 0]) (by simp [results, Tryz.results170, go_sem, d4]) rfl ⟨t7, a7, rfl, ?_, H13.out, (bseq hW hb6').setCell (by simp) _⟩
 exact NodeAt.keepBut (KeepBut.of_fr ((Fr.refl _ _).set1 0 _) HBB.out) (by decide) _ _ H12.out
theorem cell_spot {w : World} {p : Addr} {v : Value} (h : w.cell? p = some v) : p = ⟨p.block, p.off, none⟩ := by
 obtain ⟨b, o, s⟩ := p
 cases s with
 | none => rfl
 | some s =>
  unfold World.cell? at h
  split at h
  ·simp at h
  ·cases h
theorem add_cell (b o j : Nat) : (⟨b, o, none⟩ : Addr).add j = ⟨b, o + j, none⟩ := by
 unfold Addr.add
 split
 ·rename_i h; rw [h]; rfl
 ·rfl
section
variable {P : Program} (w : World)
theorem run_append_kept (base : Nat) (t ty e : TypeId) (i : TypeInfo) (z : Value) (size bytes : Nat) (ht : P.underlying t = some (.slice e)) (hi : P.info? e = some i) (hz : i.zero = some z)
  (hsize : i.size = size) (hby : i.bytes = bytes) (hzs : z.cells.size = size) (hsz : 0 < size)
  (v : Value) (n : Nat) (xs : List Value) (hown : w.ownsRow base e size v n xs)
  (a : Addr) (m c : Nat) (news : List Value) (hl : news.length = m * size) (hnews : ∀ j u, news[j]? = some u -> w.cell? (a.add j) = some u) (h1 : ∀ u ∈ news, u.oneCell' = true)
  (h63 : n + m <= maxLen) (hbytes : (n + m) * bytes <= 140737488355328) (hbase : base <= w.heap.size) :
  ∃ v' w', (Builtin.append_ #[t, t] ty #[v, .slice (some a) m c]).run P w = .ok v' w' /\ w'.ownsRow base e size v' (n + m) (xs ++ news) /\ w.grownBy w' v.ownBlock /\
   (v'.ownBlock = v.ownBlock \/ v'.ownBlock = some w.heap.size) /\ (∀ b o, v.ownBlock = some b -> o < n * size -> w'.cell? ⟨b, o, none⟩ = w.cell? ⟨b, o, none⟩) /\ (∀ b, v.ownBlock = some b -> ∃ cs, Blk w' b e cs) := by
 obtain ⟨v', w', hr, h2, h3, _, h5⟩ := run_append_own_at (P := P) w base t ty e i z size bytes ht hi hz hsize hby hzs hsz v n xs hown a m c news hl hnews h1 h63 hbytes hbase
 have hshape : ∀ b, v.ownBlock = some b -> ∃ cs, Blk w' b e cs := by
  intro b hb
  subst hsize
  subst hby
  rcases hown.2 with ⟨rfl, rfl⟩ | ⟨g, cap, cur, rfl, hbg, hg, hnc, hcm, hcs, htake⟩
  ·simp [Value.ownBlock] at hb
  ·have hgb : g = b := by simpa [Value.ownBlock] using hb
   subst hgb
   by_cases hroom : n + m <= cap
   ·have hfit : n * i.size + news.length <= cur.size := by rw [hl, hcs, <- Nat.add_mul]; exact Nat.mul_le_mul_right _ hroom
    have hr2 := run_append_room (P := P) w t ty e i ht hi g n cap cur hg a m c news hl hnews h1 hroom hfit
    rw [hr2] at hr
    injection hr with hv hw
    rcases h2.2 with ⟨hv', _⟩ | ⟨g', cap', cur', hv', _, hg', _⟩
    ·rw [hv'] at hv; cases hv
    ·rw [hv'] at hv
     injection hv with hv
     injection hv with hv
     injection hv with hv
     subst hv
     exact ⟨cur', hg'⟩
   ·have holds : ∀ j u, xs[j]? = some u -> w.cell? ((⟨g, 0, none⟩ : Addr).add j) = some u := hown.cells (g := g) rfl
    have hr2 := run_append_grow (P := P) w t ty e i z ht hi hz ⟨g, 0, none⟩ n cap xs hown.1 holds a m c news hl hnews (by omega) (by simp only [maxLen] at h63; omega) (growslice_fits (by omega) hbytes)
    rw [hr2] at hr
    injection hr with _ hw
    rw [<- hw]
    exact ⟨cur, (heap_alloc_old w.drew _ (Array.getElem?_eq_some_iff.1 hg).1).trans hg⟩
 refine ⟨v', w', hr, h2, h3, h5, fun b o hb ho => ?_, hshape⟩
 subst hsize
 subst hby
 have hlen := hown.1
 have hsmall : n + m <= 9223372036854775807 := by simp only [maxLen] at h63; omega
 obtain ⟨u, hu⟩ : ∃ u, xs[o]? = some u := ⟨xs[o], List.getElem?_eq_getElem (by omega)⟩
 have hold := hown.cells hb o u hu
 rw [add_cell, Nat.zero_add] at hold
 rcases hown.2 with ⟨rfl, rfl⟩ | ⟨g, cap, cur, rfl, hbg, hg, hnc, hcm, hcs, htake⟩
 ·simp [Value.ownBlock] at hb
 ·have hgb : g = b := by simpa [Value.ownBlock] using hb
  subst hgb
  by_cases hroom : n + m <= cap
  ·have hfit : n * i.size + news.length <= cur.size := by rw [hl, hcs, <- Nat.add_mul]; exact Nat.mul_le_mul_right _ hroom
   have hr2 := run_append_room (P := P) w t ty e i ht hi g n cap cur hg a m c news hl hnews h1 hroom hfit
   rw [hr2] at hr
   injection hr with hv hw
   have hnew := h2.cells (g := g) (by rw [<- hv]; rfl) o u (by rw [List.getElem?_append_left (by omega)]; exact hu)
   rw [add_cell, Nat.zero_add] at hnew
   rw [hnew, hold]
  ·have holds : ∀ j u, xs[j]? = some u -> w.cell? ((⟨g, 0, none⟩ : Addr).add j) = some u := hown.cells (g := g) rfl
   have hr2 := run_append_grow (P := P) w t ty e i z ht hi hz ⟨g, 0, none⟩ n cap xs hown.1 holds a m c news hl hnews (by omega) (by omega) (growslice_fits (by omega) hbytes)
   rw [hr2] at hr
   injection hr with _ hw
   rw [<- hw]
   exact World.cell?_of_block (heap_alloc_old w.drew _ (Array.getElem?_eq_some_iff.1 hg).1)
end
theorem hrun_append_kept {P : Program} {T : Value -> World -> Prop} {o : Oper} {a : Act} {s x : Operand} {w : World} (t : TypeId)
  (ho : o.op = .call { callee := .builtin .append, args := #[s, x], argTypes := #[t, t] })
  (base : Nat) (e : TypeId) (i : TypeInfo) (z : Value) (size bytes : Nat) (ht : P.underlying t = some (.slice e)) (hi : P.info? e = some i) (hz : i.zero = some z)
  (hsize : i.size = size) (hby : i.bytes = bytes) (hzs : z.cells.size = size) (hsz : 0 < size)
  (v : Value) (n : Nat) (xs : List Value) (hs : a.eval s = v) (hown : w.ownsRow base e size v n xs)
  (ad : Addr) (m c : Nat) (news : List Value) (hx : a.eval x = .slice (some ad) m c) (hl : news.length = m * size) (hnews : ∀ j u, news[j]? = some u -> w.cell? (ad.add j) = some u) (h1 : ∀ u ∈ news, u.oneCell' = true)
  (h63 : n + m <= maxLen) (hbytes : (n + m) * bytes <= 140737488355328) (hbase : base <= w.heap.size)
  (h : ∀ v' w', w'.ownsRow base e size v' (n + m) (xs ++ news) -> w.grownBy w' v.ownBlock -> (v'.ownBlock = v.ownBlock \/ v'.ownBlock = some w.heap.size) -> (∀ b o, v.ownBlock = some b -> o < n * size -> w'.cell? ⟨b, o, none⟩ = w.cell? ⟨b, o, none⟩) -> (∀ b, v.ownBlock = some b -> ∃ cs, Blk w' b e cs) -> T v' w') : HRun P T ((execOp a.eval o).run P w) := by
 obtain ⟨v', w', hr, h2, h3, h4, h5, h6⟩ := run_append_kept (P := P) w base t o.type e i z size bytes ht hi hz hsize hby hzs hsz v n xs hown ad m c news hl hnews h1 h63 hbytes hbase
 exact hrun_append ho hs hx hr (h v' w' h2 h3 h4 h5 h6)
def Low (add : Value) (n : Nat) (p : Pc) : Prop := ∀ ad, p.A = some ad -> add.ownBlock = some ad.block -> ad.off + p.n <= n
structure PsIn (w : World) (add : Value) (n : Nat) (enc : Int) (ps : List Pc) : Prop where
 ok : ∀ p ∈ ps, PcOk enc p
 bts : ∀ p ∈ ps, Bts w Any p.A p.n p.bytes
 low : ∀ p ∈ ps, Low add n p
 tgs : ∀ p ∈ ps, p.tag + p.n <= 1073741824
 u8 : U8s w ps
theorem PsIn.nil (w : World) (add : Value) (n : Nat) (enc : Int) : PsIn w add n enc [] := ⟨fun _ h => (by cases h), fun _ h => (by cases h), fun _ h => (by cases h), fun _ h => (by cases h), fun _ h => (by cases h)⟩
theorem PsIn.sub {w : World} {add : Value} {n : Nat} {enc : Int} {ps qs : List Pc} (h : PsIn w add n enc ps) (hs : ∀ q ∈ qs, q ∈ ps) : PsIn w add n enc qs :=
 ⟨fun p hp => h.ok p (hs p hp), fun p hp => h.bts p (hs p hp), fun p hp => h.low p (hs p hp), fun p hp => h.tgs p (hs p hp), fun p hp => h.u8 p (hs p hp)⟩
theorem PsIn.app {w : World} {add : Value} {n : Nat} {enc : Int} {ps qs : List Pc} (h : PsIn w add n enc ps) (k : PsIn w add n enc qs) : PsIn w add n enc (ps ++ qs) :=
 ⟨fun p hp => (List.mem_append.1 hp).elim (h.ok p) (k.ok p), fun p hp => (List.mem_append.1 hp).elim (h.bts p) (k.bts p), fun p hp => (List.mem_append.1 hp).elim (h.low p) (k.low p), fun p hp => (List.mem_append.1 hp).elim (h.tgs p) (k.tgs p), fun p hp => (List.mem_append.1 hp).elim (h.u8 p) (k.u8 p)⟩
structure TreeIn (w : World) (add : Value) (n : Nat) (enc : Int) (t : Tr) (a : Option Addr) : Prop where
 node : NodeAt w t a
 tot : totB t.list <= 16777216
 pcs : PsIn w add n enc t.list
structure TStep (g : Nat) (add add' : Value) (n n' : Nat) (w w' : World) : Prop where
 fr : Fr (fun b => b = g \/ add.ownBlock = some b) w w'
 low : ∀ b o, add.ownBlock = some b -> o < n -> w'.cell? ⟨b, o, none⟩ = w.cell? ⟨b, o, none⟩
 own : ∀ b, add'.ownBlock = some b -> add.ownBlock = some b \/ w.heap.size <= b
 le : n <= n'
 u8 : ∀ b cs, Blk w b 5 cs -> ∃ cs', Blk w' b 5 cs'
section
variable {g n n' k B : Nat} {add add' add2 : Value} {w w' w'' : World} {xs : List Value} {enc : Int}
theorem TStep.below (hr : w.ownsRow B 5 1 add n xs) (h : Below w.heap.size w w') : TStep g add add n n w w' :=
 ⟨Fr.of_below h, fun b o hb _ => World.cell?_of_block (w := w) (h.block b (hr.lt b hb).2), fun _ h => .inl h, Nat.le_refl _, fun _ cs hb => ⟨cs, hb.below h⟩⟩
theorem TStep.trans (h1 : TStep g add add' n n' w w') (h2 : TStep g add' add2 n' k w' w'') (hr : w.ownsRow B 5 1 add n xs) (hne : add.ownBlock ≠ some g) : TStep g add add2 n k w w'' := by
 refine ⟨h1.fr.call h2.fr (fun i hi hs => ?_), fun b o hb ho => ?_, fun b hb => ?_, Nat.le_trans h1.le h2.le, fun b cs hb => ?_⟩
 rotate_left 3
 ·obtain ⟨cs', hc⟩ := h1.u8 b cs hb
  exact h2.u8 b cs' hc
 ·rcases hs with hs | hs
  ·exact .inl hs
  ·rcases h1.own i hs with h | h
   ·exact .inr h
   ·omega
 ·have hlt := (hr.lt b hb).2
  refine Eq.trans ?_ (h1.low b o hb ho)
  by_cases hB : add'.ownBlock = some b
  ·exact h2.low b o hB (Nat.lt_of_lt_of_le ho h1.le)
  ·refine h2.fr.cell (Nat.lt_of_lt_of_le hlt h1.fr.size) ?_ o
   rintro (h | h)
   ·subst h; exact hne hb
   ·exact hB h
 ·rcases h2.own b hb with h | h
  ·exact h1.own b h
  ·exact .inr (Nat.le_trans h1.fr.size h)
theorem TStep.set {cs : Array Value} (hr : w.ownsRow B 5 1 add n xs) (hg : Blk w g 104 cs) (hne : add.ownBlock ≠ some g) (i : Nat) (u : Value) : TStep g add add n n w (w.setCell ⟨g, i, none⟩ u) := by
 refine ⟨(Fr.refl _ _).setCell (.inl (.inl rfl)) u, fun b o hb _ => ?_, fun _ h => .inl h, Nat.le_refl _, fun b cs' hb => ⟨cs', hb.far (fun e => Blk.ne_ hb hg (by decide) e) u⟩⟩
 refine World.cell?_of_block (w := w) (Below.heap_setCell w _ u b ?_)
 rintro rfl
 exact hne hb
theorem TStep.loc {S : Nat -> Prop} (h : TStep g add add' n n' w w') (hf : Fr S w' w'') (hS : ∀ b, S b -> w.heap.size <= b) (hr : w.ownsRow B 5 1 add n xs) : TStep g add add' n n' w w'' := by
 refine ⟨h.fr.call hf (fun i hi hs => absurd (hS i hs) (by omega)), fun b o hb ho => ?_, h.own, h.le, fun b cs hb => ?_⟩
 ·have hlt := (hr.lt b hb).2
  exact (hf.cell (Nat.lt_of_lt_of_le hlt h.fr.size) (fun hs => by have := hS b hs; omega) o).trans (h.low b o hb ho)
 ·obtain ⟨cs', hc⟩ := h.u8 b cs hb
  exact ⟨cs', hc.fr hf (fun hs => by have := hS b hs; have := hb.lt; omega)⟩
theorem TStep.grow {w1 : World} {m : Nat} {zs : List Value} (hr : w.ownsRow B 5 1 add n xs) (hf : Fr (fun b => b = g) w w1) (hne : add.ownBlock ≠ some g) (hown : w'.ownsRow B 5 1 add' (n + m) zs) (hg : w1.grownBy w' add.ownBlock) (hat : add'.ownBlock = add.ownBlock \/ add'.ownBlock = some w1.heap.size)
  (hk : ∀ b o, add.ownBlock = some b -> o < n * 1 -> w'.cell? ⟨b, o, none⟩ = w1.cell? ⟨b, o, none⟩) (hsh : ∀ b, add.ownBlock = some b -> ∃ cs, Blk w' b 5 cs) (hgb : ∀ cs, ¬ Blk w g 5 cs) : TStep g add add' n (n + m) w w' := by
 refine ⟨⟨hg.os.trans hf.os, hg.tape.trans hf.tape, hg.output.trans hf.output, Nat.le_trans hf.size hg.size, fun i hi hn => ?_⟩, fun b o hb ho => ?_, fun b hb => ?_, by omega, fun b cs hb => ?_⟩
 ·exact (hg.block i (Nat.lt_of_lt_of_le hi hf.size) (fun e => hn (.inr e.symm))).trans (hf.block i hi (fun e => hn (.inl e)))
 ·rw [hk b o hb (by omega)]
  exact hf.cell (hr.lt b hb).2 (fun e => hne (e ▸ hb)) o
 ·rcases hat with h | h
  ·exact .inl (by rw [<- h]; exact hb)
  ·rw [h] at hb
   injection hb with hb
   have := hf.size
   exact .inr (by omega)
 ·by_cases hB : add.ownBlock = some b
  ·exact hsh b hB
  ·have h1 := hb.fr hf (fun e => hgb cs (e ▸ hb))
   exact ⟨cs, h1.grown hg (fun e => hB e.symm)⟩
theorem NodeAt.keepS {w w' : World} (hk : ∀ b cs, Blk w b 147 cs -> w'.heap[b]? = w.heap[b]?) : ∀ (t : Tr) (a : Option Addr), NodeAt w t a -> NodeAt w' t a := by
 intro t
 induction t with
 | nil => intro a h; exact h
 | node l x r ihl ihr =>
  rintro a ⟨b, al, ar, e, h, hl, hr⟩
  exact ⟨b, al, ar, e, (hk b _ h).trans h, ihl al hl, ihr ar hr⟩
theorem Bts.keepS {D : Nat -> Prop} {A : Option Addr} {m : Nat} {l : List Int} (h : Bts w D A m l) (hk : ∀ ad j x, A = some ad -> j < m -> w.cell? ⟨ad.block, ad.off + j, none⟩ = some (.int .u8 x) -> w'.cell? ⟨ad.block, ad.off + j, none⟩ = w.cell? ⟨ad.block, ad.off + j, none⟩) : Bts w' D A m l := by
 refine ⟨h.1, fun hn => ?_⟩
 obtain ⟨ad, e, hd, hc⟩ := h.2 hn
 refine ⟨ad, e, hd, fun j u hj => ?_⟩
 have h0 : ∃ u0, (l.map (Value.int .u8))[0]? = some u0 := ⟨_, List.getElem?_eq_getElem (by have := h.1; omega)⟩
 obtain ⟨u0, h0⟩ := h0
 have hs := cell_spot (hc 0 u0 h0)
 rw [add_zero] at hs
 have hc1 := hc j u hj
 have hjm : j < m := by have := (List.getElem?_eq_some_iff.1 hj).1; have := h.1; omega
 rw [hs, add_cell] at hc1 ⊢
 rw [List.getElem?_map] at hj
 cases hl : l[j]? with
 | none => rw [hl] at hj; cases hj
 | some x =>
  rw [hl] at hj
  injection hj with hj
  rw [<- hj] at hc1 ⊢
  rw [hk ad j x e hjm hc1]
  exact hc1
theorem PsIn.step {ps : List Pc} {cs : Array Value} (h : PsIn w add n enc ps) (hs : TStep g add add' n n' w w') (hg : Blk w g 104 cs) : PsIn w' add' n' enc ps := by
 refine ⟨h.ok, fun p hp => Bts.keepS (h.bts p hp) (fun ad j x e hj hc => ?_), fun p hp ad e hB => ?_, h.tgs, fun p hp ad e => ?_⟩
 ·by_cases hB : add.ownBlock = some ad.block
  ·exact hs.low _ _ hB (by have := h.low p hp ad e hB; omega)
  ·refine hs.fr.cell (lt_of_cell hc) ?_ _
   obtain ⟨cs', hc'⟩ := h.u8 p hp ad e
   rintro (h1 | h1)
   ·exact Blk.ne_ hc' hg (by decide) h1
   ·exact hB h1
 ·obtain ⟨cs', hc'⟩ := h.u8 p hp ad e
  have hlt := hc'.lt
  rcases hs.own _ hB with h1 | h1
  ·exact Nat.le_trans (h.low p hp ad e h1) hs.le
  ·omega
 ·obtain ⟨cs', hc'⟩ := h.u8 p hp ad e
  exact hs.u8 _ _ hc'
theorem TreeIn.step {t : Tr} {a : Option Addr} {cs : Array Value} (h : TreeIn w add n enc t a) (hs : TStep g add add' n n' w w') (hr : w.ownsRow B 5 1 add n xs) (hg : Blk w g 104 cs) : TreeIn w' add' n' enc t a := by
 refine ⟨NodeAt.keepS (fun b cs' hb => hs.fr.block b hb.lt ?_) t a h.node, h.tot, h.pcs.step hs hg⟩
 rintro (h1 | h1)
 ·exact Blk.ne_ hb hg (by decide) h1
 ·exact own_blk_ne hr hb (by decide) h1
def Far (w : World) (k : Nat) : Prop := (∃ T cs, Blk w k T cs /\ T ≠ 104 /\ T ≠ 147 /\ T ≠ 5) \/ (∃ o, w.heap[k]? = some o /\ ∀ cs T f, o ≠ .cells cs T f)
theorem Far.blk {T : TypeId} {cs : Array Value} {k : Nat} (h : Blk w k T cs) (h1 : T ≠ 104 /\ T ≠ 147 /\ T ≠ 5) : Far w k := .inl ⟨T, cs, h, h1⟩
theorem Far.own {T : TypeId} {k base size m : Nat} {v : Value} {ys : List Value} (h : w.ownsRow base T size v m ys) (hk : v.ownBlock = some k) (h1 : T ≠ 104 /\ T ≠ 147 /\ T ≠ 5) : Far w k := by
 rcases h.2 with ⟨rfl, _⟩ | ⟨g, cap, cur, rfl, _, hg, _⟩
 ·cases hk
 ·have : g = k := by simpa [Value.ownBlock] using hk
  subst this
  exact .inl ⟨T, cur, hg, h1⟩
theorem Far.ne {k b : Nat} {cs : Array Value} (h : Far w k) {T : TypeId} (hT : T = 104 \/ T = 147 \/ T = 5) (hb : Blk w b T cs) : b ≠ k := by
 rintro rfl
 rcases h with ⟨T', cs', h1, h2, h3, h4⟩ | ⟨o, h1, h2⟩
 ·unfold Blk at h1 hb
  rw [h1] at hb
  injection hb with hb
  injection hb with _ hb
  rcases hT with rfl | rfl | rfl
  ·exact h2 hb
  ·exact h3 hb
  ·exact h4 hb
 ·unfold Blk at hb
  rw [h1] at hb
  injection hb with hb
  exact h2 _ _ _ hb
theorem PsIn.far {S : Nat -> Prop} {ps : List Pc} (h : PsIn w add n enc ps) (hf : Fr S w w') (hS : ∀ k, k < w.heap.size -> S k -> Far w k) : PsIn w' add n enc ps := by
 have key : ∀ p ∈ ps, ∀ ad, p.A = some ad -> ad.block < w.heap.size /\ ¬ S ad.block := fun p hp ad e => by
  obtain ⟨cs, hc⟩ := h.u8 p hp ad e
  exact ⟨hc.lt, fun hs => (hS _ hc.lt hs).ne (.inr (.inr rfl)) hc rfl⟩
 refine ⟨h.ok, fun p hp => Bts.keepS (h.bts p hp) (fun ad j x e hj hc => ?_), h.low, h.tgs, fun p hp ad e => ?_⟩
 ·exact hf.cell (key p hp ad e).1 (key p hp ad e).2 _
 ·obtain ⟨cs, hc⟩ := h.u8 p hp ad e
  exact ⟨cs, hc.fr hf (key p hp ad e).2⟩
theorem TreeIn.far {S : Nat -> Prop} {t : Tr} {a : Option Addr} (h : TreeIn w add n enc t a) (hf : Fr S w w') (hS : ∀ k, k < w.heap.size -> S k -> Far w k) : TreeIn w' add n enc t a :=
 ⟨NodeAt.keepS (fun b cs' hb => hf.block b hb.lt (fun hs => (hS b hb.lt hs).ne (.inr (.inl rfl)) hb rfl)) t a h.node, h.tot, h.pcs.far hf hS⟩
end
structure TextM (w : World) (B g : Nat) (enc lim : Int) (n : Nat) (add : Value) (t : Tr) (a : Option Addr) (xs : List Value) : Prop where
 blk : Blk w g 104 #[.int .i64 enc, .int .i64 lim, .pointer a, add]
 row : w.ownsRow B 5 1 add n xs
 enc4 : enc = 1 \/ enc = 2 \/ enc = 3 \/ enc = 4
 base : B <= w.heap.size
 tree : TreeIn w add n enc t a
section
variable {w w' : World} {B g n n' : Nat} {enc lim : Int} {add : Value} {t : Tr} {a : Option Addr} {xs : List Value}
theorem TextM.ne (h : TextM w B g enc lim n add t a xs) : add.ownBlock ≠ some g := own_blk_ne h.row h.blk (by decide)
theorem totB_len {enc : Int} : ∀ {ps : List Pc}, (∀ p ∈ ps, PcOk enc p) -> (ps.length : Int) <= totB ps := by
 intro ps
 induction ps with
 | nil => intro _; simp [totB]
 | cons p ps ih =>
  intro h
  have h1 := ih (fun q hq => h q (List.mem_cons_of_mem _ hq))
  have hp := h p List.mem_cons_self
  have h2 : 0 < p.sum.bytes := by
   rw [hp.sum, sumsOf_bytes, hp.len]
   have := hp.pos
   omega
  rw [totB_cons, List.length_cons]
  omega
theorem TextM.text (h : TextM w B g enc lim n add t a xs) : TextIn w Any g enc lim t a add :=
 ⟨h.blk, h.enc4, h.tree.node, by have := totB_len h.tree.pcs.ok; have := h.tree.tot; omega, by have := h.tree.tot; omega, h.tree.pcs.ok, h.tree.pcs.bts⟩
theorem TextM.below (h : TextM w B g enc lim n add t a xs) (hb : Below w.heap.size w w') : TextM w' B g enc lim n add t a xs :=
 ⟨h.blk.below hb, own_bel h.row hb, h.enc4, Nat.le_trans h.base hb.size, h.tree.step (g := g) (TStep.below h.row hb) h.row h.blk⟩
theorem TextL.textM {D : Nat -> Prop} {ds ats : List (Int × Int)} (h : TextL w D g enc lim ds ats) (hs : (ds.map Prod.snd).sum <= 65536) : ∃ t a, TextM w 0 g enc lim 0 (.slice none 0 0) t a [] /\ decL enc t.list = ds /\ atsL enc t.list = ats := by
 obtain ⟨t, a, add, h, hu, hd, ha, rfl, htg⟩ := h
 refine ⟨t, a, ⟨h.blk, World.ownsRow_nil _ _ _ _, h.enc4, Nat.zero_le _, h.node, ?_, h.ok, fun p hp => Reads.more (h.bts p hp) (fun _ _ _ => trivial) (by decide), fun p _ ad _ hb => (by cases hb), htg, hu⟩, hd, ha⟩
 have h1 := (sumL_good h.good).2
 rw [sumL_dec h.ok, (sumsOf_good' (decL_pos enc _)).2.2, hd] at h1
 omega
end
def cutL (enc : Int) (x : Pc) (n : Nat) : Pc := ⟨x.A, (szs enc x.bytes n).toNat, (szs enc x.bytes n).toNat, x.tag, sumsOf ((dec enc x.bytes).take n), x.bytes.take (szs enc x.bytes n).toNat⟩
def cutR (enc : Int) (x : Pc) (n : Nat) : Pc :=
 ⟨if x.c = (szs enc x.bytes n).toNat then x.A else x.A.map (·.add (szs enc x.bytes n).toNat), x.n - (szs enc x.bytes n).toNat, x.c - (szs enc x.bytes n).toNat, if 0 <= x.tag then x.tag + szs enc x.bytes n else x.tag, sumsOf ((dec enc x.bytes).drop n), x.bytes.drop (szs enc x.bytes n).toNat⟩
theorem cutV_eq (enc : Int) (x : Pc) (n : Nat) : CutV enc x (n : Int) = .tuple #[.agg (cutL enc x n).cells, .agg (cutR enc x n).cells] := rfl
theorem szs_pos (enc : Int) (l : List Int) (n : Nat) (hn : 0 < n) (hl : 0 < l.length) : 1 <= szs enc l n := by
 obtain ⟨k, rfl⟩ : ∃ k, n = k + 1 := ⟨n - 1, by omega⟩
 rw [szs_succ enc l k hl]
 have h1 := sizeAt_bd enc l hl
 have h2 := szs_bd enc k (l.drop (sizeAt enc l).toNat)
 omega
theorem szs_lt (enc : Int) (l : List Int) (n : Nat) (h : n < (dec enc l).length) : szs enc l n < l.length := by
 have h1 := szs_bd enc n l
 have h2 := dec_drop enc n l
 have h3 : 0 < (l.drop (szs enc l n).toNat).length := by
  rcases Nat.eq_zero_or_pos (l.drop (szs enc l n).toNat).length with h0 | h0
  ·rw [List.eq_nil_of_length_eq_zero h0, dec_nil] at h2
   have := congrArg List.length h2
   rw [List.length_drop, List.length_nil] at this
   omega
  ·exact h0
 rw [List.length_drop] at h3
 omega
section
variable {enc : Int} {x : Pc} {n : Nat}
theorem cutL_dec : dec enc (cutL enc x n).bytes = (dec enc x.bytes).take n := dec_take enc n x.bytes
theorem cutR_dec : dec enc (cutR enc x n).bytes = (dec enc x.bytes).drop n := dec_drop enc n x.bytes
theorem cutL_ok (h : PcOk enc x) (hn : 0 < n) : PcOk enc (cutL enc x n) := by
 have h1 := szs_bd enc n x.bytes
 have h2 := szs_pos enc x.bytes n hn (by rw [h.len]; exact h.pos)
 have h3 := h.len
 have h4 := h.nle
 exact ⟨h.byt.take _, by simp only [cutL, List.length_take]; omega, by simp only [cutL]; omega, by simp only [cutL]; omega, Nat.le_refl _, h.tag0, h.tag1, by rw [cutL_dec]; rfl⟩
theorem cutR_ok (h : PcOk enc x) (hn : n < (dec enc x.bytes).length) (ht : x.tag + x.n <= 1073741824) : PcOk enc (cutR enc x n) := by
 have h1 := szs_bd enc n x.bytes
 have h2 := szs_lt enc x.bytes n hn
 have h3 := h.len
 have h4 := h.nle
 have h5 := h.cap
 have h6 := h.tag0
 refine ⟨h.byt.drop _, by simp only [cutR, List.length_drop]; omega, by simp only [cutR]; omega, by simp only [cutR]; omega, by simp only [cutR]; omega, ?_, ?_, by rw [cutR_dec]; rfl⟩
 ·simp only [cutR]; split <;> omega
 ·simp only [cutR]; split <;> omega
theorem cutL_ats : atsP enc (cutL enc x n) = (atsP enc x).take n := by
 unfold atsP
 rw [cutL_dec]
 show tagF x.tag 0 _ = _
 rcases Nat.le_total n (dec enc x.bytes).length with hle | hle
 ·conv => rhs; rw [<- List.take_append_drop n (dec enc x.bytes), tagF_app]
  exact (List.take_left' (by rw [tagF_len, List.length_take]; omega)).symm
 ·have h1 : (dec enc x.bytes).take n = dec enc x.bytes := List.take_of_length_le hle
  have h2 : (tagF x.tag 0 (dec enc x.bytes)).take n = tagF x.tag 0 (dec enc x.bytes) := List.take_of_length_le (by rw [tagF_len]; exact hle)
  rw [h1, h2]
theorem tagF_neg {p q : Int} (hp : p < 0) (hq : q < 0) (ds : List (Int × Int)) : ∀ o o', tagF p o ds = tagF q o' ds := by
 induction ds with
 | nil => intro _ _; rfl
 | cons d ds ih => intro o o'; simp only [tagF, if_pos hp, if_pos hq, ih (o + d.2) (o' + d.2)]
theorem cutR_ats : atsP enc (cutR enc x n) = (atsP enc x).drop n := by
 unfold atsP
 rw [cutR_dec]
 show tagF (if 0 <= x.tag then x.tag + szs enc x.bytes n else x.tag) 0 _ = _
 rcases Nat.le_total n (dec enc x.bytes).length with hle | hle
 ·conv => rhs; rw [<- List.take_append_drop n (dec enc x.bytes), tagF_app]
  refine Eq.trans ?_ (List.drop_left' (by rw [tagF_len, List.length_take]; omega)).symm
  split
  ·rename_i h0
   have h1 := (szs_bd enc n x.bytes).1
   rw [tagF_shift _ (by omega), tagF_shift _ h0]
   show tagF 0 (x.tag + szs enc x.bytes n + 0) _ = tagF 0 (x.tag + (0 + szs enc x.bytes n)) _
   rw [Int.add_zero, Int.zero_add]
  ·exact tagF_neg (by omega) (by omega) _ _ _
 ·have h1 : (dec enc x.bytes).drop n = [] := List.drop_eq_nil_of_le hle
  have h2 : (tagF x.tag 0 (dec enc x.bytes)).drop n = [] := List.drop_eq_nil_of_le (by rw [tagF_len]; exact hle)
  rw [h1, h2]
  rfl
theorem cutL_bts {w : World} {D : Nat -> Prop} (h : Bts w D x.A x.n x.bytes) (hk : PcOk enc x) : Bts w D (cutL enc x n).A (cutL enc x n).n (cutL enc x n).bytes := by
 have h1 := szs_bd enc n x.bytes
 have h3 := hk.len
 have := Reads.take h (k := (szs enc x.bytes n).toNat) (by omega)
 unfold Bts cutL
 rw [Nat.mul_one, <- List.map_take] at this
 exact this
theorem cutR_bts {w : World} {D : Nat -> Prop} (h : Bts w D x.A x.n x.bytes) (hk : PcOk enc x) : Bts w D (cutR enc x n).A (cutR enc x n).n (cutR enc x n).bytes := by
 have h1 := szs_bd enc n x.bytes
 have h3 := hk.len
 have := Reads.cut h (k := (szs enc x.bytes n).toNat) (by omega) hk.cap
 unfold Bts cutR
 rw [Nat.mul_one, <- List.map_drop] at this
 exact this
theorem cutL_low {add : Value} {m : Nat} (h : Low add m x) (hk : PcOk enc x) : Low add m (cutL enc x n) := by
 intro ad e hb
 have h1 := szs_bd enc n x.bytes
 have h3 := hk.len
 have := h ad e hb
 simp only [cutL]
 omega
theorem cutR_low {add : Value} {m : Nat} (h : Low add m x) (hk : PcOk enc x) : Low add m (cutR enc x n) := by
 intro ad e hb
 have h1 := szs_bd enc n x.bytes
 have h3 := hk.len
 have h5 := hk.cap
 simp only [cutR] at e ⊢
 split at e
 ·have := h ad e hb
  omega
 ·cases hA : x.A with
  | none => rw [hA] at e; cases e
  | some ad0 =>
   rw [hA] at e
   injection e with e
   have hb0 : add.ownBlock = some ad0.block := by rw [hb, <- e, block_of_add]
   have := h ad0 hA hb0
   have ho : ad.off = ad0.off + (szs enc x.bytes n).toNat := by
    rw [<- e]
    unfold Addr.add
    split
    ·rename_i h0; rw [h0]; rfl
    ·rfl
   omega
end
theorem found_split {enc : Int} {ps : List Pc} {at_ : Int} {i n : Nat} (hf : Found enc ps at_ i n) {p : Pc} (hp : ps[i]? = some p) (h0 : 0 <= at_) :
  n <= (dec enc p.bytes).length /\ (decL enc ps).take at_.toNat = decL enc (ps.take i) ++ (dec enc p.bytes).take n /\ (decL enc ps).drop at_.toNat = (dec enc p.bytes).drop n ++ decL enc (ps.drop (i + 1)) /\
  (atsL enc ps).take at_.toNat = atsL enc (ps.take i) ++ (atsP enc p).take n /\ (atsL enc ps).drop at_.toNat = (atsP enc p).drop n ++ atsL enc (ps.drop (i + 1)) := by
 obtain ⟨h1, h2, h3⟩ := hf
 have hlt : i < ps.length := by
  rcases Nat.lt_or_ge i ps.length with h | h
  ·exact h
  ·rw [List.getElem?_eq_none h] at hp; cases hp
 have hsp : ps = ps.take i ++ p :: ps.drop (i + 1) := by
  rw [List.getElem?_eq_getElem hlt] at hp
  injection hp with hp
  rw [<- hp, <- List.drop_eq_getElem_cons hlt, List.take_append_drop]
 have hn : n <= (dec enc p.bytes).length := by
  rcases Nat.lt_or_ge 0 n with h0 | h0
  ·obtain ⟨_, _, h5⟩ := h3 (by omega)
   have : ps.take (i + 1) = ps.take i ++ [p] := by rw [List.take_add_one, hp]; rfl
   rw [this, decL_app, List.length_append] at h5
   simp [decL] at h5 ⊢
   simp [decL] at h2
   omega
  ·omega
 have e0 : at_.toNat = (decL enc (ps.take i)).length + n := by omega
 have e1 : atsL enc [p] = atsP enc p := atsL_one enc p
 have e2 : (atsL enc (ps.take i)).length = (decL enc (ps.take i)).length := atsL_len enc _
 have e3 : (atsP enc p).length = (dec enc p.bytes).length := tagF_len _ _ _
 have d1 : decL enc ps = decL enc (ps.take i) ++ (dec enc p.bytes ++ decL enc (ps.drop (i + 1))) := by conv => lhs; rw [hsp, decL_app, decL_cons]
 have d2 : atsL enc ps = atsL enc (ps.take i) ++ (atsP enc p ++ atsL enc (ps.drop (i + 1))) := by
  conv => lhs; rw [hsp, atsL_app, show p :: ps.drop (i + 1) = [p] ++ ps.drop (i + 1) from rfl, atsL_app, e1]
 refine ⟨hn, ?_, ?_, ?_, ?_⟩
 ·rw [d1, e0, List.take_length_add_append, List.take_append_of_le_length hn]
 ·rw [d1, e0, List.drop_length_add_append, List.drop_append_of_le_length hn]
 ·rw [d2, e0, <- e2, List.take_length_add_append, List.take_append_of_le_length (by omega)]
 ·rw [d2, e0, <- e2, List.drop_length_add_append, List.drop_append_of_le_length (by omega)]
def headP (enc : Int) (ps : List Pc) (i n : Nat) : List Pc := match ps[i]? with | some p => if 0 < n then [cutL enc p n] else [] | none => []
def tailP (enc : Int) (ps : List Pc) (j m : Nat) : List Pc := match ps[j]? with | some p => if 0 < (sumsOf ((dec enc p.bytes).drop m)).atoms then [cutR enc p m] else [] | none => []
theorem head_law {enc : Int} {ps : List Pc} {at_ : Int} {i n : Nat} (hf : Found enc ps at_ i n) (h0 : 0 <= at_) :
  decL enc (ps.take i ++ headP enc ps i n) = (decL enc ps).take at_.toNat /\ atsL enc (ps.take i ++ headP enc ps i n) = (atsL enc ps).take at_.toNat := by
 unfold headP
 cases hp : ps[i]? with
 | none =>
  have hge : ps.length <= i := by
   rcases Nat.lt_or_ge i ps.length with h | h
   ·rw [List.getElem?_eq_getElem h] at hp; cases hp
   ·exact h
  obtain ⟨h1, h2, h3⟩ := hf
  have hz : at_ = 0 := by
   rcases Int.lt_or_le 0 at_ with h | h
   ·have := (h3 h).1; omega
   ·omega
  subst hz
  have hd : (decL enc (ps.take i)).length = 0 := by omega
  have hd2 : (atsL enc (ps.take i)).length = 0 := by rw [atsL_len]; exact hd
  simp only [List.append_nil, Int.toNat_zero, List.take_zero]
  exact ⟨List.eq_nil_of_length_eq_zero hd, List.eq_nil_of_length_eq_zero hd2⟩
 | some p =>
  obtain ⟨_, h1, _, h3, _⟩ := found_split hf hp h0
  rw [h1, h3]
  dsimp only
  split
  ·rw [decL_app, atsL_app, decL_cons, atsL_one, cutL_dec, cutL_ats]
   simp [decL]
  ·have hn : n = 0 := by omega
   subst hn
   simp
theorem tail_law {enc : Int} {ps : List Pc} {at_ : Int} {j m : Nat} (hf : Found enc ps at_ j m) (h0 : 0 <= at_) :
  decL enc (tailP enc ps j m ++ ps.drop (min (j + 1) ps.length)) = (decL enc ps).drop at_.toNat /\ atsL enc (tailP enc ps j m ++ ps.drop (min (j + 1) ps.length)) = (atsL enc ps).drop at_.toNat := by
 unfold tailP
 cases hp : ps[j]? with
 | none =>
  have hge : ps.length <= j := by
   rcases Nat.lt_or_ge j ps.length with h | h
   ·rw [List.getElem?_eq_getElem h] at hp; cases hp
   ·exact h
  obtain ⟨h1, h2, h3⟩ := hf
  have hz : at_ = 0 := by
   rcases Int.lt_or_le 0 at_ with h | h
   ·have := (h3 h).1; omega
   ·omega
  subst hz
  have he : ps.take j = ps := List.take_of_length_le hge
  rw [he] at h2
  have hd : (decL enc ps).length = 0 := by omega
  have hd2 : (atsL enc ps).length = 0 := by rw [atsL_len]; exact hd
  rw [Nat.min_eq_right (by omega), List.drop_length, List.eq_nil_of_length_eq_zero hd, List.eq_nil_of_length_eq_zero hd2]
  simp [decL, atsL]
 | some p =>
  obtain ⟨_, _, h2, _, h4⟩ := found_split hf hp h0
  have hlt : j < ps.length := (List.getElem?_eq_some_iff.1 hp).1
  rw [h2, h4, Nat.min_eq_left (by omega)]
  have hatoms : (sumsOf ((dec enc p.bytes).drop m)).atoms = (((dec enc p.bytes).drop m).length : Int) := (sumsOf_good' ((dec_pos enc _).drop m)).2.1
  have e3 : (atsP enc p).length = (dec enc p.bytes).length := tagF_len _ _ _
  dsimp only
  rw [hatoms]
  split
  ·rw [decL_app, atsL_app, decL_cons, atsL_one, cutR_dec, cutR_ats]
   simp [decL]
  ·have hz : ((dec enc p.bytes).drop m).length = 0 := by omega
   have hz2 : ((atsP enc p).drop m).length = 0 := by rw [List.length_drop, e3, <- List.length_drop]; exact hz
   rw [List.eq_nil_of_length_eq_zero hz, List.eq_nil_of_length_eq_zero hz2]
   simp
theorem head_mem {enc : Int} {ps : List Pc} {i n : Nat} {q : Pc} (h : q ∈ headP enc ps i n) : ∃ p, ps[i]? = some p /\ 0 < n /\ q = cutL enc p n := by
 unfold headP at h
 split at h
 ·rename_i p hp
  split at h
  ·rename_i h0
   exact ⟨p, hp, h0, List.mem_singleton.1 h⟩
  ·cases h
 ·cases h
theorem tail_mem {enc : Int} {ps : List Pc} {j m : Nat} {q : Pc} (h : q ∈ tailP enc ps j m) : ∃ p, ps[j]? = some p /\ m < (dec enc p.bytes).length /\ q = cutR enc p m := by
 unfold tailP at h
 split at h
 ·rename_i p hp
  split at h
  ·rename_i h0
   rw [(sumsOf_good' ((dec_pos enc p.bytes).drop m)).2.1, List.length_drop] at h0
   exact ⟨p, hp, by omega, List.mem_singleton.1 h⟩
  ·cases h
 ·cases h
structure FreshS (w0 : World) (B g bt bf bp bn : Nat) (enc lim : Int) (n0 : Nat) (add0 : Value) (a : Option Addr) (xs : List Value) (dn pd : List Int) (m : Nat) (ps : List Pc) (v add : Value) (w : World) : Prop where
 tx : Blk w g 104 #[.int .i64 enc, .int .i64 lim, .pointer a, add]
 row : w.ownsRow B 5 1 add (n0 + (putL enc dn).length + (putL enc pd).length) (xs ++ (putL enc dn ++ putL enc pd).map (Value.int .u8))
 step : TStep g add0 add n0 (n0 + (putL enc dn).length + (putL enc pd).length) w0 w
 tb : Blk w bt 33 #[.pointer (some ⟨g, 0, none⟩)]
 fb : Blk w bf 3 #[.int .i64 ((n0 + (putL enc dn).length : Nat) : Int)]
 pb : Blk w bp 232 #[v]
 nb : Blk w bn 3 #[.int .i64 ((m : Nat) : Int)]
 prow : w.ownsRow w0.heap.size 107 7 v ps.length (ps.flatMap fun p => p.cells.toList)
 pcs : PsIn w add (n0 + (putL enc dn).length + (putL enc pd).length) enc ps
 tag : ∀ p ∈ ps, p.tag = -1
 all : decL enc ps = withSz enc dn
 ge : w0.heap.size <= bt /\ w0.heap.size <= bf /\ w0.heap.size <= bp /\ w0.heap.size <= bn /\ bf ≠ bn
def newP (enc : Int) (ba F : Nat) (pd : List Int) : Pc := ⟨some ⟨ba, F, none⟩, (putL enc pd).length, (putL enc pd).length, -1, sumsOf (dec enc (putL enc pd)), putL enc pd⟩
def ShutPost (w0 : World) (B g bt bf bp bn : Nat) (enc lim : Int) (n0 : Nat) (add0 : Value) (a : Option Addr) (xs : List Value) (dn pd : List Int) (add : Value) (w : World) (e : Ending) (w' : World) : Prop :=
 e = .returned (.tuple #[]) /\ ∃ ps v, FreshS w0 B g bt bf bp bn enc lim n0 add0 a xs (dn ++ pd) [] 0 ps v add w'
section
variable {w0 w : World} {B g bt bf bp bn n0 : Nat} {enc lim : Int} {add0 add v : Value} {a : Option Addr} {xs : List Value} {dn pd : List Int} {m : Nat} {ps : List Pc}
theorem FreshS.shut {w1 : World} {ba cap : Nat} {v' : Value} (h : FreshS w0 B g bt bf bp bn enc lim n0 add0 a xs dn pd m ps v add w) (hr0 : w0.ownsRow B 5 1 add0 n0 xs) (hadd : add = .slice (some ⟨ba, 0, none⟩) (n0 + (putL enc dn).length + (putL enc pd).length) cap)
  (hd : dec enc (putL enc pd) = withSz enc pd) (hf : Fit enc pd) (hp : 0 < (putL enc pd).length) (hn : (putL enc pd).length <= 1048576)
  (hfr : Fr (OwnB v) w w1) (hown : w1.ownsRow w0.heap.size 107 7 v' (ps.length + 1) ((ps.flatMap fun p => p.cells.toList) ++ (newP enc ba (n0 + (putL enc dn).length) pd).cells.toList)) :
  FreshS w0 B g bt bf bp bn enc lim n0 add0 a xs (dn ++ pd) [] 0 (ps ++ [newP enc ba (n0 + (putL enc dn).length) pd]) v' add
   (((w1.setCell ⟨bp, 0, none⟩ v').setCell ⟨bf, 0, none⟩ (.int .i64 ((n0 + (putL enc dn).length + (putL enc pd).length : Nat) : Int))).setCell ⟨bn, 0, none⟩ (.int .i64 0)) := by
 obtain ⟨g1, g2, g3, g4, g5⟩ := h.ge
 have eL : (putL enc (dn ++ pd)).length = (putL enc dn).length + (putL enc pd).length := by rw [putL_app, List.length_append]
 have eN : n0 + (putL enc (dn ++ pd)).length + (putL enc ([] : List Int)).length = n0 + (putL enc dn).length + (putL enc pd).length := by rw [eL, putL_nil]; simp; omega
 have ov : ∀ {T : TypeId} {cs : Array Value} {b : Nat}, Blk w b T cs -> 107 ≠ T -> ¬ OwnB v b := fun hb hT => own_blk_ne h.prow hb hT
 have t1 := h.tx.fr hfr (ov h.tx (by decide))
 have t2 := h.tb.fr hfr (ov h.tb (by decide))
 have t3 := h.fb.fr hfr (ov h.fb (by decide))
 have t4 := h.pb.fr hfr (ov h.pb (by decide))
 have t5 := h.nb.fr hfr (ov h.nb (by decide))
 have n1 : g ≠ bp := Blk.ne_ t1 t4 (by decide)
 have n2 : g ≠ bf := Blk.ne_ t1 t3 (by decide)
 have n3 : g ≠ bn := Blk.ne_ t1 t5 (by decide)
 have n4 : bt ≠ bp := Blk.ne_ t2 t4 (by decide)
 have n5 : bt ≠ bf := Blk.ne_ t2 t3 (by decide)
 have n6 : bt ≠ bn := Blk.ne_ t2 t5 (by decide)
 have n7 : bp ≠ bf := Blk.ne_ t4 t3 (by decide)
 have n8 : bp ≠ bn := Blk.ne_ t4 t5 (by decide)
 have F : Fr (fun b => OwnB v b \/ b = bp \/ b = bf \/ b = bn) w (((w1.setCell ⟨bp, 0, none⟩ v').setCell ⟨bf, 0, none⟩ (.int .i64 ((n0 + (putL enc dn).length + (putL enc pd).length : Nat) : Int))).setCell ⟨bn, 0, none⟩ (.int .i64 0)) :=
  (((hfr.more (fun _ _ h => .inl h)).setCell (.inl (.inr (.inl rfl))) _).setCell (.inl (.inr (.inr (.inl rfl)))) _).setCell (.inl (.inr (.inr (.inr rfl)))) _
 have hva : ∀ b, add.ownBlock = some b -> ¬ (OwnB v b \/ b = bp \/ b = bf \/ b = bn) := by
  rintro b hb hs
  have hb1 : ∃ cs, Blk w b 5 cs := by
   rcases h.row.2 with ⟨rfl, _⟩ | ⟨q, c, cur, rfl, _, hq, _⟩
   ·cases hb
   ·have : q = b := by simpa [Value.ownBlock] using hb
    subst this
    exact ⟨cur, hq⟩
  obtain ⟨cs, hb1⟩ := hb1
  rcases hs with hs | rfl | rfl | rfl
  ·exact ov hb1 (by decide) hs
  ·exact Blk.ne_ hb1 h.pb (by decide) rfl
  ·exact Blk.ne_ hb1 h.fb (by decide) rfl
  ·exact Blk.ne_ hb1 h.nb (by decide) rfl
 have hfar : ∀ k, k < w.heap.size -> (OwnB v k \/ k = bp \/ k = bf \/ k = bn) -> Far w k := by
  rintro k _ (hk | rfl | rfl | rfl)
  ·exact Far.own h.prow hk (by decide)
  ·exact Far.blk h.pb (by decide)
  ·exact Far.blk h.fb (by decide)
  ·exact Far.blk h.nb (by decide)
 have hrow : World.ownsRow (((w1.setCell ⟨bp, 0, none⟩ v').setCell ⟨bf, 0, none⟩ (.int .i64 ((n0 + (putL enc dn).length + (putL enc pd).length : Nat) : Int))).setCell ⟨bn, 0, none⟩ (.int .i64 0)) B 5 1 add (n0 + (putL enc dn).length + (putL enc pd).length) (xs ++ (putL enc dn ++ putL enc pd).map (Value.int .u8)) := by
  refine ⟨h.row.1, ?_⟩
  rcases h.row.2 with h0 | ⟨r, c, cur, e, h1, h2, h3⟩
  ·exact .inl h0
  ·refine .inr ⟨r, c, cur, e, h1, ?_, h3⟩
   rw [F.block r (Array.getElem?_eq_some_iff.1 h2).1 (hva r (by rw [e]; rfl))]
   exact h2
 have hbts : Bts w Any (some ⟨ba, n0 + (putL enc dn).length, none⟩) (putL enc pd).length (putL enc pd) := by
  refine ⟨by simp, fun _ => ⟨_, rfl, trivial, fun j u hj => ?_⟩⟩
  rw [add_cell]
  have := h.row.cells (g := ba) (by rw [hadd]; rfl) (n0 + (putL enc dn).length + j) u (by
   have hx := hr0.1
   rw [List.getElem?_append_right (by omega), List.map_append, List.getElem?_append_right (by rw [List.length_map]; omega), List.length_map]
   rw [<- hj]
   congr 1
   omega)
  rw [add_cell, Nat.zero_add] at this
  exact this
 have hq : PsIn w add (n0 + (putL enc dn).length + (putL enc pd).length) enc [newP enc ba (n0 + (putL enc dn).length) pd] := by
  refine ⟨?_, ?_, ?_, ?_, ?_⟩
  all_goals
   intro p hp
   rw [List.mem_singleton] at hp
   subst hp
  ·exact ⟨putL_byt enc pd hf, rfl, hp, by simp only [newP]; omega, Nat.le_refl _, by simp [newP], by simp [newP], rfl⟩
  ·exact hbts
  ·intro ad e hb
   injection e with e
   subst e
   exact Nat.le_refl _
  ·simp only [newP]; omega
  ·intro ad e
   injection e with e
   subst e
   rcases h.row.2 with ⟨e0, _⟩ | ⟨q, c, cur, e0, _, hq, _⟩
   ·rw [e0] at hadd; cases hadd
   ·rw [hadd] at e0
    injection e0 with e0
    injection e0 with e0
    injection e0 with e0
    subst e0
    exact ⟨cur, hq⟩
 have hall : decL enc [newP enc ba (n0 + (putL enc dn).length) pd] = withSz enc pd := by
  rw [decL_cons, show decL enc [] = [] from rfl, List.append_nil]
  exact hd
 refine ⟨((t1.far n1 _).far n2 _).far n3 _, ?_, ?_, ((t2.far n4 _).far n5 _).far n6 _, ?_, ?_, ?_, ?_, ?_, ?_, ?_, h.ge⟩
 ·rw [eN, putL_app, putL_nil, List.append_nil]
  exact hrow
 ·rw [eN]
  exact h.step.loc F (by
   rintro b (hs | rfl | rfl | rfl)
   ·exact (h.prow.lt b hs).1
   all_goals assumption) hr0
 ·have := ((t3.far (p := ⟨bp, 0, none⟩) (Ne.symm n7) v').set_ 0 (.int .i64 ((n0 + (putL enc dn).length + (putL enc pd).length : Nat) : Int))).far (p := ⟨bn, 0, none⟩) g5 (.int .i64 0)
  refine this.eq_ ?_
  rw [eL, Nat.add_assoc]
  rfl
 ·exact (((t4.set_ 0 v').far n7 _).far n8 _).eq_ rfl
 ·exact (((t5.far (p := ⟨bp, 0, none⟩) (Ne.symm n8) v').far (p := ⟨bf, 0, none⟩) (Ne.symm g5) _).set_ 0 _).eq_ rfl
 ·have hne : ∀ {T : TypeId} {cs : Array Value} {b : Nat}, Blk w1 b T cs -> 107 ≠ T -> ∀ k, v'.ownBlock = some k -> b ≠ k := fun hb hT k hk e => own_blk_ne hown hb hT (e ▸ hk)
  rw [List.length_append, List.flatMap_append, List.flatMap_singleton]
  refine ⟨hown.1, ?_⟩
  rcases hown.2 with h0 | ⟨r, c, cur, e, h1, h2, h3⟩
  ·exact .inl h0
  ·refine .inr ⟨r, c, cur, e, h1, ?_, h3⟩
   have hk : v'.ownBlock = some r := by rw [e]; rfl
   rw [Below.heap_setCell _ _ _ r (Ne.symm (hne t5 (by decide) r hk)), Below.heap_setCell _ _ _ r (Ne.symm (hne t3 (by decide) r hk)), Below.heap_setCell _ _ _ r (Ne.symm (hne t4 (by decide) r hk))]
   exact h2
 ·rw [eN]
  exact (h.pcs.app hq).far F hfar
 ·intro p hp
  rcases List.mem_append.1 hp with hp | hp
  ·exact h.tag p hp
  ·rw [List.mem_singleton] at hp
   rw [hp]
   rfl
 ·rw [decL_app, h.all, hall]
  unfold withSz
  rw [List.map_append]
end
theorem newP_bts {w0 w : World} {B g bt bf bp bn n0 : Nat} {enc lim : Int} {add0 add v : Value} {a : Option Addr} {xs : List Value} {dn pd : List Int} {m : Nat} {ps : List Pc} {ba cap : Nat}
  (h : FreshS w0 B g bt bf bp bn enc lim n0 add0 a xs dn pd m ps v add w) (hr0 : w0.ownsRow B 5 1 add0 n0 xs) (hadd : add = .slice (some ⟨ba, 0, none⟩) (n0 + (putL enc dn).length + (putL enc pd).length) cap) :
  Bts w Any (some ⟨ba, n0 + (putL enc dn).length, none⟩) (putL enc pd).length (putL enc pd) := by
 refine ⟨by simp, fun _ => ⟨_, rfl, trivial, fun j u hj => ?_⟩⟩
 rw [add_cell]
 have := h.row.cells (g := ba) (by rw [hadd]; rfl) (n0 + (putL enc dn).length + j) u (by
  have hx := hr0.1
  rw [List.getElem?_append_right (by omega), List.map_append, List.getElem?_append_right (by rw [List.length_map]; omega), List.length_map]
  rw [<- hj]
  congr 1
  omega)
 rw [add_cell, Nat.zero_add] at this
 exact this
def ShutC (bt bf bp g : Nat) (enc : Int) (F : Nat) (v av : Value) (w : World) : Prop :=
 w.cell? ⟨bt, 0, none⟩ = some (.pointer (some ⟨g, 0, none⟩)) /\ w.cell? ⟨g, 0, none⟩ = some (.int .i64 enc) /\ w.cell? ⟨g, 3, none⟩ = some av /\ w.cell? ⟨bf, 0, none⟩ = some (.int .i64 F) /\ w.cell? ⟨bp, 0, none⟩ = some v
def ShutF (bt bf bp bn g : Nat) (enc : Int) (F : Nat) (v av : Value) (w : World) : Prop := ShutC bt bf bp g enc F v av w /\ w.frozen? ⟨bp, 0, none⟩ = false /\ w.frozen? ⟨bf, 0, none⟩ = false /\ w.frozen? ⟨bn, 0, none⟩ = false
theorem FreshS.fr_facts {w0 w w1 : World} {B g bt bf bp bn n0 : Nat} {enc lim : Int} {add0 add v : Value} {a : Option Addr} {xs : List Value} {dn pd : List Int} {m : Nat} {ps : List Pc}
  (h : FreshS w0 B g bt bf bp bn enc lim n0 add0 a xs dn pd m ps v add w) (hfr : Fr (OwnB v) w w1) : ShutF bt bf bp bn g enc (n0 + (putL enc dn).length) v add w1 := by
 have ov : ∀ {T : TypeId} {cs : Array Value} {b : Nat}, Blk w b T cs -> 107 ≠ T -> ¬ OwnB v b := fun hb hT => own_blk_ne h.prow hb hT
 have t1 := h.tx.fr hfr (ov h.tx (by decide))
 have t2 := h.tb.fr hfr (ov h.tb (by decide))
 have t3 := h.fb.fr hfr (ov h.fb (by decide))
 have t4 := h.pb.fr hfr (ov h.pb (by decide))
 have t5 := h.nb.fr hfr (ov h.nb (by decide))
 exact ⟨⟨t2.cell 0, t1.cell 0, t1.cell 3, t3.cell 0, t4.cell 0⟩, t4.frozen 0, t3.frozen 0, t5.frozen 0⟩
theorem FreshS.fr_blks {w0 w w1 : World} {B g bt bf bp bn n0 : Nat} {enc lim : Int} {add0 add v : Value} {a : Option Addr} {xs : List Value} {dn pd : List Int} {m : Nat} {ps : List Pc}
  (h : FreshS w0 B g bt bf bp bn enc lim n0 add0 a xs dn pd m ps v add w) (hfr : Fr (OwnB v) w w1) (u : Value) (x : Value) :
  (w1.setCell ⟨bp, 0, none⟩ u).cell? ⟨bf, 0, none⟩ = some (.int .i64 ((n0 + (putL enc dn).length : Nat) : Int)) /\ ((w1.setCell ⟨bp, 0, none⟩ u).setCell ⟨bf, 0, none⟩ x).cell? ⟨bn, 0, none⟩ = some (.int .i64 (m : Int)) := by
 have ov : ∀ {T : TypeId} {cs : Array Value} {b : Nat}, Blk w b T cs -> 107 ≠ T -> ¬ OwnB v b := fun hb hT => own_blk_ne h.prow hb hT
 have t3 := h.fb.fr hfr (ov h.fb (by decide))
 have t4 := h.pb.fr hfr (ov h.pb (by decide))
 have t5 := h.nb.fr hfr (ov h.nb (by decide))
 have n7 : bf ≠ bp := Blk.ne_ t3 t4 (by decide)
 have n8 : bn ≠ bp := Blk.ne_ t5 t4 (by decide)
 exact ⟨(t3.far (p := ⟨bp, 0, none⟩) n7 u).cell 0, ((t5.far (p := ⟨bp, 0, none⟩) n8 u).far (p := ⟨bf, 0, none⟩) (Ne.symm h.ge.2.2.2.2) x).cell 0⟩
theorem shut_any (w0 : World) (B g bt bf bp bn : Nat) (enc lim : Int) (n0 : Nat) (add0 : Value) (a : Option Addr) (xs : List Value) (dn pd : List Int) (ps : List Pc) (v add : Value) (w : World) (he : enc = 1 \/ enc = 2 \/ enc = 3 \/ enc = 4)
  (h : FreshS w0 B g bt bf bp bn enc lim n0 add0 a xs dn pd pd.length ps v add w) (hr0 : w0.ownsRow B 5 1 add0 n0 xs) (hd : dec enc (putL enc pd) = withSz enc pd) (hf : Fit enc pd) (hn : (putL enc pd).length <= 1048576) (hN : n0 + (putL enc dn).length + (putL enc pd).length <= 1073741824) (hpl : ps.length <= 1073741824) :
  Calls Tryz.prog 179 #[.pointer (some ⟨bt, 0, none⟩), .pointer (some ⟨bf, 0, none⟩), .pointer (some ⟨bp, 0, none⟩), .pointer (some ⟨bn, 0, none⟩)] w fun e w' => ShutPost w0 B g bt bf bp bn enc lim n0 add0 a xs dn pd add w e w' := by
 obtain ⟨A', cap, hadd, hcap⟩ := own_slice h.row
 have c1 := h.tb.cell 0
 have c2 := h.tx.cell 3
 have c3 := h.fb.cell 0
 have c4 := h.pb.cell 0
 have c5 := h.nb.cell 0
 simp at c1 c2 c3 c4 c5
 by_cases hz : (putL enc pd).length = 0
 ·have hpd : pd = [] := by
   cases pd with
   | nil => rfl
   | cons x xs =>
    have h1 := putA_len enc x (hf x List.mem_cons_self)
    have h2 := hf x List.mem_cons_self
    rw [putL_cons, List.length_append] at hz
    omega
  subst hpd
  rw [hadd] at c2
  obtain ⟨F, hF⟩ : ∃ F, n0 + (putL enc dn).length = F := ⟨_, rfl⟩
  have q : ((F : Int) < ((n0 + (putL enc dn).length + (putL enc ([] : List Int)).length : Nat) : Int)) = False := by simp [putL_nil]; omega
  obtain ⟨M, hM⟩ : ∃ M, n0 + (putL enc dn).length + (putL enc ([] : List Int)).length = M := ⟨_, rfl⟩
  rw [hM] at c2 q
  rw [<- Int.natCast_add, hF] at c3
  have H := Lib.hid h
  clear h hF hM hadd hr0 c4 c5 hd hf
  go_enter Tryz.func179, Tryz.ntmps179
  go_wp2_with fail
  refine bodyPost_ret (results_none rfl _ _ _) rfl ⟨rfl, ps, v, ?_⟩
  rw [List.append_nil]
  exact H.out
 ·obtain ⟨ba, hA⟩ : ∃ ba, A' = some ⟨ba, 0, none⟩ := by
   rcases h.row.2 with ⟨e0, e1⟩ | ⟨q, c, cur, e0, _⟩
   ·omega
   ·rw [hadd] at e0
    injection e0 with e0
    exact ⟨q, e0⟩
  subst hA
  obtain ⟨F, hF⟩ : ∃ F, n0 + (putL enc dn).length = F := ⟨_, rfl⟩
  obtain ⟨m, hm⟩ : ∃ m, (putL enc pd).length = m := ⟨_, rfl⟩
  have hbts := newP_bts h hr0 hadd
  have hcl := fun (w1 : World) hfr (u x : Value) => h.fr_blks (w1 := w1) hfr u x
  rw [hF] at hcl
  have HCL := Lib.hid hcl
  clear hcl
  have hkp := fun (w1 : World) hfr => h.fr_facts (w1 := w1) hfr
  have hfin := fun (w1 : World) (v' : Value) hfr hown => h.shut (w1 := w1) (v' := v') hr0 hadd hd hf (by omega) hn hfr hown
  obtain ⟨S, hS⟩ : ∃ S, sumsOf (dec enc (putL enc pd)) = S := ⟨_, rfl⟩
  have hcells : (newP enc ba (n0 + (putL enc dn).length) pd).cells = partC (some ⟨ba, F, none⟩) m m (-1) S := by
   unfold newP Pc.cells
   dsimp only
   rw [hF, hm, hS]
  rw [hF, hm] at hadd hN hcap hbts
  rw [hF] at hkp
  rw [hcells, hF, hm] at hfin
  rw [hadd] at c2
  rw [<- Int.natCast_add, hF] at c3
  have q : ((F : Int) < ((F + m : Nat) : Int)) = True := by simp; omega
  obtain ⟨M, hM⟩ : ∃ M, F + m = M := ⟨_, rfl⟩
  rw [hM] at c2 q hN hcap hadd hfin
  have q2 : F <= M := by omega
  have q3 : M - F = m := by omega
  have q4 : (M = F) = False := by simp; omega
  rw [hadd] at hkp
  have HK := Lib.hid hkp
  have hbyt := putL_byt enc pd hf
  have hrow := h.prow
  obtain ⟨xs0, hxs0⟩ : ∃ x, (ps.flatMap fun p => p.cells.toList) = x := ⟨_, rfl⟩
  rw [hxs0] at hrow hfin
  obtain ⟨l, hl⟩ : ∃ l, putL enc pd = l := ⟨_, rfl⟩
  rw [hl] at hbts hbyt hS
  have hb0 : w0.heap.size <= w.heap.size := h.step.fr.size
  have f3 := h.fb.frozen 0
  have f4 := h.pb.frozen 0
  have f5 := h.nb.frozen 0
  have c0 := h.tx.cell 0
  simp at c0
  have HF := Lib.hid hfin
  have HD := Lib.hid hd
  have HBT := Lib.hid hbts
  have HBY := Lib.hid hbyt
  have HR := Lib.hid hrow
  have HS := Lib.hid hS
  have HE := Lib.hid he
  clear h hkp hF hm hM hadd hr0 hd hf hfin hcells hn hxs0 hl hbts hbyt hrow hS he hz
  obtain ⟨ip, zp, hip, hp0, hp1, hp2, hp3⟩ := part_row
  go_enter Tryz.func179, Tryz.ntmps179
  go_wp2_with fail
  refine wp_region_lin (ShutC bt bf bp g enc F v (.slice (some ⟨ba, 0, none⟩) M cap)) (fun w' => Below w.heap.size w w') (fun k => k == 13 || k == 14 || k == 15 || k == 16) (fun k => k == 16) (fun _ => false) (by kernel_rfl) (by kernel_rfl) ((Below.refl _ _).drew) (fun w' h => (HK.out _ (Fr.of_below h)).1) ?_
  repeat ((first
   | (refine wpL_read (v := ?_) (by rfl) (by rfl) (fun w6 hSw => ?_) ?_; rotate_left; (· (obtain ⟨y0, y1, y2, y3, y4⟩ := hSw; go_simp; try with_reducible rfl)))
   | (refine wpL_free (v := ?_) (by rfl) (fun w6 => ?_) ?_; rotate_left; (· (go_simp; try with_reducible rfl)))
   | refine wpL_not (by rfl) ?_); (try simp only [Act.put, pA, pB, pC]))
  refine wpL_call (f := ?_) (args := ?_) (fun v1 w1 => v1 = .agg #[.slice (some ⟨ba, F, none⟩) m m, .int .i64 (-1), .int .i64 S.atoms, .int .i64 S.bytes, .int .i64 S.breaks, .bool S.lf, .bool S.cr] /\ Below w.heap.size w w1) (by rfl) (by rfl) (fun w6 hSw => ?_) (fun w6 hSw => ?_) (.inr (fun v6 w6 hT6 => ?_)) (fun v6 hv6 => ?_)
  rotate_left 2
  ·(skip; go_simp; first | done | (constructor <;> with_reducible rfl) | with_reducible rfl)
  ·(refine (newPart_any enc Any (some ⟨ba, F, none⟩) m m (-1) l w6 HE.out (Reads.below HBT.out hSw) HBY.out (by omega) (Nat.le_refl _)).mono ?_; rintro e w1 ⟨rfl, hb1⟩; exact ⟨_, rfl, by rw [HS.out]; rfl, bseq hSw hb1⟩)
  ·(exact (HK.out _ (Fr.of_below hT6.2)).1)
  obtain ⟨wq, rfl, -⟩ := hv6
  (try simp only [Act.put, pA, pB, pC])
  refine wpL_heavy (fun u w' => ∃ wq, Below w.heap.size w wq /\ u = .slice (some ⟨wq.heap.size, 0, none⟩) 1 1 /\ w' = wq.alloc (.cells #[.slice (some ⟨ba, F, none⟩) m m, .int .i64 (-1), .int .i64 S.atoms, .int .i64 S.bytes, .int .i64 S.breaks, .bool S.lf, .bool S.cr] 107)) (by rfl) (by rfl) (fun w6 hSw => ?_) (.inr (fun v6 w6 hT6 => ?_)) (fun v6 hv6 => ?_)
  ·(go_simp; exact ⟨w6, hSw.2, rfl, rfl⟩)
  ·(obtain ⟨wq, hq, -, rfl⟩ := hT6; exact (HK.out _ (Fr.of_below (balloc hq))).1)
  skip
  (try simp only [Act.put, pA, pB, pC])
  refine wpL_heavy (fun u w' => Fr (OwnB v) w w' /\ w'.ownsRow w0.heap.size 107 7 u (ps.length + 1) (xs0 ++ [.slice (some ⟨ba, F, none⟩) m m, .int .i64 (-1), .int .i64 S.atoms, .int .i64 S.bytes, .int .i64 S.breaks, .bool S.lf, .bool S.cr])) (by rfl) (by rfl) (fun w6 hSw => ?_) (.inr (fun v6 w6 hT6 => ?_)) (fun v6 hv6 => ?_)
  ·(obtain ⟨wq, hq, rfl, rfl⟩ := hSw; exact hrun_append_own 232 rfl w0.heap.size 107 ip zp 7 64 Tryz.underlying232 hip hp0 hp1 hp2 hp3 (by decide) v ps.length _ rfl ((ownsRow_below HR.out hq).alloc _) ⟨wq.heap.size, 0, none⟩ 1 1 [.slice (some ⟨ba, F, none⟩) m m, .int .i64 (-1), .int .i64 S.atoms, .int .i64 S.bytes, .int .i64 S.breaks, .bool S.lf, .bool S.cr] rfl rfl (cells_new _ _ _) (part_one _ _ _ _ _ _ _ _ _) (by unfold maxLen; omega) (by omega) (by have := hq.size; simp; omega) (fun v' w' ho' hg' _ hat' => ⟨(Fr.of_below (balloc hq)).grown hg' (fun k hk _ => hk), ho'⟩))
  ·(exact (HK.out _ hT6.1).1)
  obtain ⟨wz, -, hz7⟩ := hv6; obtain ⟨A7, c7, rfl, -⟩ := own_slice hz7
  (try simp only [Act.put, pA, pB, pC])
  refine wpL_heavy (fun _ w' => ∃ wq, (Fr (OwnB v) w wq /\ wq.ownsRow w0.heap.size 107 7 (.slice A7 (ps.length + 1) c7) (ps.length + 1) (xs0 ++ [.slice (some ⟨ba, F, none⟩) m m, .int .i64 (-1), .int .i64 S.atoms, .int .i64 S.bytes, .int .i64 S.breaks, .bool S.lf, .bool S.cr])) /\ w' = wq.setCell ⟨bp, 0, none⟩ (.slice A7 (ps.length + 1) c7)) (by rfl) (by rfl) (fun w6 hSw => ?_) (.inl (by rfl)) (fun v6 hv6 => ?_)
  ·(obtain ⟨⟨y0, y1, y2, y3, y4⟩, y5, y6, y7⟩ := HK.out _ hSw.1; go_simp; exact ⟨w6, hSw, rfl⟩)
  skip
  (try simp only [Act.put, pA, pB, pC])
  refine wpL_nil ?_
  rintro w2 ⟨wq, ⟨hfr, hown⟩, rfl⟩
  have hB3 := (HK.out _ hfr).2
  have y6 : (wq.setCell ⟨bp, 0, none⟩ (.slice A7 (ps.length + 1) c7)).frozen? ⟨bf, 0, none⟩ = false := (World.frozen?_setCell _ _ _ _).trans hB3.2.1
  have y7 : ((wq.setCell ⟨bp, 0, none⟩ (.slice A7 (ps.length + 1) c7)).setCell ⟨bf, 0, none⟩ (.int .i64 M)).frozen? ⟨bn, 0, none⟩ = false := (World.frozen?_setCell _ _ _ _).trans ((World.frozen?_setCell _ _ _ _).trans hB3.2.2)
  obtain ⟨z6, z7⟩ := HCL.out _ hfr (.slice A7 (ps.length + 1) c7) (.int .i64 M)
  have HP := Lib.hid (HF.out _ _ hfr hown)
  clear hB3 hfr hown
  go_wp2_with fail
  refine bodyPost_ret (results_none rfl _ _ _) rfl ⟨rfl, _, _, HP.out⟩
end Go.Proofs.YtgiihhikdoikgaaGreat
