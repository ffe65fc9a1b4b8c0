/-
  The walks of package tree at the pieces: even. The walks of package tree at the pieces: join, cut.
-/
import Derived.Test.YtflhiohjikgedaaGreatDoorLTree9
import Derived.Test.YtflhiohjikgedaaGreatDoorLHeavy
set_option linter.unusedSimpArgs false
set_option linter.unusedVariables false
set_option maxRecDepth 100000
set_option maxHeartbeats 32000000
namespace Go.Proofs.YtflhiohjikgedaaGreatDoor
open Go.RowKit
def TrOut (ls : List Pc) (W : World) (v : Value) (w' : World) : Prop := ∃ t a, v = .pointer a /\ NodeAt w' t a /\ t.list = ls /\ Below W.heap.size W w'
theorem TrOut.bel {ls : List Pc} {W w' : World} {v : Value} (h : TrOut ls W v w') : Below W.heap.size W w' := by obtain ⟨_, _, _, _, _, h⟩ := h; exact h
theorem TrOut.out {ls : List Pc} {W w' : World} {a : Option Addr} (h : TrOut ls W (.pointer a) w') : ∃ t, NodeAt w' t a /\ t.list = ls /\ Below W.heap.size W w' := by
 obtain ⟨t, a', e, h1, h2, h3⟩ := h
 injection e with e
 subst e
 exact ⟨t, h1, h2, h3⟩
def TrOut2 (la lb : List Pc) (a : Option Addr) (W : World) (v : Value) (w' : World) : Prop := (∃ t, NodeAt w' t a /\ t.list = la) /\ TrOut lb W v w'
def NodeC (w : World) (b : Nat) (al ar : Option Addr) (x : Pc) : Prop := w.cell? ⟨b, 0, none⟩ = some (.pointer al) /\ w.cell? ⟨b, 1, none⟩ = some (.pointer ar) /\
  w.cell? ⟨b, 2, none⟩ = some (.slice x.A x.n x.c) /\ w.cell? ⟨b, 3, none⟩ = some (.int .i64 x.tag) /\ w.cell? ⟨b, 4, none⟩ = some (.int .i64 x.sum.atoms) /\ w.cell? ⟨b, 5, none⟩ = some (.int .i64 x.sum.bytes) /\
  w.cell? ⟨b, 6, none⟩ = some (.int .i64 x.sum.breaks) /\ w.cell? ⟨b, 7, none⟩ = some (.bool x.sum.lf) /\ w.cell? ⟨b, 8, none⟩ = some (.bool x.sum.cr)
def BoxC (w : World) (b : Nat) (x : Pc) : Prop := 
  w.cell? ⟨b, 0, none⟩ = some (.slice x.A x.n x.c) /\ w.cell? ⟨b, 1, none⟩ = some (.int .i64 x.tag) /\ w.cell? ⟨b, 2, none⟩ = some (.int .i64 x.sum.atoms) /\ w.cell? ⟨b, 3, none⟩ = some (.int .i64 x.sum.bytes) /\
  w.cell? ⟨b, 4, none⟩ = some (.int .i64 x.sum.breaks) /\ w.cell? ⟨b, 5, none⟩ = some (.bool x.sum.lf) /\ w.cell? ⟨b, 6, none⟩ = some (.bool x.sum.cr)
theorem NodeC.of {w w' : World} {b : Nat} {al ar : Option Addr} {x : Pc} {sz tl : Int} {s : Sums} (h : Blk w b 134 (nodeC al ar x sz tl s)) (hb : Below w.heap.size w w') : NodeC w' b al ar x := by
 have h := h.below hb
 exact ⟨h.cell 0, h.cell 1, h.cell 2, h.cell 3, h.cell 4, h.cell 5, h.cell 6, h.cell 7, h.cell 8⟩
theorem BoxC.of {w w' : World} {b : Nat} {x : Pc} (h : Blk w b 94 x.cells) (hb : Below w.heap.size w w') : BoxC w' b x := by
 have h := h.below hb
 exact ⟨h.cell 0, h.cell 1, h.cell 2, h.cell 3, h.cell 4, h.cell 5, h.cell 6⟩
theorem of_out {l r : Tr} {al ar : Option Addr} {x : Pc} {W w : World} (hb : Below W.heap.size W w) (hl : NodeAt w l al) (hr : NodeAt w r ar) (h : LstOk (l.list ++ x :: r.list)) :
  Calls Tryz.prog 85 #[.pointer al, .agg x.cells, .pointer ar] w fun e w' => ∃ v, e = .returned v /\ TrOut (l.list ++ x :: r.list) W v w' := by
 refine (of_list l r al ar x w hl hr h).mono ?_
 rintro e w' ⟨t, a, rfl, h1, h2, h3⟩
 exact ⟨_, rfl, t, a, rfl, h1, h2, bseq hb h3⟩
theorem tall_step {t : Tr} {a : Option Addr} {W w : World} (hb : Below W.heap.size W w) (h : NodeAt w t a) :
  Calls Tryz.prog 105 #[.pointer a] w fun e w' => e = .returned (.int .i64 t.tall) /\ Below W.heap.size W w' := by
 refine (tall_any t a w h).mono ?_
 rintro e w' ⟨rfl, rfl⟩
 exact ⟨rfl, hb⟩
theorem TrOut2.of {la : List Pc} {a : Option Addr} {l r : Tr} {al ar : Option Addr} {x : Pc} {W w : World} (hS : TrOut la W (.pointer a) w) (hl : NodeAt w l al) (hr : NodeAt w r ar) (h : LstOk (l.list ++ x :: r.list)) :
  Calls Tryz.prog 85 #[.pointer al, .agg x.cells, .pointer ar] w fun e w' => ∃ v, e = .returned v /\ TrOut2 la (l.list ++ x :: r.list) a W v w' := by
 obtain ⟨t, hn, hla, hb⟩ := hS.out
 refine (of_list l r al ar x w hl hr h).mono ?_
 rintro e w' ⟨t2, a2, rfl, h1, h2, h3⟩
 exact ⟨_, rfl, ⟨t, NodeAt.below h3 _ _ hn, hla⟩, t2, a2, rfl, h1, h2, bseq hb h3⟩
theorem of_out2 {la lb : List Pc} {a b : Option Addr} {x : Pc} {W w : World} (hS : TrOut2 la lb a W (.pointer b) w) (h : LstOk (la ++ x :: lb)) :
  Calls Tryz.prog 85 #[.pointer a, .agg x.cells, .pointer b] w fun e w' => ∃ v, e = .returned v /\ TrOut (la ++ x :: lb) W v w' := by
 obtain ⟨⟨t, hn, rfl⟩, h2⟩ := hS
 obtain ⟨t2, hn2, rfl, hb⟩ := h2.out
 exact of_out hb hn hn2 h
theorem even_any (l r : Tr) (al ar : Option Addr) (x : Pc) (w : World) (hl : NodeAt w l al) (hr : NodeAt w r ar) (h : LstOk (l.list ++ x :: r.list)) :
  Calls Tryz.prog 123 #[.pointer al, .agg x.cells, .pointer ar] w fun e w' => TrPost (l.list ++ x :: r.list) w e w' := by
 have hbox := Blk.new w 94 x.cells
 have hW : Below w.heap.size w (w.alloc (.cells x.cells 94)) := balloc (Below.refl _ w)
 have hlW := NodeAt.below hW l al hl
 have hrW := NodeAt.below hW r ar hr
 have sl := Tr.small_of h.left.len
 have sr := Tr.small_of h.right.tail.len
 obtain ⟨W, hWe⟩ : ∃ W, w.alloc (.cells x.cells 94) = W := ⟨_, rfl⟩
 rw [hWe] at hbox hW hlW hrW
 simp only [Pc.cells, partC] at hWe
 have fx := fun (w' : World) (hb : Below W.heap.size W w') => BoxC.of hbox hb
 have HWE := Lib.hid hWe
 have FX := Lib.hid fx
 clear hWe hl hr fx hbox
 obtain ⟨tl, htl⟩ : ∃ n, l.tall = n := ⟨_, rfl⟩
 obtain ⟨tr, htr⟩ : ∃ n, r.tall = n := ⟨_, rfl⟩
 have kl := tall_any l al W hlW
 have kr := tall_any r ar W hrW
 rw [htl] at kl
 rw [htr] at kr
 obtain ⟨_, _, l3, l4⟩ := sl
 obtain ⟨_, _, r3, r4⟩ := sr
 rw [htl] at l3 l4
 rw [htr] at r3 r4
 have KL := Lib.hid kl
 have KR := Lib.hid kr
 clear kl kr
 by_cases h1 : tr + 1 < tl
 ·cases l with
  | nil => exfalso; simp only [Tr.tall] at htl; omega
  | node ll lx lr =>
   obtain ⟨b, al', ar', rfl, hblk, hnl, hnr⟩ := hlW
   have fn := fun (w' : World) (hb : Below W.heap.size W w') => NodeC.of hblk hb
   have FN := Lib.hid fn
   have HL := Lib.hid hnl
   have HR := Lib.hid hnr
   have HRR := Lib.hid hrW
   have hlist : (Tr.node ll lx lr).list ++ x :: r.list = ll.list ++ lx :: (lr.list ++ x :: r.list) := by simp [Tr.list]
   obtain ⟨tfar, htf⟩ : ∃ n, ll.tall = n := ⟨_, rfl⟩
   obtain ⟨tnear, htn⟩ : ∃ n, lr.tall = n := ⟨_, rfl⟩
   have e0 := (Tr.tall_le ll).1
   have e1 := (Tr.tall_le lr).1
   have kf := fun (w' : World) (hb : Below W.heap.size W w') => tall_step hb (NodeAt.below hb ll al' hnl)
   have kn := fun (w' : World) (hb : Below W.heap.size W w') => tall_step hb (NodeAt.below hb lr ar' hnr)
   rw [htf] at kf e0
   rw [htn] at kn e1
   have KF := Lib.hid kf
   have KN := Lib.hid kn
   have HLIST := Lib.hid hlist
   have HTN := Lib.hid htn
   have hLK : LstOk (ll.list ++ lx :: (lr.list ++ x :: r.list)) := by rw [<- hlist]; exact h
   have HLK := Lib.hid hLK
   clear hlist hLK hrW h kf kn htf fn htl htr hblk
   have g1 : (tr + 1 < tl) = True := by simp; omega
   by_cases h3 : tnear <= tfar
   ·have g2 : (tnear <= tfar) = True := by simp; omega
    clear h3 htn
    simp only [Pc.cells, partC]
    go_enter Tryz.func123, Tryz.ntmps123
    go_wp2_with fail
    rw [HWE.out]
    refine (KL.out).mono ?_
    rintro e w1 ⟨rfl, rfl⟩
    go_wp2_with fail
    refine (KR.out).mono ?_
    rintro e w1 ⟨rfl, rfl⟩
    go_wp2_with fail
    refine wp_region_lin (fun w' => Below W.heap.size W w') (fun w' => Below W.heap.size W w') (fun k => k == 4 || k == 9) (fun _ => false) (fun _ => false) (by kernel_rfl) (by kernel_rfl) (Below.drew (Below.refl _ _)) (fun _ h => h) ?_
    repeat ((first
     | (refine wpL_read (v := ?_) (by rfl) (by rfl) (fun w6 hSw => ?_) ?_; rotate_left; (· (obtain ⟨n0, n1, n2, n3, n4, n5, n6, n7, n8⟩ := FN.out _ hSw; go_simp; try with_reducible rfl)))
     | (refine wpL_free (v := ?_) (by rfl) (fun w6 => ?_) ?_; rotate_left; (· (go_simp; try with_reducible rfl)))
     | refine wpL_not (by rfl) ?_); (try simp only [Act.put, pA, pB, pC]))
    refine wpL_call1 (f := ?_) (args := ?_) (v := .int .i64 tfar) (by rfl) (by rfl) (fun w6 hSw => ?_) (fun _ h => h) (fun w6 hSw => ?_) ?_
    rotate_left 2
    ·(skip; go_simp; first | done | (constructor <;> with_reducible rfl) | with_reducible rfl)
    ·(exact KF.out _ hSw)
    (try simp only [Act.put, pA, pB, pC])
    repeat ((first
     | (refine wpL_read (v := ?_) (by rfl) (by rfl) (fun w6 hSw => ?_) ?_; rotate_left; (· (obtain ⟨n0, n1, n2, n3, n4, n5, n6, n7, n8⟩ := FN.out _ hSw; go_simp; try with_reducible rfl)))
     | (refine wpL_free (v := ?_) (by rfl) (fun w6 => ?_) ?_; rotate_left; (· (go_simp; try with_reducible rfl)))
     | refine wpL_not (by rfl) ?_); (try simp only [Act.put, pA, pB, pC]))
    refine wpL_call1 (f := ?_) (args := ?_) (v := .int .i64 tnear) (by rfl) (by rfl) (fun w6 hSw => ?_) (fun _ h => h) (fun w6 hSw => ?_) ?_
    rotate_left 2
    ·(skip; go_simp; first | done | (constructor <;> with_reducible rfl) | with_reducible rfl)
    ·(exact KN.out _ hSw)
    (try simp only [Act.put, pA, pB, pC])
    repeat ((first
     | (refine wpL_read (v := ?_) (by rfl) (by rfl) (fun w6 hSw => ?_) ?_; rotate_left; (· (obtain ⟨n0, n1, n2, n3, n4, n5, n6, n7, n8⟩ := FN.out _ hSw; go_simp; try with_reducible rfl)))
     | (refine wpL_free (v := ?_) (by rfl) (fun w6 => ?_) ?_; rotate_left; (· (go_simp; try with_reducible rfl)))
     | refine wpL_not (by rfl) ?_); (try simp only [Act.put, pA, pB, pC]))
    refine wpL_nil ?_
    intro w2 hw2
    go_wp2_with fail
    refine wp_region_lin (fun w' => Below W.heap.size W w') (fun w' => Below W.heap.size W w') (fun k => k == 14 || k == 15) (fun _ => false) (fun _ => false) (by kernel_rfl) (by kernel_rfl) (Below.drew hw2) (fun _ h => h) ?_
    repeat ((first
     | (refine wpL_read (v := ?_) (by rfl) (by rfl) (fun w6 hSw => ?_) ?_; rotate_left; (· (obtain ⟨n0, n1, n2, n3, n4, n5, n6, n7, n8⟩ := FN.out _ hSw; obtain ⟨x0, x1, x2, x3, x4, x5, x6⟩ := FX.out _ hSw; go_simp; try with_reducible rfl)))
     | (refine wpL_free (v := ?_) (by rfl) (fun w6 => ?_) ?_; rotate_left; (· (go_simp; try with_reducible rfl)))
     | refine wpL_not (by rfl) ?_); (try simp only [Act.put, pA, pB, pC]))
    refine wpL_call (f := ?_) (args := ?_) (TrOut (lr.list ++ x :: r.list) W) (by rfl) (by rfl) (fun w6 hSw => ?_) (fun w6 hSw => ?_) (.inr (fun v6 w6 hT6 => ?_)) (fun v6 hv6 => ?_)
    rotate_left 2
    ·(skip; go_simp; first | done | (constructor <;> with_reducible rfl) | with_reducible rfl)
    ·(exact of_out hSw (NodeAt.below hSw _ _ HR.out) (NodeAt.below hSw _ _ HRR.out) HLK.out.right.tail)
    ·(exact hT6.bel)
    obtain ⟨w7, t7, a7, rfl, hc7⟩ := hv6; clear hc7
    (try simp only [Act.put, pA, pB, pC])
    repeat ((first
     | (refine wpL_read (v := ?_) (by rfl) (by rfl) (fun w6 hSw => ?_) ?_; rotate_left; (· (obtain ⟨n0, n1, n2, n3, n4, n5, n6, n7, n8⟩ := FN.out _ hSw; go_simp; try with_reducible rfl)))
     | (refine wpL_free (v := ?_) (by rfl) (fun w6 => ?_) ?_; rotate_left; (· (go_simp; try with_reducible rfl)))
     | refine wpL_not (by rfl) ?_); (try simp only [Act.put, pA, pB, pC]))
    refine wpL_call (f := ?_) (args := ?_) (TrOut (ll.list ++ lx :: (lr.list ++ x :: r.list)) W) (by rfl) (by rfl) (fun w6 hSw => ?_) (fun w6 hSw => ?_) (.inr (fun v6 w6 hT6 => ?_)) (fun v6 hv6 => ?_)
    rotate_left 2
    ·(skip; go_simp; first | done | (constructor <;> with_reducible rfl) | with_reducible rfl)
    ·(obtain ⟨t8, hn8, hl8, hb8⟩ := hSw.out; (have := of_out hb8 (NodeAt.below hb8 _ _ HL.out) hn8 (x := lx) (by rw [hl8]; exact HLK.out)); rw [hl8] at this; exact this)
    ·(exact hT6.bel)
    obtain ⟨w8, t8, a8, rfl, hc8⟩ := hv6; clear hc8
    (try simp only [Act.put, pA, pB, pC])
    repeat ((first
     | (refine wpL_read (v := ?_) (by rfl) (by rfl) (fun w6 hSw => ?_) ?_; rotate_left; (· (skip; go_simp; try with_reducible rfl)))
     | (refine wpL_free (v := ?_) (by rfl) (fun w6 => ?_) ?_; rotate_left; (· (go_simp; try with_reducible rfl)))
     | refine wpL_not (by rfl) ?_); (try simp only [Act.put, pA, pB, pC]))
    refine wpL_nil ?_
    intro w3 hw3
    obtain ⟨t9, hn9, hl9, hb9⟩ := hw3.out
    go_wp2_with fail
    go_ret
    rw [HLIST.out]
    exact ⟨t9, _, rfl, hn9, hl9, bseq hW hb9⟩
   ·have g2 : (tnear <= tfar) = False := by simp; omega
    cases lr with
    | nil => exfalso; simp only [Tr.tall] at htn; omega
    | node ml mx mr =>
     obtain ⟨c, cl, cr, rfl, hblc, hcl, hcr⟩ := hnr
     have fm := fun (w' : World) (hb : Below W.heap.size W w') => NodeC.of hblc hb
     have FM := Lib.hid fm
     have HCL := Lib.hid hcl
     have HCR := Lib.hid hcr
     have hlist2 : ll.list ++ lx :: ((Tr.node ml mx mr).list ++ x :: r.list) = (ll.list ++ lx :: ml.list) ++ mx :: (mr.list ++ x :: r.list) := by simp [Tr.list]
     have HLIST2 := Lib.hid hlist2
     have hLK2 : LstOk ((ll.list ++ lx :: ml.list) ++ mx :: (mr.list ++ x :: r.list)) := by rw [<- hlist2]; exact HLK.out
     have HLK2 := Lib.hid hLK2
     clear h3 htn fm hblc hcl hcr hlist2 hLK2
     simp only [Pc.cells, partC]
     go_enter Tryz.func123, Tryz.ntmps123
     go_wp2_with fail
     rw [HWE.out]
     refine (KL.out).mono ?_
     rintro e w1 ⟨rfl, rfl⟩
     go_wp2_with fail
     refine (KR.out).mono ?_
     rintro e w1 ⟨rfl, rfl⟩
     go_wp2_with fail
     refine wp_region_lin (fun w' => Below W.heap.size W w') (fun w' => Below W.heap.size W w') (fun k => k == 4 || k == 9) (fun _ => false) (fun _ => false) (by kernel_rfl) (by kernel_rfl) (Below.drew (Below.refl _ _)) (fun _ h => h) ?_
     repeat ((first
      | (refine wpL_read (v := ?_) (by rfl) (by rfl) (fun w6 hSw => ?_) ?_; rotate_left; (· (obtain ⟨n0, n1, n2, n3, n4, n5, n6, n7, n8⟩ := FN.out _ hSw; go_simp; try with_reducible rfl)))
      | (refine wpL_free (v := ?_) (by rfl) (fun w6 => ?_) ?_; rotate_left; (· (go_simp; try with_reducible rfl)))
      | refine wpL_not (by rfl) ?_); (try simp only [Act.put, pA, pB, pC]))
     refine wpL_call1 (f := ?_) (args := ?_) (v := .int .i64 tfar) (by rfl) (by rfl) (fun w6 hSw => ?_) (fun _ h => h) (fun w6 hSw => ?_) ?_
     rotate_left 2
     ·(skip; go_simp; first | done | (constructor <;> with_reducible rfl) | with_reducible rfl)
     ·(exact KF.out _ hSw)
     (try simp only [Act.put, pA, pB, pC])
     repeat ((first
      | (refine wpL_read (v := ?_) (by rfl) (by rfl) (fun w6 hSw => ?_) ?_; rotate_left; (· (obtain ⟨n0, n1, n2, n3, n4, n5, n6, n7, n8⟩ := FN.out _ hSw; go_simp; try with_reducible rfl)))
      | (refine wpL_free (v := ?_) (by rfl) (fun w6 => ?_) ?_; rotate_left; (· (go_simp; try with_reducible rfl)))
      | refine wpL_not (by rfl) ?_); (try simp only [Act.put, pA, pB, pC]))
     refine wpL_call1 (f := ?_) (args := ?_) (v := .int .i64 tnear) (by rfl) (by rfl) (fun w6 hSw => ?_) (fun _ h => h) (fun w6 hSw => ?_) ?_
     rotate_left 2
     ·(skip; go_simp; first | done | (constructor <;> with_reducible rfl) | with_reducible rfl)
     ·(exact KN.out _ hSw)
     (try simp only [Act.put, pA, pB, pC])
     repeat ((first
      | (refine wpL_read (v := ?_) (by rfl) (by rfl) (fun w6 hSw => ?_) ?_; rotate_left; (· (obtain ⟨n0, n1, n2, n3, n4, n5, n6, n7, n8⟩ := FN.out _ hSw; go_simp; try with_reducible rfl)))
      | (refine wpL_free (v := ?_) (by rfl) (fun w6 => ?_) ?_; rotate_left; (· (go_simp; try with_reducible rfl)))
      | refine wpL_not (by rfl) ?_); (try simp only [Act.put, pA, pB, pC]))
     refine wpL_nil ?_
     intro w2 hw2
     obtain ⟨n0, n1, n2, n3, n4, n5, n6, n7, n8⟩ := FN.out _ hw2
     obtain ⟨m0, m1, m2, m3, m4, m5, m6, m7, m8⟩ := FM.out _ hw2
     go_wp2_with fail
     clear n0 n1 n2 n3 n4 n5 n6 n7 n8 m0 m1 m2 m3 m4 m5 m6 m7 m8
     refine wp_region_lin (fun w' => Below W.heap.size W w') (fun w' => Below W.heap.size W w') (fun k => k == 12 || k == 23 || k == 24) (fun _ => false) (fun _ => false) (by kernel_rfl) (by kernel_rfl) (Below.drew hw2) (fun _ h => h) ?_
     repeat ((first
      | (refine wpL_read (v := ?_) (by rfl) (by rfl) (fun w6 hSw => ?_) ?_; rotate_left; (· (obtain ⟨n0, n1, n2, n3, n4, n5, n6, n7, n8⟩ := FN.out _ hSw; obtain ⟨m0, m1, m2, m3, m4, m5, m6, m7, m8⟩ := FM.out _ hSw; obtain ⟨x0, x1, x2, x3, x4, x5, x6⟩ := FX.out _ hSw; go_simp; try with_reducible rfl)))
      | (refine wpL_free (v := ?_) (by rfl) (fun w6 => ?_) ?_; rotate_left; (· (go_simp; try with_reducible rfl)))
      | refine wpL_not (by rfl) ?_); (try simp only [Act.put, pA, pB, pC]))
     refine wpL_call (f := ?_) (args := ?_) (TrOut (ll.list ++ lx :: ml.list) W) (by rfl) (by rfl) (fun w6 hSw => ?_) (fun w6 hSw => ?_) (.inr (fun v6 w6 hT6 => ?_)) (fun v6 hv6 => ?_)
     rotate_left 2
     ·(skip; go_simp; first | done | (constructor <;> with_reducible rfl) | with_reducible rfl)
     ·(exact of_out hSw (NodeAt.below hSw _ _ HL.out) (NodeAt.below hSw _ _ HCL.out) HLK2.out.left)
     ·(exact hT6.bel)
     obtain ⟨w7, t7, a7, rfl, hc7⟩ := hv6; clear hc7
     (try simp only [Act.put, pA, pB, pC])
     repeat ((first
      | (refine wpL_read (v := ?_) (by rfl) (by rfl) (fun w6 hSw => ?_) ?_; rotate_left; (· (obtain ⟨n0, n1, n2, n3, n4, n5, n6, n7, n8⟩ := FN.out _ hSw; obtain ⟨m0, m1, m2, m3, m4, m5, m6, m7, m8⟩ := FM.out _ hSw; obtain ⟨x0, x1, x2, x3, x4, x5, x6⟩ := FX.out _ hSw; go_simp; try with_reducible rfl)))
      | (refine wpL_free (v := ?_) (by rfl) (fun w6 => ?_) ?_; rotate_left; (· (go_simp; try with_reducible rfl)))
      | refine wpL_not (by rfl) ?_); (try simp only [Act.put, pA, pB, pC]))
     refine wpL_call (f := ?_) (args := ?_) (TrOut2 (ll.list ++ lx :: ml.list) (mr.list ++ x :: r.list) a7 W) (by rfl) (by rfl) (fun w6 hSw => ?_) (fun w6 hSw => ?_) (.inr (fun v6 w6 hT6 => ?_)) (fun v6 hv6 => ?_)
     rotate_left 2
     ·(skip; go_simp; first | done | (constructor <;> with_reducible rfl) | with_reducible rfl)
     ·(exact TrOut2.of hSw (NodeAt.below hSw.bel _ _ HCR.out) (NodeAt.below hSw.bel _ _ HRR.out) HLK2.out.right.tail)
     ·(exact hT6.2.bel)
     obtain ⟨w8, hx8, t8, a8, rfl, hc8⟩ := hv6; clear hc8 hx8
     (try simp only [Act.put, pA, pB, pC])
     repeat ((first
      | (refine wpL_read (v := ?_) (by rfl) (by rfl) (fun w6 hSw => ?_) ?_; rotate_left; (· (obtain ⟨n0, n1, n2, n3, n4, n5, n6, n7, n8⟩ := FN.out _ hSw; obtain ⟨m0, m1, m2, m3, m4, m5, m6, m7, m8⟩ := FM.out _ hSw; obtain ⟨x0, x1, x2, x3, x4, x5, x6⟩ := FX.out _ hSw; go_simp; try with_reducible rfl)))
      | (refine wpL_free (v := ?_) (by rfl) (fun w6 => ?_) ?_; rotate_left; (· (go_simp; try with_reducible rfl)))
      | refine wpL_not (by rfl) ?_); (try simp only [Act.put, pA, pB, pC]))
     refine wpL_call (f := ?_) (args := ?_) (TrOut ((ll.list ++ lx :: ml.list) ++ mx :: (mr.list ++ x :: r.list)) W) (by rfl) (by rfl) (fun w6 hSw => ?_) (fun w6 hSw => ?_) (.inr (fun v6 w6 hT6 => ?_)) (fun v6 hv6 => ?_)
     rotate_left 2
     ·(skip; go_simp; first | done | (constructor <;> with_reducible rfl) | with_reducible rfl)
     ·(exact of_out2 hSw HLK2.out)
     ·(exact hT6.bel)
     obtain ⟨w9, t9, a9, rfl, hc9⟩ := hv6; clear hc9
     (try simp only [Act.put, pA, pB, pC])
     repeat ((first
      | (refine wpL_read (v := ?_) (by rfl) (by rfl) (fun w6 hSw => ?_) ?_; rotate_left; (· (skip; go_simp; try with_reducible rfl)))
      | (refine wpL_free (v := ?_) (by rfl) (fun w6 => ?_) ?_; rotate_left; (· (go_simp; try with_reducible rfl)))
      | refine wpL_not (by rfl) ?_); (try simp only [Act.put, pA, pB, pC]))
     refine wpL_nil ?_
     intro w3 hw3
     obtain ⟨t9, hn9, hl9, hb9⟩ := hw3.out
     go_wp2_with fail
     go_ret
     rw [HLIST.out, HLIST2.out]
     exact ⟨t9, _, rfl, hn9, hl9, bseq hW hb9⟩
 ·by_cases h2 : tl + 1 < tr
  ·cases r with
   | nil => exfalso; simp only [Tr.tall] at htr; omega
   | node ll lx lr =>
    obtain ⟨b, al', ar', rfl, hblk, hnl, hnr⟩ := hrW
    have fn := fun (w' : World) (hb : Below W.heap.size W w') => NodeC.of hblk hb
    have FN := Lib.hid fn
    have HL := Lib.hid hnl
    have HR := Lib.hid hnr
    have HRR := Lib.hid hlW
    have hlist : l.list ++ x :: (Tr.node ll lx lr).list = (l.list ++ x :: ll.list) ++ lx :: lr.list := by simp [Tr.list]
    obtain ⟨tfar, htf⟩ : ∃ n, lr.tall = n := ⟨_, rfl⟩
    obtain ⟨tnear, htn⟩ : ∃ n, ll.tall = n := ⟨_, rfl⟩
    have e0 := (Tr.tall_le lr).1
    have e1 := (Tr.tall_le ll).1
    have kf := fun (w' : World) (hb : Below W.heap.size W w') => tall_step hb (NodeAt.below hb lr ar' hnr)
    have kn := fun (w' : World) (hb : Below W.heap.size W w') => tall_step hb (NodeAt.below hb ll al' hnl)
    rw [htf] at kf e0
    rw [htn] at kn e1
    have KF := Lib.hid kf
    have KN := Lib.hid kn
    have HLIST := Lib.hid hlist
    have HTN := Lib.hid htn
    have hLK : LstOk ((l.list ++ x :: ll.list) ++ lx :: lr.list) := by rw [<- hlist]; exact h
    have HLK := Lib.hid hLK
    clear hlist hLK hlW h kf kn htf fn htl htr hblk
    have g1 : (tr + 1 < tl) = False := by simp; omega
    have g3 : (tl + 1 < tr) = True := by simp; omega
    by_cases h3 : tnear <= tfar
    ·have g2 : (tnear <= tfar) = True := by simp; omega
     clear h3 htn
     simp only [Pc.cells, partC]
     go_enter Tryz.func123, Tryz.ntmps123
     go_wp2_with fail
     rw [HWE.out]
     refine (KL.out).mono ?_
     rintro e w1 ⟨rfl, rfl⟩
     go_wp2_with fail
     refine (KR.out).mono ?_
     rintro e w1 ⟨rfl, rfl⟩
     go_wp2_with fail
     refine (KR.out).mono ?_
     rintro e w1 ⟨rfl, rfl⟩
     go_wp2_with fail
     refine (KL.out).mono ?_
     rintro e w1 ⟨rfl, rfl⟩
     go_wp2_with fail
     refine wp_region_lin (fun w' => Below W.heap.size W w') (fun w' => Below W.heap.size W w') (fun k => k == 4 || k == 9) (fun _ => false) (fun _ => false) (by kernel_rfl) (by kernel_rfl) (Below.drew (Below.refl _ _)) (fun _ h => h) ?_
     repeat ((first
      | (refine wpL_read (v := ?_) (by rfl) (by rfl) (fun w6 hSw => ?_) ?_; rotate_left; (· (obtain ⟨n0, n1, n2, n3, n4, n5, n6, n7, n8⟩ := FN.out _ hSw; go_simp; try with_reducible rfl)))
      | (refine wpL_free (v := ?_) (by rfl) (fun w6 => ?_) ?_; rotate_left; (· (go_simp; try with_reducible rfl)))
      | refine wpL_not (by rfl) ?_); (try simp only [Act.put, pA, pB, pC]))
     refine wpL_call1 (f := ?_) (args := ?_) (v := .int .i64 tfar) (by rfl) (by rfl) (fun w6 hSw => ?_) (fun _ h => h) (fun w6 hSw => ?_) ?_
     rotate_left 2
     ·(skip; go_simp; first | done | (constructor <;> with_reducible rfl) | with_reducible rfl)
     ·(exact KF.out _ hSw)
     (try simp only [Act.put, pA, pB, pC])
     repeat ((first
      | (refine wpL_read (v := ?_) (by rfl) (by rfl) (fun w6 hSw => ?_) ?_; rotate_left; (· (obtain ⟨n0, n1, n2, n3, n4, n5, n6, n7, n8⟩ := FN.out _ hSw; go_simp; try with_reducible rfl)))
      | (refine wpL_free (v := ?_) (by rfl) (fun w6 => ?_) ?_; rotate_left; (· (go_simp; try with_reducible rfl)))
      | refine wpL_not (by rfl) ?_); (try simp only [Act.put, pA, pB, pC]))
     refine wpL_call1 (f := ?_) (args := ?_) (v := .int .i64 tnear) (by rfl) (by rfl) (fun w6 hSw => ?_) (fun _ h => h) (fun w6 hSw => ?_) ?_
     rotate_left 2
     ·(skip; go_simp; first | done | (constructor <;> with_reducible rfl) | with_reducible rfl)
     ·(exact KN.out _ hSw)
     (try simp only [Act.put, pA, pB, pC])
     repeat ((first
      | (refine wpL_read (v := ?_) (by rfl) (by rfl) (fun w6 hSw => ?_) ?_; rotate_left; (· (obtain ⟨n0, n1, n2, n3, n4, n5, n6, n7, n8⟩ := FN.out _ hSw; go_simp; try with_reducible rfl)))
      | (refine wpL_free (v := ?_) (by rfl) (fun w6 => ?_) ?_; rotate_left; (· (go_simp; try with_reducible rfl)))
      | refine wpL_not (by rfl) ?_); (try simp only [Act.put, pA, pB, pC]))
     refine wpL_nil ?_
     intro w2 hw2
     go_wp2_with fail
     refine wp_region_lin (fun w' => Below W.heap.size W w') (fun w' => Below W.heap.size W w') (fun k => k == 6 || k == 15) (fun _ => false) (fun _ => false) (by kernel_rfl) (by kernel_rfl) (Below.drew hw2) (fun _ h => h) ?_
     repeat ((first
      | (refine wpL_read (v := ?_) (by rfl) (by rfl) (fun w6 hSw => ?_) ?_; rotate_left; (· (obtain ⟨n0, n1, n2, n3, n4, n5, n6, n7, n8⟩ := FN.out _ hSw; obtain ⟨x0, x1, x2, x3, x4, x5, x6⟩ := FX.out _ hSw; go_simp; try with_reducible rfl)))
      | (refine wpL_free (v := ?_) (by rfl) (fun w6 => ?_) ?_; rotate_left; (· (go_simp; try with_reducible rfl)))
      | refine wpL_not (by rfl) ?_); (try simp only [Act.put, pA, pB, pC]))
     refine wpL_call (f := ?_) (args := ?_) (TrOut (l.list ++ x :: ll.list) W) (by rfl) (by rfl) (fun w6 hSw => ?_) (fun w6 hSw => ?_) (.inr (fun v6 w6 hT6 => ?_)) (fun v6 hv6 => ?_)
     rotate_left 2
     ·(skip; go_simp; first | done | (constructor <;> with_reducible rfl) | with_reducible rfl)
     ·(exact of_out hSw (NodeAt.below hSw _ _ HRR.out) (NodeAt.below hSw _ _ HL.out) HLK.out.left)
     ·(exact hT6.bel)
     obtain ⟨w7, t7, a7, rfl, hc7⟩ := hv6; clear hc7
     (try simp only [Act.put, pA, pB, pC])
     repeat ((first
      | (refine wpL_read (v := ?_) (by rfl) (by rfl) (fun w6 hSw => ?_) ?_; rotate_left; (· (obtain ⟨n0, n1, n2, n3, n4, n5, n6, n7, n8⟩ := FN.out _ hSw; go_simp; try with_reducible rfl)))
      | (refine wpL_free (v := ?_) (by rfl) (fun w6 => ?_) ?_; rotate_left; (· (go_simp; try with_reducible rfl)))
      | refine wpL_not (by rfl) ?_); (try simp only [Act.put, pA, pB, pC]))
     refine wpL_call (f := ?_) (args := ?_) (TrOut ((l.list ++ x :: ll.list) ++ lx :: lr.list) W) (by rfl) (by rfl) (fun w6 hSw => ?_) (fun w6 hSw => ?_) (.inr (fun v6 w6 hT6 => ?_)) (fun v6 hv6 => ?_)
     rotate_left 2
     ·(skip; go_simp; first | done | (constructor <;> with_reducible rfl) | with_reducible rfl)
     ·(obtain ⟨t8, hn8, hl8, hb8⟩ := hSw.out; (have := of_out hb8 hn8 (NodeAt.below hb8 _ _ HR.out) (x := lx) (by rw [hl8]; exact HLK.out)); rw [hl8] at this; exact this)
     ·(exact hT6.bel)
     obtain ⟨w8, t8, a8, rfl, hc8⟩ := hv6; clear hc8
     (try simp only [Act.put, pA, pB, pC])
     repeat ((first
      | (refine wpL_read (v := ?_) (by rfl) (by rfl) (fun w6 hSw => ?_) ?_; rotate_left; (· (skip; go_simp; try with_reducible rfl)))
      | (refine wpL_free (v := ?_) (by rfl) (fun w6 => ?_) ?_; rotate_left; (· (go_simp; try with_reducible rfl)))
      | refine wpL_not (by rfl) ?_); (try simp only [Act.put, pA, pB, pC]))
     refine wpL_nil ?_
     intro w3 hw3
     obtain ⟨t9, hn9, hl9, hb9⟩ := hw3.out
     go_wp2_with fail
     go_ret
     rw [HLIST.out]
     exact ⟨t9, _, rfl, hn9, hl9, bseq hW hb9⟩
    ·have g2 : (tnear <= tfar) = False := by simp; omega
     cases ll with
     | nil => exfalso; simp only [Tr.tall] at htn; omega
     | node ml mx mr =>
      obtain ⟨c, cl, cr, rfl, hblc, hcl, hcr⟩ := hnl
      have fm := fun (w' : World) (hb : Below W.heap.size W w') => NodeC.of hblc hb
      have FM := Lib.hid fm
      have HCL := Lib.hid hcl
      have HCR := Lib.hid hcr
      have hlist2 : (l.list ++ x :: (Tr.node ml mx mr).list) ++ lx :: lr.list = (l.list ++ x :: ml.list) ++ mx :: (mr.list ++ lx :: lr.list) := by simp [Tr.list]
      have HLIST2 := Lib.hid hlist2
      have hLK2 : LstOk ((l.list ++ x :: ml.list) ++ mx :: (mr.list ++ lx :: lr.list)) := by rw [<- hlist2]; exact HLK.out
      have HLK2 := Lib.hid hLK2
      clear h3 htn fm hblc hcl hcr hlist2 hLK2
      simp only [Pc.cells, partC]
      go_enter Tryz.func123, Tryz.ntmps123
      go_wp2_with fail
      rw [HWE.out]
      refine (KL.out).mono ?_
      rintro e w1 ⟨rfl, rfl⟩
      go_wp2_with fail
      refine (KR.out).mono ?_
      rintro e w1 ⟨rfl, rfl⟩
      go_wp2_with fail
      refine (KR.out).mono ?_
      rintro e w1 ⟨rfl, rfl⟩
      go_wp2_with fail
      refine (KL.out).mono ?_
      rintro e w1 ⟨rfl, rfl⟩
      go_wp2_with fail
      refine wp_region_lin (fun w' => Below W.heap.size W w') (fun w' => Below W.heap.size W w') (fun k => k == 4 || k == 9) (fun _ => false) (fun _ => false) (by kernel_rfl) (by kernel_rfl) (Below.drew (Below.refl _ _)) (fun _ h => h) ?_
      repeat ((first
       | (refine wpL_read (v := ?_) (by rfl) (by rfl) (fun w6 hSw => ?_) ?_; rotate_left; (· (obtain ⟨n0, n1, n2, n3, n4, n5, n6, n7, n8⟩ := FN.out _ hSw; go_simp; try with_reducible rfl)))
       | (refine wpL_free (v := ?_) (by rfl) (fun w6 => ?_) ?_; rotate_left; (· (go_simp; try with_reducible rfl)))
       | refine wpL_not (by rfl) ?_); (try simp only [Act.put, pA, pB, pC]))
      refine wpL_call1 (f := ?_) (args := ?_) (v := .int .i64 tfar) (by rfl) (by rfl) (fun w6 hSw => ?_) (fun _ h => h) (fun w6 hSw => ?_) ?_
      rotate_left 2
      ·(skip; go_simp; first | done | (constructor <;> with_reducible rfl) | with_reducible rfl)
      ·(exact KF.out _ hSw)
      (try simp only [Act.put, pA, pB, pC])
      repeat ((first
       | (refine wpL_read (v := ?_) (by rfl) (by rfl) (fun w6 hSw => ?_) ?_; rotate_left; (· (obtain ⟨n0, n1, n2, n3, n4, n5, n6, n7, n8⟩ := FN.out _ hSw; go_simp; try with_reducible rfl)))
       | (refine wpL_free (v := ?_) (by rfl) (fun w6 => ?_) ?_; rotate_left; (· (go_simp; try with_reducible rfl)))
       | refine wpL_not (by rfl) ?_); (try simp only [Act.put, pA, pB, pC]))
      refine wpL_call1 (f := ?_) (args := ?_) (v := .int .i64 tnear) (by rfl) (by rfl) (fun w6 hSw => ?_) (fun _ h => h) (fun w6 hSw => ?_) ?_
      rotate_left 2
      ·(skip; go_simp; first | done | (constructor <;> with_reducible rfl) | with_reducible rfl)
      ·(exact KN.out _ hSw)
      (try simp only [Act.put, pA, pB, pC])
      repeat ((first
       | (refine wpL_read (v := ?_) (by rfl) (by rfl) (fun w6 hSw => ?_) ?_; rotate_left; (· (obtain ⟨n0, n1, n2, n3, n4, n5, n6, n7, n8⟩ := FN.out _ hSw; go_simp; try with_reducible rfl)))
       | (refine wpL_free (v := ?_) (by rfl) (fun w6 => ?_) ?_; rotate_left; (· (go_simp; try with_reducible rfl)))
       | refine wpL_not (by rfl) ?_); (try simp only [Act.put, pA, pB, pC]))
      refine wpL_nil ?_
      intro w2 hw2
      obtain ⟨n0, n1, n2, n3, n4, n5, n6, n7, n8⟩ := FN.out _ hw2
      obtain ⟨m0, m1, m2, m3, m4, m5, m6, m7, m8⟩ := FM.out _ hw2
      go_wp2_with fail
      clear n0 n1 n2 n3 n4 n5 n6 n7 n8 m0 m1 m2 m3 m4 m5 m6 m7 m8
      refine wp_region_lin (fun w' => Below W.heap.size W w') (fun w' => Below W.heap.size W w') (fun k => k == 6 || k == 23 || k == 24) (fun _ => false) (fun _ => false) (by kernel_rfl) (by kernel_rfl) (Below.drew hw2) (fun _ h => h) ?_
      repeat ((first
       | (refine wpL_read (v := ?_) (by rfl) (by rfl) (fun w6 hSw => ?_) ?_; rotate_left; (· (obtain ⟨n0, n1, n2, n3, n4, n5, n6, n7, n8⟩ := FN.out _ hSw; obtain ⟨m0, m1, m2, m3, m4, m5, m6, m7, m8⟩ := FM.out _ hSw; obtain ⟨x0, x1, x2, x3, x4, x5, x6⟩ := FX.out _ hSw; go_simp; try with_reducible rfl)))
       | (refine wpL_free (v := ?_) (by rfl) (fun w6 => ?_) ?_; rotate_left; (· (go_simp; try with_reducible rfl)))
       | refine wpL_not (by rfl) ?_); (try simp only [Act.put, pA, pB, pC]))
      refine wpL_call (f := ?_) (args := ?_) (TrOut (l.list ++ x :: ml.list) W) (by rfl) (by rfl) (fun w6 hSw => ?_) (fun w6 hSw => ?_) (.inr (fun v6 w6 hT6 => ?_)) (fun v6 hv6 => ?_)
      rotate_left 2
      ·(skip; go_simp; first | done | (constructor <;> with_reducible rfl) | with_reducible rfl)
      ·(exact of_out hSw (NodeAt.below hSw _ _ HRR.out) (NodeAt.below hSw _ _ HCL.out) HLK2.out.left)
      ·(exact hT6.bel)
      obtain ⟨w7, t7, a7, rfl, hc7⟩ := hv6; clear hc7
      (try simp only [Act.put, pA, pB, pC])
      repeat ((first
       | (refine wpL_read (v := ?_) (by rfl) (by rfl) (fun w6 hSw => ?_) ?_; rotate_left; (· (obtain ⟨n0, n1, n2, n3, n4, n5, n6, n7, n8⟩ := FN.out _ hSw; obtain ⟨m0, m1, m2, m3, m4, m5, m6, m7, m8⟩ := FM.out _ hSw; obtain ⟨x0, x1, x2, x3, x4, x5, x6⟩ := FX.out _ hSw; go_simp; try with_reducible rfl)))
       | (refine wpL_free (v := ?_) (by rfl) (fun w6 => ?_) ?_; rotate_left; (· (go_simp; try with_reducible rfl)))
       | refine wpL_not (by rfl) ?_); (try simp only [Act.put, pA, pB, pC]))
      refine wpL_call (f := ?_) (args := ?_) (TrOut2 (l.list ++ x :: ml.list) (mr.list ++ lx :: lr.list) a7 W) (by rfl) (by rfl) (fun w6 hSw => ?_) (fun w6 hSw => ?_) (.inr (fun v6 w6 hT6 => ?_)) (fun v6 hv6 => ?_)
      rotate_left 2
      ·(skip; go_simp; first | done | (constructor <;> with_reducible rfl) | with_reducible rfl)
      ·(exact TrOut2.of hSw (NodeAt.below hSw.bel _ _ HCR.out) (NodeAt.below hSw.bel _ _ HR.out) HLK2.out.right.tail)
      ·(exact hT6.2.bel)
      obtain ⟨w8, hx8, t8, a8, rfl, hc8⟩ := hv6; clear hc8 hx8
      (try simp only [Act.put, pA, pB, pC])
      repeat ((first
       | (refine wpL_read (v := ?_) (by rfl) (by rfl) (fun w6 hSw => ?_) ?_; rotate_left; (· (obtain ⟨n0, n1, n2, n3, n4, n5, n6, n7, n8⟩ := FN.out _ hSw; obtain ⟨m0, m1, m2, m3, m4, m5, m6, m7, m8⟩ := FM.out _ hSw; obtain ⟨x0, x1, x2, x3, x4, x5, x6⟩ := FX.out _ hSw; go_simp; try with_reducible rfl)))
       | (refine wpL_free (v := ?_) (by rfl) (fun w6 => ?_) ?_; rotate_left; (· (go_simp; try with_reducible rfl)))
       | refine wpL_not (by rfl) ?_); (try simp only [Act.put, pA, pB, pC]))
      refine wpL_call (f := ?_) (args := ?_) (TrOut ((l.list ++ x :: ml.list) ++ mx :: (mr.list ++ lx :: lr.list)) W) (by rfl) (by rfl) (fun w6 hSw => ?_) (fun w6 hSw => ?_) (.inr (fun v6 w6 hT6 => ?_)) (fun v6 hv6 => ?_)
      rotate_left 2
      ·(skip; go_simp; first | done | (constructor <;> with_reducible rfl) | with_reducible rfl)
      ·(exact of_out2 hSw HLK2.out)
      ·(exact hT6.bel)
      obtain ⟨w9, t9, a9, rfl, hc9⟩ := hv6; clear hc9
      (try simp only [Act.put, pA, pB, pC])
      repeat ((first
       | (refine wpL_read (v := ?_) (by rfl) (by rfl) (fun w6 hSw => ?_) ?_; rotate_left; (· (skip; go_simp; try with_reducible rfl)))
       | (refine wpL_free (v := ?_) (by rfl) (fun w6 => ?_) ?_; rotate_left; (· (go_simp; try with_reducible rfl)))
       | refine wpL_not (by rfl) ?_); (try simp only [Act.put, pA, pB, pC]))
      refine wpL_nil ?_
      intro w3 hw3
      obtain ⟨t9, hn9, hl9, hb9⟩ := hw3.out
      go_wp2_with fail
      go_ret
      rw [HLIST.out, HLIST2.out]
      exact ⟨t9, _, rfl, hn9, hl9, bseq hW hb9⟩
  ·have g1 : (tr + 1 < tl) = False := by simp; omega
   have g2 : (tl + 1 < tr) = False := by simp; omega
   have hc := fun (w' : World) (hb : Below W.heap.size W w') => of_list l r al ar x w' (NodeAt.below hb _ _ hlW) (NodeAt.below hb _ _ hrW) h
   have HC := Lib.hid hc
   obtain ⟨x0, x1, x2, x3, x4, x5, x6⟩ := FX.out _ (Below.refl _ _)
   clear h1 h2 hc hlW hrW h htl htr
   simp only [Pc.cells, partC] at *
   go_enter Tryz.func123, Tryz.ntmps123
   go_wp2_with fail
   rw [HWE.out]
   refine (KL.out).mono ?_
   rintro e w1 ⟨rfl, rfl⟩
   go_wp2_with fail
   refine (KR.out).mono ?_
   rintro e w1 ⟨rfl, rfl⟩
   go_wp2_with fail
   refine (KR.out).mono ?_
   rintro e w1 ⟨rfl, rfl⟩
   go_wp2_with fail
   refine (KL.out).mono ?_
   rintro e w1 ⟨rfl, rfl⟩
   go_wp2_with fail
   refine (HC.out _ (Below.refl _ _)).mono ?_
   rintro e w3 ⟨t, a, rfl, hn, hl, hb⟩
   go_wp2_with fail
   go_ret
   exact ⟨t, a, rfl, hn, hl, bseq hW hb⟩
theorem even_out {l r : Tr} {al ar : Option Addr} {x : Pc} {W w : World} (hb : Below W.heap.size W w) (hl : NodeAt w l al) (hr : NodeAt w r ar) (h : LstOk (l.list ++ x :: r.list)) :
  Calls Tryz.prog 123 #[.pointer al, .agg x.cells, .pointer ar] w fun e w' => ∃ v, e = .returned v /\ TrOut (l.list ++ x :: r.list) W v w' := by
 refine (even_any l r al ar x w hl hr h).mono ?_
 rintro e w' ⟨t, a, rfl, h1, h2, h3⟩
 exact ⟨_, rfl, t, a, rfl, h1, h2, bseq hb h3⟩
theorem join_any : ∀ (n : Nat) (l r : Tr) (al ar : Option Addr) (x : Pc) (w : World), l.list.length + r.list.length <= n -> NodeAt w l al -> NodeAt w r ar -> LstOk (l.list ++ x :: r.list) ->
  Calls Tryz.prog 106 #[.pointer al, .agg x.cells, .pointer ar] w fun e w' => TrPost (l.list ++ x :: r.list) w e w' := by
 intro n
 induction n with
 | zero =>
  intro l r al ar x w hn hl hr h
  have e1 : l = .nil := by cases l with | nil => rfl | node a b c => simp [Tr.list] at hn
  have e2 : r = .nil := by cases r with | nil => rfl | node a b c => simp [Tr.list] at hn
  subst e1
  subst e2
  cases hl
  cases hr
  have hW : Below w.heap.size w (w.alloc (.cells x.cells 94)) := balloc (Below.refl _ w)
  have hbx := BoxC.of (Blk.new w 94 x.cells) (Below.refl _ _)
  have kl := fun (w' : World) => tall_any .nil none w' rfl
  have hc := fun (w' : World) => of_list .nil .nil none none x w' rfl rfl h
  obtain ⟨x0, x1, x2, x3, x4, x5, x6⟩ := hbx
  have KL := Lib.hid kl
  have HC := Lib.hid hc
  clear kl hc hn h
  simp only [Pc.cells, partC, Tr.tall] at *
  go_enter Tryz.func106, Tryz.ntmps106
  go_wp2_with fail
  iterate 4
   refine (KL.out _).mono ?_
   rintro e w1 ⟨rfl, rfl⟩
   go_wp2_with fail
  refine (HC.out _).mono ?_
  rintro e w3 ⟨t, a, rfl, hn, hl, hb⟩
  go_wp2_with fail
  go_ret
  exact ⟨t, a, rfl, hn, hl, bseq hW hb⟩
 | succ n ih =>
  intro l r al ar x w hn hl hr h
  have hbox := Blk.new w 94 x.cells
  have hW : Below w.heap.size w (w.alloc (.cells x.cells 94)) := balloc (Below.refl _ w)
  have hlW := NodeAt.below hW l al hl
  have hrW := NodeAt.below hW r ar hr
  have sl := Tr.small_of h.left.len
  have sr := Tr.small_of h.right.tail.len
  obtain ⟨W, hWe⟩ : ∃ W, w.alloc (.cells x.cells 94) = W := ⟨_, rfl⟩
  rw [hWe] at hbox hW hlW hrW
  simp only [Pc.cells, partC] at hWe
  have fx := fun (w' : World) (hb : Below W.heap.size W w') => BoxC.of hbox hb
  have HWE := Lib.hid hWe
  have FX := Lib.hid fx
  have IH := Lib.hid ih
  clear hWe hl hr fx hbox ih
  obtain ⟨tl, htl⟩ : ∃ n, l.tall = n := ⟨_, rfl⟩
  obtain ⟨tr, htr⟩ : ∃ n, r.tall = n := ⟨_, rfl⟩
  have kl := tall_any l al W hlW
  have kr := tall_any r ar W hrW
  rw [htl] at kl
  rw [htr] at kr
  obtain ⟨_, _, l3, l4⟩ := sl
  obtain ⟨_, _, r3, r4⟩ := sr
  rw [htl] at l3 l4
  rw [htr] at r3 r4
  have KL := Lib.hid kl
  have KR := Lib.hid kr
  clear kl kr
  by_cases h1 : tr + 1 < tl
  ·cases l with
   | nil => exfalso; simp only [Tr.tall] at htl; omega
   | node ll lx lr =>
    obtain ⟨b, al', ar', rfl, hblk, hnl, hnr⟩ := hlW
    have fn := fun (w' : World) (hb : Below W.heap.size W w') => NodeC.of hblk hb
    have FN := Lib.hid fn
    have HL := Lib.hid hnl
    have HR := Lib.hid hnr
    have HRR := Lib.hid hrW
    have hlist : (Tr.node ll lx lr).list ++ x :: r.list = ll.list ++ lx :: (lr.list ++ x :: r.list) := by simp [Tr.list]
    have hlen : (Tr.node ll lx lr).list.length = ll.list.length + lr.list.length + 1 := by simp only [Tr.list, List.length_append, List.length_cons]; omega
    have hLK : LstOk (ll.list ++ lx :: (lr.list ++ x :: r.list)) := by rw [<- hlist]; exact h
    have hin := fun (w' : World) (hb : Below W.heap.size W w') => IH.out lr r ar' ar x w' (by omega) (NodeAt.below hb _ _ hnr) (NodeAt.below hb _ _ hrW) hLK.right.tail
    have HLIST := Lib.hid hlist
    have HLK := Lib.hid hLK
    have HIN := Lib.hid hin
    clear hlist hLK hin hrW h fn htl htr hblk hlen hn hnl hnr IH
    have g1 : (tr + 1 < tl) = True := by simp; omega
    simp only [Pc.cells, partC]
    go_enter Tryz.func106, Tryz.ntmps106
    go_wp2_with fail
    rw [HWE.out]
    refine (KL.out).mono ?_
    rintro e w1 ⟨rfl, rfl⟩
    go_wp2_with fail
    refine (KR.out).mono ?_
    rintro e w1 ⟨rfl, rfl⟩
    go_wp2_with fail
    refine wp_region_lin (fun w' => Below W.heap.size W w') (fun w' => Below W.heap.size W w') (fun k => k == 14 || k == 15) (fun _ => false) (fun _ => false) (by kernel_rfl) (by kernel_rfl) (Below.drew (Below.refl _ _)) (fun _ h => h) ?_
    repeat ((first
     | (refine wpL_read (v := ?_) (by rfl) (by rfl) (fun w6 hSw => ?_) ?_; rotate_left; (· (obtain ⟨n0, n1, n2, n3, n4, n5, n6, n7, n8⟩ := FN.out _ hSw; obtain ⟨x0, x1, x2, x3, x4, x5, x6⟩ := FX.out _ hSw; go_simp; try with_reducible rfl)))
     | (refine wpL_free (v := ?_) (by rfl) (fun w6 => ?_) ?_; rotate_left; (· (go_simp; try with_reducible rfl)))
     | refine wpL_not (by rfl) ?_); (try simp only [Act.put, pA, pB, pC]))
    refine wpL_call (f := ?_) (args := ?_) (TrOut (lr.list ++ x :: r.list) W) (by rfl) (by rfl) (fun w6 hSw => ?_) (fun w6 hSw => ?_) (.inr (fun v6 w6 hT6 => ?_)) (fun v6 hv6 => ?_)
    rotate_left 2
    ·(skip; go_simp; first | done | (constructor <;> with_reducible rfl) | with_reducible rfl)
    ·(refine (HIN.out _ hSw).mono ?_; rintro e w5 ⟨t5, a5, rfl, h51, h52, h53⟩; exact ⟨_, rfl, t5, a5, rfl, h51, h52, bseq hSw h53⟩)
    ·(exact hT6.bel)
    obtain ⟨w7, t7, a7, rfl, hc7⟩ := hv6; clear hc7
    (try simp only [Act.put, pA, pB, pC])
    repeat ((first
     | (refine wpL_read (v := ?_) (by rfl) (by rfl) (fun w6 hSw => ?_) ?_; rotate_left; (· (obtain ⟨n0, n1, n2, n3, n4, n5, n6, n7, n8⟩ := FN.out _ hSw; go_simp; try with_reducible rfl)))
     | (refine wpL_free (v := ?_) (by rfl) (fun w6 => ?_) ?_; rotate_left; (· (go_simp; try with_reducible rfl)))
     | refine wpL_not (by rfl) ?_); (try simp only [Act.put, pA, pB, pC]))
    refine wpL_call (f := ?_) (args := ?_) (TrOut (ll.list ++ lx :: (lr.list ++ x :: r.list)) W) (by rfl) (by rfl) (fun w6 hSw => ?_) (fun w6 hSw => ?_) (.inr (fun v6 w6 hT6 => ?_)) (fun v6 hv6 => ?_)
    rotate_left 2
    ·(skip; go_simp; first | done | (constructor <;> with_reducible rfl) | with_reducible rfl)
    ·(obtain ⟨t8, hn8, hl8, hb8⟩ := hSw.out; (have := even_out hb8 (NodeAt.below hb8 _ _ HL.out) hn8 (x := lx) (by rw [hl8]; exact HLK.out)); rw [hl8] at this; exact this)
    ·(exact hT6.bel)
    obtain ⟨w8, t8, a8, rfl, hc8⟩ := hv6; clear hc8
    (try simp only [Act.put, pA, pB, pC])
    repeat ((first
     | (refine wpL_read (v := ?_) (by rfl) (by rfl) (fun w6 hSw => ?_) ?_; rotate_left; (· (skip; go_simp; try with_reducible rfl)))
     | (refine wpL_free (v := ?_) (by rfl) (fun w6 => ?_) ?_; rotate_left; (· (go_simp; try with_reducible rfl)))
     | refine wpL_not (by rfl) ?_); (try simp only [Act.put, pA, pB, pC]))
    refine wpL_nil ?_
    intro w3 hw3
    obtain ⟨t9, hn9, hl9, hb9⟩ := hw3.out
    go_wp2_with fail
    go_ret
    rw [HLIST.out]
    exact ⟨t9, _, rfl, hn9, hl9, bseq hW hb9⟩
  ·by_cases h2 : tl + 1 < tr
   ·cases r with
    | nil => exfalso; simp only [Tr.tall] at htr; omega
    | node ll lx lr =>
     obtain ⟨b, al', ar', rfl, hblk, hnl, hnr⟩ := hrW
     have fn := fun (w' : World) (hb : Below W.heap.size W w') => NodeC.of hblk hb
     have FN := Lib.hid fn
     have HL := Lib.hid hnl
     have HR := Lib.hid hnr
     have HRR := Lib.hid hlW
     have hlist : l.list ++ x :: (Tr.node ll lx lr).list = (l.list ++ x :: ll.list) ++ lx :: lr.list := by simp [Tr.list]
     have hlen : (Tr.node ll lx lr).list.length = ll.list.length + lr.list.length + 1 := by simp only [Tr.list, List.length_append, List.length_cons]; omega
     have hLK : LstOk ((l.list ++ x :: ll.list) ++ lx :: lr.list) := by rw [<- hlist]; exact h
     have hin := fun (w' : World) (hb : Below W.heap.size W w') => IH.out l ll al al' x w' (by omega) (NodeAt.below hb _ _ hlW) (NodeAt.below hb _ _ hnl) hLK.left
     have HLIST := Lib.hid hlist
     have HLK := Lib.hid hLK
     have HIN := Lib.hid hin
     clear hlist hLK hin hlW h fn htl htr hblk hlen hn hnl hnr IH
     have g1 : (tr + 1 < tl) = False := by simp; omega
     have g3 : (tl + 1 < tr) = True := by simp; omega
     simp only [Pc.cells, partC]
     go_enter Tryz.func106, Tryz.ntmps106
     go_wp2_with fail
     rw [HWE.out]
     refine (KL.out).mono ?_
     rintro e w1 ⟨rfl, rfl⟩
     go_wp2_with fail
     refine (KR.out).mono ?_
     rintro e w1 ⟨rfl, rfl⟩
     go_wp2_with fail
     refine (KR.out).mono ?_
     rintro e w1 ⟨rfl, rfl⟩
     go_wp2_with fail
     refine (KL.out).mono ?_
     rintro e w1 ⟨rfl, rfl⟩
     go_wp2_with fail
     refine wp_region_lin (fun w' => Below W.heap.size W w') (fun w' => Below W.heap.size W w') (fun k => k == 6 || k == 15) (fun _ => false) (fun _ => false) (by kernel_rfl) (by kernel_rfl) (Below.drew (Below.refl _ _)) (fun _ h => h) ?_
     repeat ((first
      | (refine wpL_read (v := ?_) (by rfl) (by rfl) (fun w6 hSw => ?_) ?_; rotate_left; (· (obtain ⟨n0, n1, n2, n3, n4, n5, n6, n7, n8⟩ := FN.out _ hSw; obtain ⟨x0, x1, x2, x3, x4, x5, x6⟩ := FX.out _ hSw; go_simp; try with_reducible rfl)))
      | (refine wpL_free (v := ?_) (by rfl) (fun w6 => ?_) ?_; rotate_left; (· (go_simp; try with_reducible rfl)))
      | refine wpL_not (by rfl) ?_); (try simp only [Act.put, pA, pB, pC]))
     refine wpL_call (f := ?_) (args := ?_) (TrOut (l.list ++ x :: ll.list) W) (by rfl) (by rfl) (fun w6 hSw => ?_) (fun w6 hSw => ?_) (.inr (fun v6 w6 hT6 => ?_)) (fun v6 hv6 => ?_)
     rotate_left 2
     ·(skip; go_simp; first | done | (constructor <;> with_reducible rfl) | with_reducible rfl)
     ·(refine (HIN.out _ hSw).mono ?_; rintro e w5 ⟨t5, a5, rfl, h51, h52, h53⟩; exact ⟨_, rfl, t5, a5, rfl, h51, h52, bseq hSw h53⟩)
     ·(exact hT6.bel)
     obtain ⟨w7, t7, a7, rfl, hc7⟩ := hv6; clear hc7
     (try simp only [Act.put, pA, pB, pC])
     repeat ((first
      | (refine wpL_read (v := ?_) (by rfl) (by rfl) (fun w6 hSw => ?_) ?_; rotate_left; (· (obtain ⟨n0, n1, n2, n3, n4, n5, n6, n7, n8⟩ := FN.out _ hSw; go_simp; try with_reducible rfl)))
      | (refine wpL_free (v := ?_) (by rfl) (fun w6 => ?_) ?_; rotate_left; (· (go_simp; try with_reducible rfl)))
      | refine wpL_not (by rfl) ?_); (try simp only [Act.put, pA, pB, pC]))
     refine wpL_call (f := ?_) (args := ?_) (TrOut ((l.list ++ x :: ll.list) ++ lx :: lr.list) W) (by rfl) (by rfl) (fun w6 hSw => ?_) (fun w6 hSw => ?_) (.inr (fun v6 w6 hT6 => ?_)) (fun v6 hv6 => ?_)
     rotate_left 2
     ·(skip; go_simp; first | done | (constructor <;> with_reducible rfl) | with_reducible rfl)
     ·(obtain ⟨t8, hn8, hl8, hb8⟩ := hSw.out; (have := even_out hb8 hn8 (NodeAt.below hb8 _ _ HR.out) (x := lx) (by rw [hl8]; exact HLK.out)); rw [hl8] at this; exact this)
     ·(exact hT6.bel)
     obtain ⟨w8, t8, a8, rfl, hc8⟩ := hv6; clear hc8
     (try simp only [Act.put, pA, pB, pC])
     repeat ((first
      | (refine wpL_read (v := ?_) (by rfl) (by rfl) (fun w6 hSw => ?_) ?_; rotate_left; (· (skip; go_simp; try with_reducible rfl)))
      | (refine wpL_free (v := ?_) (by rfl) (fun w6 => ?_) ?_; rotate_left; (· (go_simp; try with_reducible rfl)))
      | refine wpL_not (by rfl) ?_); (try simp only [Act.put, pA, pB, pC]))
     refine wpL_nil ?_
     intro w3 hw3
     obtain ⟨t9, hn9, hl9, hb9⟩ := hw3.out
     go_wp2_with fail
     go_ret
     rw [HLIST.out]
     exact ⟨t9, _, rfl, hn9, hl9, bseq hW hb9⟩
   ·have g1 : (tr + 1 < tl) = False := by simp; omega
    have g2 : (tl + 1 < tr) = False := by simp; omega
    have hc := fun (w' : World) (hb : Below W.heap.size W w') => of_list l r al ar x w' (NodeAt.below hb _ _ hlW) (NodeAt.below hb _ _ hrW) h
    have HC := Lib.hid hc
    obtain ⟨x0, x1, x2, x3, x4, x5, x6⟩ := FX.out _ (Below.refl _ _)
    clear h1 h2 hc hlW hrW h htl htr hn IH
    simp only [Pc.cells, partC] at *
    go_enter Tryz.func106, Tryz.ntmps106
    go_wp2_with fail
    rw [HWE.out]
    refine (KL.out).mono ?_
    rintro e w1 ⟨rfl, rfl⟩
    go_wp2_with fail
    refine (KR.out).mono ?_
    rintro e w1 ⟨rfl, rfl⟩
    go_wp2_with fail
    refine (KR.out).mono ?_
    rintro e w1 ⟨rfl, rfl⟩
    go_wp2_with fail
    refine (KL.out).mono ?_
    rintro e w1 ⟨rfl, rfl⟩
    go_wp2_with fail
    refine (HC.out _ (Below.refl _ _)).mono ?_
    rintro e w3 ⟨t, a, rfl, hn, hl, hb⟩
    go_wp2_with fail
    go_ret
    exact ⟨t, a, rfl, hn, hl, bseq hW hb⟩
theorem join_outB {la : List Pc} {a : Option Addr} {l r : Tr} {al ar : Option Addr} {x : Pc} {W w : World} (hb : Below W.heap.size W w) (ha : ∃ t, NodeAt w t a /\ t.list = la) (hl : NodeAt w l al) (hr : NodeAt w r ar) (h : LstOk (l.list ++ x :: r.list)) :
  Calls Tryz.prog 106 #[.pointer al, .agg x.cells, .pointer ar] w fun e w' => ∃ v, e = .returned v /\ TrOut2 la (l.list ++ x :: r.list) a W v w' := by
 obtain ⟨t0, hn0, hl0⟩ := ha
 refine (join_any _ l r al ar x w (Nat.le_refl _) hl hr h).mono ?_
 rintro e w' ⟨t, a, rfl, h1, h2, h3⟩
 exact ⟨_, rfl, ⟨t0, NodeAt.below h3 _ _ hn0, hl0⟩, t, a, rfl, h1, h2, bseq hb h3⟩
def TCutPost (ls : List Pc) (i : Nat) (w : World) (e : Ending) (w' : World) : Prop :=
 ∃ t1 a1 t2 a2, e = .returned (.tuple #[.pointer a1, .pointer a2]) /\ NodeAt w' t1 a1 /\ NodeAt w' t2 a2 /\ t1.list = ls.take i /\ t2.list = ls.drop i /\ Below w.heap.size w w'
theorem take_mid {α : Type} (a : List α) (x : α) (b : List α) (k m : Nat) (h : a.length = k) : (a ++ x :: b).take (k + (m + 1)) = a ++ x :: b.take m := by
 subst h
 rw [List.take_append, List.take_of_length_le (by omega), Nat.add_sub_cancel_left, List.take_succ_cons]
theorem drop_mid {α : Type} (a : List α) (x : α) (b : List α) (k m : Nat) (h : a.length = k) : (a ++ x :: b).drop (k + (m + 1)) = b.drop m := by
 subst h
 rw [List.drop_append, List.drop_eq_nil_of_le (by omega), Nat.add_sub_cancel_left, List.drop_succ_cons, List.nil_append]
theorem tcut_any : ∀ (t : Tr) (a : Option Addr) (i : Int) (w : World), NodeAt w t a -> LstOk t.list -> -1073741826 <= i -> i <= 1073741826 ->
  Calls Tryz.prog 90 #[.pointer a, .int .i64 i] w fun e w' => TCutPost t.list i.toNat w e w' := by
 intro t
 induction t with
 | nil =>
  intro a i w h _ _ _
  cases h
  go_enter Tryz.func90, Tryz.ntmps90
  go_wp2_with fail
  go_ret2
  exact ⟨.nil, none, .nil, none, rfl, rfl, rfl, by simp [Tr.list], by simp [Tr.list], Below.refl _ _⟩
 | node l x r ihl ihr =>
  intro a i w hnode h i0 i1
  obtain ⟨b, al, ar, rfl, hblk, hnl, hnr⟩ := hnode
  have hsz := Tr.size_list l
  have hl2 := h.left.len
  have fn := fun (w' : World) (hb : Below w.heap.size w w') => NodeC.of hblk hb
  have hcnt := count_any l al w hnl
  have hlist : (Tr.node l x r).list = l.list ++ x :: r.list := rfl
  rw [hsz] at hcnt
  rw [hlist] at h ⊢
  obtain ⟨k, hk⟩ : ∃ k, l.list.length = k := ⟨_, rfl⟩
  rw [hk] at hcnt hl2
  obtain ⟨n0, n1, n2, n3, n4, n5, n6, n7, n8⟩ := fn w (Below.refl _ _)
  have FN := Lib.hid fn
  have HC := Lib.hid hcnt
  have HK := Lib.hid hk
  have HLK := Lib.hid h
  have HL := Lib.hid hnl
  have HR := Lib.hid hnr
  have IHL := Lib.hid (ihl al i w hnl h.left i0 i1)
  by_cases hik : i <= (k : Int)
  ·have g1 : (i <= (k : Int)) = True := by simp; omega
   clear ihl ihr hcnt hk h hnl hnr fn hsz hlist hblk hik
   go_enter Tryz.func90, Tryz.ntmps90
   go_wp2_with fail
   refine (HC.out).mono ?_
   rintro e w1 ⟨rfl, rfl⟩
   go_wp2_with fail
   refine (IHL.out).mono ?_
   rintro e w1 ⟨t1, a1, t2, a2, rfl, h1, h2, h3, h4, hb1⟩
   have hik : i <= (k : Int) := by simpa using g1
   have H1 := Lib.hid h1
   have H2 := Lib.hid h2
   have H3 := Lib.hid h3
   have H4 := Lib.hid h4
   clear n0 n1 n2 n3 n4 n5 n6 n7 n8 g1 h1 h2 h3 h4
   go_wp2_with fail
   refine wp_region_lin (fun w' => Below w1.heap.size w1 w') (fun w' => Below w1.heap.size w1 w') (fun k => k == 10) (fun _ => false) (fun _ => false) (by kernel_rfl) (by kernel_rfl) (Below.drew (Below.refl _ _)) (fun _ h => h) ?_
   repeat ((first
    | (refine wpL_read (v := ?_) (by rfl) (by rfl) (fun w6 hSw => ?_) ?_; rotate_left; (· (obtain ⟨n0, n1, n2, n3, n4, n5, n6, n7, n8⟩ := FN.out _ (bseq hb1 hSw); go_simp; try with_reducible rfl)))
    | (refine wpL_free (v := ?_) (by rfl) (fun w6 => ?_) ?_; rotate_left; (· (go_simp; try with_reducible rfl)))
    | refine wpL_not (by rfl) ?_); (try simp only [Act.put, pA, pB, pC]))
   refine wpL_call (f := ?_) (args := ?_) (TrOut2 (l.list.take i.toNat) (l.list.drop i.toNat ++ x :: r.list) a1 w1) (by rfl) (by rfl) (fun w6 hSw => ?_) (fun w6 hSw => ?_) (.inr (fun v6 w6 hT6 => ?_)) (fun v6 hv6 => ?_)
   rotate_left 2
   ·(skip; go_simp; first | done | (constructor <;> with_reducible rfl) | with_reducible rfl)
   ·((have := join_outB (la := l.list.take i.toNat) (a := a1) (x := x) hSw ⟨t1, NodeAt.below hSw _ _ H1.out, H3.out⟩ (NodeAt.below hSw _ _ H2.out) (NodeAt.below (bseq hb1 hSw) _ _ HR.out) (by rw [H4.out]; have := HLK.out; rw [<- List.take_append_drop i.toNat l.list, List.append_assoc] at this; exact this.right)); rw [H4.out] at this; exact this)
   ·(exact hT6.2.bel)
   obtain ⟨w7, hx7, t7, a7, rfl, hc7⟩ := hv6; clear hc7 hx7
   (try simp only [Act.put, pA, pB, pC])
   repeat ((first
    | (refine wpL_read (v := ?_) (by rfl) (by rfl) (fun w6 hSw => ?_) ?_; rotate_left; (· (skip; go_simp; try with_reducible rfl)))
    | (refine wpL_free (v := ?_) (by rfl) (fun w6 => ?_) ?_; rotate_left; (· (go_simp; try with_reducible rfl)))
    | refine wpL_not (by rfl) ?_); (try simp only [Act.put, pA, pB, pC]))
   refine wpL_nil ?_
   intro w3 hw3
   obtain ⟨⟨t9, hn9, hl9⟩, h10⟩ := hw3
   obtain ⟨t11, hn11, hl11, hb11⟩ := h10.out
   have hbw := bseq hb1 hb11
   clear h10
   go_wp2_with fail
   go_ret2
   refine ⟨t9, _, t11, _, rfl, hn9, hn11, ?_, ?_, hbw⟩
   ·rw [hl9, List.take_append_of_le_length (by rw [HK.out]; omega)]
   ·rw [hl11, List.drop_append_of_le_length (by rw [HK.out]; omega)]
  ·have g1 : (i <= (k : Int)) = False := by simp; omega
   have IHR := Lib.hid (ihr ar (i - k - 1) w hnr h.right.tail (by omega) (by omega))
   have k1 : IntKind.i64.wrap (i - (k : Int)) = i - k := IntWalk.i64_in _ (by omega)
   have k2 : IntKind.i64.wrap (i - (k : Int) - 1) = i - k - 1 := IntWalk.i64_in _ (by omega)
   clear ihl ihr hcnt hk h hnl hnr fn hsz hlist hblk hik IHL
   go_enter Tryz.func90, Tryz.ntmps90
   go_wp2_with fail
   refine (HC.out).mono ?_
   rintro e w1 ⟨rfl, rfl⟩
   go_wp2_with fail
   refine (IHR.out).mono ?_
   rintro e w1 ⟨t1, a1, t2, a2, rfl, h1, h2, h3, h4, hb1⟩
   have hik : (k : Int) < i := by simpa using g1
   have H1 := Lib.hid h1
   have H2 := Lib.hid h2
   have H3 := Lib.hid h3
   have H4 := Lib.hid h4
   clear n0 n1 n2 n3 n4 n5 n6 n7 n8 g1 h1 h2 h3 h4
   go_wp2_with fail
   refine wp_region_lin (fun w' => Below w1.heap.size w1 w') (fun w' => Below w1.heap.size w1 w') (fun k => k == 9) (fun _ => false) (fun _ => false) (by kernel_rfl) (by kernel_rfl) (Below.drew (Below.refl _ _)) (fun _ h => h) ?_
   repeat ((first
    | (refine wpL_read (v := ?_) (by rfl) (by rfl) (fun w6 hSw => ?_) ?_; rotate_left; (· (obtain ⟨n0, n1, n2, n3, n4, n5, n6, n7, n8⟩ := FN.out _ (bseq hb1 hSw); go_simp; try with_reducible rfl)))
    | (refine wpL_free (v := ?_) (by rfl) (fun w6 => ?_) ?_; rotate_left; (· (go_simp; try with_reducible rfl)))
    | refine wpL_not (by rfl) ?_); (try simp only [Act.put, pA, pB, pC]))
   refine wpL_call (f := ?_) (args := ?_) (TrOut2 (r.list.drop (i - k - 1).toNat) (l.list ++ x :: r.list.take (i - k - 1).toNat) a2 w1) (by rfl) (by rfl) (fun w6 hSw => ?_) (fun w6 hSw => ?_) (.inr (fun v6 w6 hT6 => ?_)) (fun v6 hv6 => ?_)
   rotate_left 2
   ·(skip; go_simp; first | done | (constructor <;> with_reducible rfl) | with_reducible rfl)
   ·((have := join_outB (la := r.list.drop (i - k - 1).toNat) (a := a2) (x := x) hSw ⟨t2, NodeAt.below hSw _ _ H2.out, H4.out⟩ (NodeAt.below (bseq hb1 hSw) _ _ HL.out) (NodeAt.below hSw _ _ H1.out) (by rw [H3.out]; have := HLK.out; rw [<- List.take_append_drop (i - k - 1).toNat r.list, <- List.cons_append, <- List.append_assoc] at this; exact this.left)); rw [H3.out] at this; exact this)
   ·(exact hT6.2.bel)
   obtain ⟨w7, hx7, t7, a7, rfl, hc7⟩ := hv6; clear hc7 hx7
   (try simp only [Act.put, pA, pB, pC])
   repeat ((first
    | (refine wpL_read (v := ?_) (by rfl) (by rfl) (fun w6 hSw => ?_) ?_; rotate_left; (· (skip; go_simp; try with_reducible rfl)))
    | (refine wpL_free (v := ?_) (by rfl) (fun w6 => ?_) ?_; rotate_left; (· (go_simp; try with_reducible rfl)))
    | refine wpL_not (by rfl) ?_); (try simp only [Act.put, pA, pB, pC]))
   refine wpL_nil ?_
   intro w3 hw3
   obtain ⟨⟨t9, hn9, hl9⟩, h10⟩ := hw3
   obtain ⟨t11, hn11, hl11, hb11⟩ := h10.out
   have hbw := bseq hb1 hb11
   clear h10
   go_wp2_with fail
   go_ret2
   have ek : i.toNat = k + ((i - k - 1).toNat + 1) := by omega
   refine ⟨t11, _, t9, _, rfl, hn11, hn9, ?_, ?_, hbw⟩
   ·rw [hl11, ek, take_mid _ _ _ _ _ HK.out]
   ·rw [hl9, ek, drop_mid _ _ _ _ _ HK.out]
end Go.Proofs.YtflhiohjikgedaaGreatDoor
