/-
  The walks of package tree at the pieces: Replace.
-/
import Derived.Test.YtflhiohjikgedaaGreatDoorLGrow3
set_option linter.unusedSimpArgs false
set_option linter.unusedVariables false
set_option maxRecDepth 100000
set_option maxHeartbeats 32000000
namespace Go.Proofs.YtflhiohjikgedaaGreatDoor
open Go.RowKit
def ReplPost (ls : List Pc) (w : World) (e : Ending) (w' : World) : Prop := ∃ t a, e = .returned (.tuple #[.agg #[.pointer a], .int .i64 0]) /\ NodeAt w' t a /\ t.list = ls /\ Below w.heap.size w w'
theorem replace_tree (t : Tr) (a : Option Addr) (f k : Nat) (D : Nat -> Prop) (A : Option Addr) (n c : Nat) (ps : List Pc) (w : World) (h : NodeAt w t a) (hk : LstOk t.list) (hp : Parts w D A n ps) (hfk : f <= k) (hks : k <= t.list.length) (hc : n <= c)
  (hL : LstOk (t.list.take f ++ ps ++ t.list.drop k)) :
  Calls Tryz.prog 68 #[.agg #[.pointer a], .int .i64 (f : Int), .int .i64 (k : Int), .slice A n c] w fun e w' => ReplPost (t.list.take f ++ ps ++ t.list.drop k) w e w' := by
 have hlen := hp.len
 have hlp := hL.left.right
 obtain ⟨W, hWe⟩ : ∃ W, (w.alloc (.cells #[.pointer a] 86)).alloc (.cells #[.pointer none] 86) = W := ⟨_, rfl⟩
 have hW : Below w.heap.size w W := by rw [<- hWe]; exact balloc (balloc (Below.refl _ _))
 have hb1 : Blk W w.heap.size 86 #[.pointer a] := by rw [<- hWe]; exact (Blk.new w _ _).alloc _
 have hb2 : Blk W (w.heap.size + 1) 86 #[.pointer none] := by
  rw [<- hWe]
  have := Blk.new (w.alloc (.cells #[.pointer a] 86)) 86 #[.pointer none]
  simpa using this
 have hn := NodeAt.below hW t a h
 have fb := fun (w' : World) (hb : Below W.heap.size W w') => (And.intro ((hb1.below hb).cell 0) (And.intro ((hb2.below hb).cell 0) ((hb2.below hb).frozen 0)))
 have ks := tsize_any t a W hn
 have k1 := fun (w' : World) (hb : Below W.heap.size W w') => tcut_any t a (f : Int) w' (NodeAt.below hb _ _ hn) hk (by omega) (by have := hk.len; omega)
 have k2 := fun (w' : World) (hb : Below W.heap.size W w') => tcut_any t a (k : Int) w' (NodeAt.below hb _ _ hn) hk (by omega) (by have := hk.len; omega)
 have k3 := fun (w' : World) (hb : Below W.heap.size W w') => build_any ps.length D A n c ps w' (by omega) (Parts.below (Parts.below hp hW) hb) hlp.good hlp.tot (by have := hlp.len; omega) hc
 simp only [Int.toNat_natCast] at k1 k2
 rw [Tr.size_list] at ks
 obtain ⟨c1, c2, c3⟩ := fb W (Below.refl _ _)
 have q1 : ((f : Int) < 0) = False := by simp
 have q2 : ((k : Int) < (f : Int)) = False := by simp; omega
 have q3 : (((t.list.length : Nat) : Int) < (k : Int)) = False := by simp; omega
 obtain ⟨N, hN⟩ : ∃ N, t.list.length = N := ⟨_, rfl⟩
 rw [hN] at ks q3
 have HWE := Lib.hid hWe
 have FB := Lib.hid fb
 have KS := Lib.hid ks
 have K1 := Lib.hid k1
 have K2 := Lib.hid k2
 have K3 := Lib.hid k3
 have HL := Lib.hid hL
 have HB2 := Lib.hid hb2
 simp at c1 c2
 clear hWe fb ks k1 k2 k3 hL hb1 hb2 hn h hp hN hlen hks hfk
 go_enter Tryz.func68, Tryz.ntmps68
 go_wp2_with fail
 rw [HWE.out]
 refine (KS.out).mono ?_
 rintro e w1 ⟨rfl, hb1⟩
 obtain ⟨c1', -, -⟩ := FB.out _ hb1
 simp at c1'
 go_wp2_with fail
 refine (K1.out _ hb1).mono ?_
 rintro e w2 ⟨t1, a1, t2, a2, rfl, h1, h2, h3, h4, hb2⟩
 have hb2' := bseq hb1 hb2
 obtain ⟨c2', -, -⟩ := FB.out _ hb2'
 simp at c2'
 have H1 := Lib.hid h1
 have H3 := Lib.hid h3
 clear c1' h1 h2 h3 h4
 go_wp2_with fail
 refine (K2.out _ hb2').mono ?_
 rintro e w3 ⟨t3, a3, t4, a4, rfl, h5, h6, h7, h8, hb3⟩
 have hb3' := bseq hb2' hb3
 have H6 := Lib.hid h6
 have H8 := Lib.hid h8
 clear c2' h5 h6 h7 h8
 go_wp2_with fail
 refine (K3.out _ hb3').mono ?_
 rintro e w4 ⟨a5, rfl, h9, hb4⟩
 have hb4' := bseq hb3' hb4
 have e5 : (btF ps.length ps).list = ps := btF_list _ _ (Nat.le_refl _)
 have hk1 := both_tree t1 (btF ps.length ps) a1 a5 w4 (NodeAt.below hb4 _ _ (NodeAt.below hb3 _ _ H1.out)) h9 (by rw [H3.out, e5]; exact HL.out.left)
 rw [H3.out, e5] at hk1
 have HK1 := Lib.hid hk1
 clear hk1 h9 e5
 go_wp2_with fail
 refine (HK1.out).mono ?_
 rintro e w5 ⟨t6, a6, rfl, h10, h11, hb5⟩
 have hb5' := bseq hb4' hb5
 have hk2 := both_tree t6 t4 a6 a4 w5 h10 (NodeAt.below hb5 _ _ (NodeAt.below hb4 _ _ H6.out)) (by rw [h11, H8.out]; exact HL.out)
 rw [h11, H8.out] at hk2
 have HK2 := Lib.hid hk2
 clear hk2 h10 h11
 go_wp2_with fail
 refine (HK2.out).mono ?_
 rintro e w6 ⟨t7, a7, rfl, h12, h13, hb6⟩
 have hb6' := bseq hb5' hb6
 obtain ⟨-, d2, d3⟩ := FB.out _ hb6'
 have hB2 := HB2.out.below hb6'
 simp at d2
 have H12 := Lib.hid h12
 have H13 := Lib.hid h13
 have HBB := Lib.hid hB2
 clear h12 h13 hB2
 go_wp2_with fail
 have d4 : (w6.setCell ⟨w.heap.size + 1, 0, none⟩ (.pointer a7)).cell? ⟨w.heap.size + 1, 0, none⟩ = some (.pointer a7) := (HBB.out.set_ 0 _).cell 0
 refine bodyPost_ret (v := .tuple #[.agg #[.pointer a7], .int .i64 0]) (by simp [results, Tryz.results68, go_sem, d4]) rfl ⟨t7, a7, rfl, ?_, H13.out, (bseq hW hb6').setCell (by simp) _⟩
 exact NodeAt.keepBut (KeepBut.of_fr ((Fr.refl _ _).set1 0 _) HBB.out) (by decide) _ _ H12.out
end Go.Proofs.YtflhiohjikgedaaGreatDoor
