/-
  The walks of package tree at the pieces, second part: of.
-/
import Derived.Test.YtkoakanpaehkmaaGreatDoorLSized
set_option linter.unusedSimpArgs false
set_option linter.unusedVariables false
set_option maxRecDepth 100000
set_option maxHeartbeats 32000000
namespace Go.Proofs.YtkoakanpaehkmaaGreatDoor
open Go.RowKit
theorem measure_any (A : Option Addr) (n c : Nat) (tag : Int) (s : Sums) (w : World) : Calls Tryz.prog 243 #[.agg (partC A n c tag s)] w fun e w' =>
  e = .returned (.agg #[.int .i64 s.atoms, .int .i64 s.bytes, .int .i64 s.breaks, .bool s.lf, .bool s.cr]) /\ Below w.heap.size w w' := by
 simp only [partC]
 go_enter Tryz.func243, Tryz.ntmps243
 go_wp2
 refine bodyPost_ret (v := .agg #[.int .i64 s.atoms, .int .i64 s.bytes, .int .i64 s.breaks, .bool s.lf, .bool s.cr]) (by simp [results, Tryz.results243, go_sem]) rfl ⟨rfl, ?_⟩
 repeat (first | exact Below.refl _ _ | apply balloc)
theorem me_measure (A : Option Addr) (n c : Nat) (tag : Int) (s : Sums) (w : World) : (method 409 142 (.agg (partC A n c tag s)) "Measure").run Tryz.prog w = .ok (243, .agg (partC A n c tag s)) w := by kernel_rfl
theorem me_add (s : Sums) (w : World) : (method 409 134 (.agg s.cells) "Add").run Tryz.prog w = .ok (156, .agg s.cells) w := by kernel_rfl
def OfPost (l : Tr) (x : Pc) (r : Tr) (w : World) (e : Ending) (w' : World) : Prop := ∃ a, e = .returned (.pointer a) /\ NodeAt w' (.node l x r) a /\ Below w.heap.size w w'
theorem still_of {P : Program} {f : FuncId} {args : Array Value} {w : World} {v : Value} (h : Calls P f args w fun e w' => e = .returned v /\ w = w') : Calls P f args w fun e w' => e = .returned v /\ w' = w := h.mono fun _ _ ⟨a, b⟩ => ⟨a, b.symm⟩
def Tr.small (t : Tr) : Prop := 0 <= t.size /\ t.size <= 1073741824 /\ 0 <= t.tall /\ t.tall <= 1073741824
def OfCut (al ar : Option Addr) (x : Pc) (size tall : Int) (w wx : World) (s7 : Value) : Prop :=
 s7 = .pointer (some ⟨w.heap.size + 1, 0, none⟩) /\ Blk wx w.heap.size 142 x.cells /\ Blk wx (w.heap.size + 1) 196 (nodeC al ar x size tall zeroS) /\ Below w.heap.size w wx
theorem node_facts {w : World} {b : Nat} {al ar : Option Addr} {x : Pc} {sz tl : Int} {s : Sums} (h : Blk w b 196 (nodeC al ar x sz tl s)) :
  w.cell? ⟨b, 11, none⟩ = some (.int .i64 s.atoms) /\ w.cell? ⟨b, 12, none⟩ = some (.int .i64 s.bytes) /\ w.cell? ⟨b, 13, none⟩ = some (.int .i64 s.breaks) /\ w.cell? ⟨b, 14, none⟩ = some (.bool s.lf) /\ w.cell? ⟨b, 15, none⟩ = some (.bool s.cr) /\
  w.frozen? ⟨b, 11, none⟩ = false /\ w.frozen? ⟨b, 12, none⟩ = false /\ w.frozen? ⟨b, 13, none⟩ = false /\ w.frozen? ⟨b, 14, none⟩ = false /\ w.frozen? ⟨b, 15, none⟩ = false :=
 ⟨h.cell 11, h.cell 12, h.cell 13, h.cell 14, h.cell 15, h.frozen 11, h.frozen 12, h.frozen 13, h.frozen 14, h.frozen 15⟩
theorem node_set {w : World} {b : Nat} {al ar : Option Addr} {x : Pc} {sz tl : Int} {s s' : Sums} (h : Blk w b 196 (nodeC al ar x sz tl s)) :
  Blk (((((w.setCell ⟨b, 11, none⟩ (.int .i64 s'.atoms)).setCell ⟨b, 12, none⟩ (.int .i64 s'.bytes)).setCell ⟨b, 13, none⟩ (.int .i64 s'.breaks)).setCell ⟨b, 14, none⟩ (.bool s'.lf)).setCell ⟨b, 15, none⟩ (.bool s'.cr)) b 196 (nodeC al ar x sz tl s') :=
 ((((h.set_ 11 _).set_ 12 _).set_ 13 _).set_ 14 _).set_ 15 _
theorem below_set5 {w w1 : World} {b : Nat} {u1 u2 u3 u4 u5 : Value} (h : Below w.heap.size w w1) (hb : w.heap.size <= b) :
  Below w.heap.size w (((((w1.setCell ⟨b, 11, none⟩ u1).setCell ⟨b, 12, none⟩ u2).setCell ⟨b, 13, none⟩ u3).setCell ⟨b, 14, none⟩ u4).setCell ⟨b, 15, none⟩ u5) :=
 ((((h.setCell hb _).setCell hb _).setCell hb _).setCell hb _).setCell hb _
theorem tof_any (l r : Tr) (al ar : Option Addr) (x : Pc) (w : World) (hl : NodeAt w l al) (hr : NodeAt w r ar) (bl : l.small) (br : r.small) (ox : x.sum.ok) (ol : l.sum.ok) (or : r.sum.ok) (olx : (lsum l x).ok) :
  Calls Tryz.prog 193 #[.pointer al, .agg x.cells, .pointer ar] w fun e w' => OfPost l x r w e w' := by
 obtain ⟨l1, l2, l3, l4⟩ := bl
 obtain ⟨r1, r2, r3, r4⟩ := br
 have hW : Below w.heap.size w ((w.alloc (.cells x.cells 142)).drew) := (balloc (Below.refl _ w)).drew
 have hl1 := NodeAt.below hW l al hl
 have hr1 := NodeAt.below hW r ar hr
 have k1 := still_of (count_any l al _ hl1)
 have k2 := still_of (count_any r ar _ hr1)
 have k3 := still_of (tall_any l al _ hl1)
 have k4 := still_of (tall_any r ar _ hr1)
 have es : (Tr.node l x r).size = l.size + 1 + r.size := rfl
 have et : (Tr.node l x r).tall = max l.tall r.tall + 1 := rfl
 obtain ⟨sl, hsl⟩ : ∃ n, l.size = n := ⟨_, rfl⟩
 obtain ⟨sr, hsr⟩ : ∃ n, r.size = n := ⟨_, rfl⟩
 obtain ⟨tl, htl⟩ : ∃ n, l.tall = n := ⟨_, rfl⟩
 obtain ⟨tr, htr⟩ : ∃ n, r.tall = n := ⟨_, rfl⟩
 rw [hsl] at k1 l1 l2 es
 rw [hsr] at k2 r1 r2 es
 rw [htl] at k3 l3 l4 et
 rw [htr] at k4 r3 r4 et
 have K1 := Lib.hid k1
 have K2 := Lib.hid k2
 have K3 := Lib.hid k3
 have K4 := Lib.hid k4
 have ES := Lib.hid es
 have ET := Lib.hid et
 clear k1 k2 k3 k4 hsl hsr htl htr es et
 simp only [Pc.cells, partC] at *
 go_enter Tryz.func193, Tryz.ntmps193
 go_wp2_with fail
 go_cut [7] (fun s7 wx => OfCut al ar x (sl + 1 + sr) (max tl tr + 1) w wx s7)
 case first =>
  by_cases hm : tl < tr
  all_goals
   refine wp_region_still_tail 16 (by kernel_rfl) (by kernel_rfl) ?_
   change wpStill _ _ (World.drew _) (fun a' => wpList _ _ _ _ a' (World.drew _)) _ _
   simp only [List.take_succ_cons, List.take_zero, List.drop_succ_cons, List.drop_zero]
   repeat still_step
   still_call K1.out
   repeat still_step
   still_call K2.out
   repeat still_step
   still_call K3.out
   repeat still_step
   still_call K4.out
   repeat still_step
   refine wpStill_nil ?_
   clear K1 K2 K3 K4 ES ET hl1 hr1 hl hr hW
   go_wp2_with fail
   go_meet
   first | rw [show max tl tr = tr by omega] | rw [show max tl tr = tl by omega]
   refine ⟨rfl, ((Blk.new w _ _).alloc _).drew, ?_, (balloc (balloc (Below.refl _ w))).drew⟩
   have := Blk.new (w.alloc (.cells x.cells 142)) 196
   simp only [World.size_alloc] at this
   exact (this _).drew
 case rest =>
  obtain ⟨rfl, hbox, hnode, hW1⟩ := hcut
  have b0 := hbox.cell 0
  have b1 := hbox.cell 1
  have b2 := hbox.cell 2
  have b3 := hbox.cell 3
  have b4 := hbox.cell 4
  have b5 := hbox.cell 5
  have b6 := hbox.cell 6
  simp [Pc.cells, partC] at b0 b1 b2 b3 b4 b5 b6
  have f1 := me_measure x.A x.n x.c x.tag x.sum
  simp only [partC] at f1
  go_upto_region 2 with fail
  go_cut [] (fun wx => Blk wx (w.heap.size + 1) 196 (nodeC al ar x (sl + 1 + sr) (max tl tr + 1) x.sum) /\ Below w.heap.size w wx)
  case first =>
   go_wp2_with fail
   refine (measure_any x.A x.n x.c x.tag x.sum _).mono ?_
   rintro e w3 ⟨rfl, hb3⟩
   have hnode3 := hnode.below hb3
   have hW3 := bseq hW1 hb3
   obtain ⟨n0, n1, n2, n3, n4, m0, m1, m2, m3, m4⟩ := node_facts hnode3
   simp only [zeroS] at n0 n1 n2 n3 n4
   clear b0 b1 b2 b3 b4 b5 b6 f1 K1 K2 K3 K4 hl1 hr1
   go_wp2_with fail
   go_meet
   exact ⟨node_set hnode3, below_set5 hW3 (by omega)⟩
  case rest =>
   clear b0 b1 b2 b3 b4 b5 b6 f1 K1 K2 K3 K4 hl1 hr1 hnode hbox hW1 hW
   obtain ⟨hn1, hW1⟩ := hcut
   go_upto_if 32 with fail
   go_cut [] (fun wx => Blk wx (w.heap.size + 1) 196 (nodeC al ar x (sl + 1 + sr) (max tl tr + 1) (lsum l x)) /\ Below w.heap.size w wx)
   case first =>
    have hl2 := NodeAt.below hW1 l al hl
    cases l with
    | nil =>
     cases hl
     go_wp2_with fail
     go_meet
     exact ⟨hn1, hW1⟩
    | node a b c =>
     obtain ⟨bl, al', ar', rfl, hbl, _, _⟩ := hl2
     obtain ⟨p0, p1, p2, p3, p4, _, _, _, _, _⟩ := node_facts hbl
     obtain ⟨n0, n1, n2, n3, n4, m0, m1, m2, m3, m4⟩ := node_facts hn1
     obtain ⟨s, hs⟩ : ∃ s, (Tr.node a b c).sum = s := ⟨_, rfl⟩
     have hls : lsum (.node a b c) x = addF s x.sum := by rw [<- hs]; rfl
     rw [hs] at p0 p1 p2 p3 p4 ol
     have HLS := Lib.hid hls
     have f1 := me_add s
     simp only [Sums.cells] at f1
     clear hls hs
     go_wp2_with fail
     go_region_with (first | (go_at_call 156; refine (add_any' s x.sum _ ol ox).mono ?_; rintro e w4 ⟨rfl, hb4⟩; obtain ⟨j0, j1, j2, j3, j4, j5, j6, j7, j8, j9⟩ := node_facts (hn1.below (bdrew hb4))))
     all_goals
      go_wp2_with fail
      go_meet
      refine ⟨?_, below_set5 (bseq hW1 (bdrew hb4)) (by omega)⟩
      rw [HLS.out]
      exact node_set (hn1.below (bdrew hb4))
   case rest =>
    obtain ⟨hn2, hW2⟩ := hcut
    clear hn1 hW1
    have hl2 := NodeAt.below hW2 l al hl
    have hr2 := NodeAt.below hW2 r ar hr
    obtain ⟨s1, hs1⟩ : ∃ s, lsum l x = s := ⟨_, rfl⟩
    rw [hs1] at olx hn2
    have HS1 := Lib.hid hs1
    clear hs1
    cases r with
    | nil =>
     cases hr
     go_wp2_with fail
     go_ret
     refine ⟨_, rfl, ⟨_, _, _, rfl, ?_, hl2, rfl⟩, hW2⟩
     rw [ES.out, ET.out, Tr.sum_node, HS1.out]
     exact hn2
    | node a b c =>
     have hrr := hr2
     obtain ⟨br, al', ar', rfl, hbr, _, _⟩ := hr2
     obtain ⟨p0, p1, p2, p3, p4, _, _, _, _, _⟩ := node_facts hbr
     obtain ⟨n0, n1, n2, n3, n4, m0, m1, m2, m3, m4⟩ := node_facts hn2
     have hfs : (Tr.node l x (.node a b c)).sum = addF s1 (Tr.node a b c).sum := by rw [Tr.sum_node, HS1.out]; rfl
     obtain ⟨s, hs⟩ : ∃ s, (Tr.node a b c).sum = s := ⟨_, rfl⟩
     rw [hs] at p0 p1 p2 p3 p4 or hfs
     have HFS := Lib.hid hfs
     have f1 := me_add s1
     simp only [Sums.cells] at f1
     clear hfs hs
     go_wp2_with fail
     go_region_with (first | (go_at_call 156; refine (add_any' s1 s _ olx or).mono ?_; rintro e w4 ⟨rfl, hb4⟩; obtain ⟨j0, j1, j2, j3, j4, j5, j6, j7, j8, j9⟩ := node_facts (hn2.below (bdrew hb4))))
     all_goals
      go_wp2_with fail
      go_ret
      refine ⟨_, rfl, ⟨_, al, some ⟨br, 0, none⟩, rfl, ?_, ?_, ?_⟩, below_set5 (bseq hW2 (bdrew hb4)) (by omega)⟩
      ·rw [ES.out, ET.out, HFS.out]
       exact node_set (hn2.below (bdrew hb4))
      ·exact NodeAt.below (below_set5 (bseq hW2 (bdrew hb4)) (by omega)) l al hl
      ·exact NodeAt.below (below_set5 (bseq hW2 (bdrew hb4)) (by omega)) _ _ hr
end Go.Proofs.YtkoakanpaehkmaaGreatDoor
