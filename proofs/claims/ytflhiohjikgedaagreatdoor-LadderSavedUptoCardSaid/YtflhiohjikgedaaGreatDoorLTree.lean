/-
  The walks of package piece, third part: newPart. The walks of package tree at the pieces, first part: nodes.
-/
import Derived.Test.YtflhiohjikgedaaGreatDoorLSized
import Derived.StillTailTactics
set_option linter.unusedSimpArgs false
set_option linter.unusedVariables false
set_option maxRecDepth 100000
set_option maxHeartbeats 32000000
namespace Go.Proofs.YtflhiohjikgedaaGreatDoor
open Go.RowKit
def partC (A : Option Addr) (n c : Nat) (tag : Int) (s : Sums) : Array Value := #[.slice A n c, .int .i64 tag, .int .i64 s.atoms, .int .i64 s.bytes, .int .i64 s.breaks, .bool s.lf, .bool s.cr]
def PartR (enc : Int) (A : Option Addr) (n c : Nat) (tag : Int) (l : List Int) (S : Sums) (w0 : World) (k : Nat) (q : Value) (wr : World) : Prop :=
 ∃ (p : Nat) (s : Sums), q = .int .i64 (p : Int) /\ Blk wr (w0.heap.size + 1) 94 (partC A n c tag s) /\ Blk wr w0.heap.size 94 (partC none 0 0 0 zeroS) /\
  Below w0.heap.size w0 wr /\ p <= n /\ n - p <= k /\ (dec enc (l.drop p)).foldl stepS s = S /\ 0 <= s.atoms /\ s.atoms <= p /\ s.bytes = p /\ 0 <= s.breaks /\ s.breaks <= s.atoms /\ Hid (0 < p -> 0 < s.atoms)
theorem singleF_ok (a : Int) (z : Nat) (h : z <= 1073741824) : (singleF a z).ok := by
 unfold Sums.ok singleF
 dsimp only
 refine ⟨by omega, by omega, by omega, by omega, ?_, ?_⟩ <;> split <;> omega
theorem frozen_keep {w w1 : World} {p : Addr} {v : Value} (hb : Below w.heap.size w w1) (h : w.cell? p = some v) (hf : w.frozen? p = false) : w1.frozen? p = false := (hb.frozen (lt_of_cell h)).trans hf
theorem keep5f {w w1 : World} {a b c d e : Addr} {p q r s t : Value} (hb : Below w.heap.size w w1) (h : w.cell? a = some p /\ w.cell? b = some q /\ w.cell? c = some r /\ w.cell? d = some s /\ w.cell? e = some t /\ w.frozen? a = false /\ w.frozen? b = false /\ w.frozen? c = false /\ w.frozen? d = false /\ w.frozen? e = false) :
  w1.cell? a = some p /\ w1.cell? b = some q /\ w1.cell? c = some r /\ w1.cell? d = some s /\ w1.cell? e = some t /\ w1.frozen? a = false /\ w1.frozen? b = false /\ w1.frozen? c = false /\ w1.frozen? d = false /\ w1.frozen? e = false :=
 ⟨cell_keep hb h.1, cell_keep hb h.2.1, cell_keep hb h.2.2.1, cell_keep hb h.2.2.2.1, cell_keep hb h.2.2.2.2.1,
  frozen_keep hb h.1 h.2.2.2.2.2.1, frozen_keep hb h.2.1 h.2.2.2.2.2.2.1, frozen_keep hb h.2.2.1 h.2.2.2.2.2.2.2.1, frozen_keep hb h.2.2.2.1 h.2.2.2.2.2.2.2.2.1, frozen_keep hb h.2.2.2.2.1 h.2.2.2.2.2.2.2.2.2⟩
theorem add_any' (s o : Sums) (w : World) (hs : s.ok) (ho : o.ok) :
  Calls Tryz.prog 59 #[.agg s.cells, .agg o.cells] w fun e w' =>
   e = .returned (.agg #[.int .i64 (addF s o).atoms, .int .i64 (addF s o).bytes, .int .i64 (addF s o).breaks, .bool (addF s o).lf, .bool (addF s o).cr]) /\ Below w.heap.size w w' := add_any s o w hs ho
theorem newPart_any (enc : Int) (D : Nat -> Prop) (A : Option Addr) (n c : Nat) (tag : Int) (l : List Int) (w : World) (he : enc = 1 \/ enc = 2 \/ enc = 3 \/ enc = 4) (hl : Bts w D A n l) (hb : Byt l) (hn : n <= 1073741824) (hcap : n <= c) :
  Calls Tryz.prog 34 #[.int .i64 enc, .slice A n c, .int .i64 tag] w fun e w' => e = .returned (.agg (partC A n c tag (sumsOf (dec enc l)))) /\ Below w.heap.size w w' := by
 have hle1 : l.length <= n := Nat.le_of_eq hl.len
 have hle2 : n <= l.length := Nat.le_of_eq hl.len.symm
 obtain ⟨S, hS⟩ : ∃ S, sumsOf (dec enc l) = S := ⟨_, rfl⟩
 rw [hS]
 have HSS := Lib.hid hS
 clear hS
 go_enter Tryz.func34, Tryz.ntmps34
 go_wp2_with fail
 go_loopg [8] n (fun k q wr => PartR enc A n c tag l S w k q wr)
 case atStart =>
  refine ⟨0, zeroS, rfl, ?_, ?_, ?_, by omega, by omega, HSS.out, by decide, by decide, rfl, by decide, by decide, Lib.hid (fun h => absurd h (by omega))⟩
  ·have := Blk.new (w.alloc (.cells (partC none 0 0 0 zeroS) 94)) 94 (partC A n c tag zeroS)
   simp only [World.size_alloc] at this
   exact this
  ·exact (Blk.new w 94 (partC none 0 0 0 zeroS)).alloc _
  ·repeat (first | exact Below.refl _ _ | apply balloc)
 case round =>
  obtain ⟨p, s, rfl, hB, hR, hW, hpn, hk, hfo, s1, s2, s3, s4, s5, s6⟩ := hrel
  have HF := Lib.hid hfo
  have H3 := Lib.hid s3
  clear hfo s3
  have hl1 := Reads.below hl hW
  by_cases hlt : p < n
  ·have hz := sizeAt_bd enc (l.drop p) (by rw [List.length_drop]; omega)
   have hdc := dec_cons enc (l.drop p) (by rw [List.length_drop]; omega)
   obtain ⟨a, ha⟩ : ∃ a, atomAt enc (l.drop p) = a := ⟨_, rfl⟩
   obtain ⟨z, hzz⟩ : ∃ z : Nat, sizeAt enc (l.drop p) = (z : Int) := ⟨(sizeAt enc (l.drop p)).toNat, by omega⟩
   have hcn := cnext_any enc D A n c p l wr he hl1 hb (by omega) hcap hlt
   rw [ha, hzz] at hcn hdc
   rw [hzz, List.length_drop] at hz
   have HC := Lib.hid hcn
   have HD := Lib.hid hdc
   clear hcn hdc ha hzz
   go_wp2_with fail
   refine (HC.out).mono ?_
   rintro e w1 ⟨rfl, hb1⟩
   have hsok : s.ok := ⟨by omega, by omega, by have := H3.out; omega, by have := H3.out; omega, by omega, by omega⟩
   have hzok : (singleF a z).ok := singleF_ok a z (by omega)
   have hB1 := hB.below hb1
   have hR1 := hR.below hb1
   have hW1 := bseq hW hb1
   have c0 := hB1.cell 2
   have c1 := hB1.cell 3
   have c2 := hB1.cell 4
   have c3 := hB1.cell 5
   have c4 := hB1.cell 6
   have f0 := hB1.frozen 2
   have f1 := hB1.frozen 3
   have f2 := hB1.frozen 4
   have f3 := hB1.frozen 5
   have f4 := hB1.frozen 6
   simp [partC] at c0 c1 c2 c3 c4
   go_upto_region 5 with fail
   go_cut [] (fun wx => Blk wx (w.heap.size + 1) 94 (partC A n c tag (stepS s (a, (z : Int)))) /\ Blk wx w.heap.size 94 (partC none 0 0 0 zeroS) /\ Below w.heap.size w wx)
   case first =>
    go_region_with (first | (go_at_call 60; refine (single_any _ _ _).mono ?_; rintro e w3 ⟨rfl, hb3⟩; obtain ⟨k0, k1, k2, k3, k4, k5, k6, k7, k8, k9⟩ := keep5f (bdrew hb3) ⟨c0, c1, c2, c3, c4, f0, f1, f2, f3, f4⟩) | (go_at_call 59; refine (add_any' s (singleF a z) _ hsok hzok).mono ?_; rintro e w4 ⟨rfl, hb4⟩; obtain ⟨j0, j1, j2, j3, j4, j5, j6, j7, j8, j9⟩ := keep5f (bseq (bdrew hb3) hb4) ⟨c0, c1, c2, c3, c4, f0, f1, f2, f3, f4⟩))
    all_goals
     go_wp2_with fail
     go_meet
     have hb14 := bseq (bdrew hb3) hb4
     refine ⟨?_, ?_, ?_⟩
     ·exact (((((hB1.below hb14).set_ 2 _).set_ 3 _).set_ 4 _).set_ 5 _).set_ 6 _
     ·exact (((((hR1.below hb14).far (p := ⟨w.heap.size + 1, 2, none⟩) (by simp) _).far (p := ⟨w.heap.size + 1, 3, none⟩) (by simp) _).far (p := ⟨w.heap.size + 1, 4, none⟩) (by simp) _).far (p := ⟨w.heap.size + 1, 5, none⟩) (by simp) _).far (p := ⟨w.heap.size + 1, 6, none⟩) (by simp) _
     ·exact (((((bseq hW1 hb14).setCell (by simp) _).setCell (by simp) _).setCell (by simp) _).setCell (by simp) _).setCell (by simp) _
   case rest =>
    obtain ⟨hB2, hR2, hW2⟩ := hcut
    clear c0 c1 c2 c3 c4 f0 f1 f2 f3 f4
    go_wp2_with fail
    go_roundg (n - (p + z))
    case measure => omega
    case rel =>
     have hst := stepS_bd s a z s1 s4 (by omega) (by have := H3.out; have := s6.out; omega)
     have h3 := H3.out
     refine ⟨p + z, stepS s (a, (z : Int)), by go_num, hB2, hR2, hW2, by omega, by omega, ?_, by omega, by omega, by omega, by omega, by omega, Lib.hid (fun _ => by omega)⟩
     rw [<- HF.out, HD.out, List.drop_drop]
     rfl
  ·have hpn' : p = n := by omega
   have hfin : s = S := by
    have := HF.out
    rw [List.drop_eq_nil_of_le (by omega)] at this
    exact this
   rw [hfin] at hB
   clear hfin hpn'
   have c0 := hB.cell 0
   have c1 := hB.cell 1
   have c2 := hB.cell 2
   have c3 := hB.cell 3
   have c4 := hB.cell 4
   have c5 := hB.cell 5
   have c6 := hB.cell 6
   have r0 := hR.cell 0
   have r1 := hR.cell 1
   have r2 := hR.cell 2
   have r3 := hR.cell 3
   have r4 := hR.cell 4
   have r5 := hR.cell 5
   have r6 := hR.cell 6
   have f0 := hR.frozen 0
   have f1 := hR.frozen 1
   have f2 := hR.frozen 2
   have f3 := hR.frozen 3
   have f4 := hR.frozen 4
   have f5 := hR.frozen 5
   have f6 := hR.frozen 6
   simp [partC, zeroS] at c0 c1 c2 c3 c4 c5 c6 r0 r1 r2 r3 r4 r5 r6
   go_wp2_with fail
   refine bodyPost_ret (v := .agg (partC A n c tag S)) (by simp [results, Tryz.results34, go_sem, partC, r0, r1, r2, r3, r4, r5, r6]) rfl ⟨rfl, ?_⟩
   exact (((((((hW.setCell (by simp) _).setCell (by simp) _).setCell (by simp) _).setCell (by simp) _).setCell (by simp) _).setCell (by simp) _).setCell (by simp) _)
structure Pc where
 A : Option Addr
 n : Nat
 c : Nat
 tag : Int
 sum : Sums
 bytes : List Int
def Pc.cells (p : Pc) : Array Value := partC p.A p.n p.c p.tag p.sum
inductive Tr where
 | nil
 | node (l : Tr) (x : Pc) (r : Tr)
def Tr.size : Tr -> Int
 | .nil => 0
 | .node l _ r => l.size + 1 + r.size
def Tr.tall : Tr -> Int
 | .nil => 0
 | .node l _ r => max l.tall r.tall + 1
def Tr.sum : Tr -> Sums
 | .nil => zeroS
 | .node .nil x .nil => x.sum
 | .node .nil x (.node a b c) => addF x.sum (Tr.node a b c).sum
 | .node (.node a b c) x .nil => addF (Tr.node a b c).sum x.sum
 | .node (.node a b c) x (.node d e f) => addF (addF (Tr.node a b c).sum x.sum) (Tr.node d e f).sum
def lsum (l : Tr) (x : Pc) : Sums := match l with | .nil => x.sum | .node .. => addF l.sum x.sum
def rsum (s : Sums) (r : Tr) : Sums := match r with | .nil => s | .node .. => addF s r.sum
theorem Tr.sum_node (l : Tr) (x : Pc) (r : Tr) : (Tr.node l x r).sum = rsum (lsum l x) r := by
 cases l <;> cases r <;> simp only [lsum, rsum, Tr.sum]
def Tr.list : Tr -> List Pc
 | .nil => []
 | .node l x r => l.list ++ x :: r.list
def nodeC (al ar : Option Addr) (x : Pc) (size tall : Int) (s : Sums) : Array Value :=
 #[.pointer al, .pointer ar, .slice x.A x.n x.c, .int .i64 x.tag, .int .i64 x.sum.atoms, .int .i64 x.sum.bytes, .int .i64 x.sum.breaks, .bool x.sum.lf, .bool x.sum.cr, .int .i64 size, .int .i64 tall,
  .int .i64 s.atoms, .int .i64 s.bytes, .int .i64 s.breaks, .bool s.lf, .bool s.cr]
def NodeAt (w : World) : Tr -> Option Addr -> Prop
 | .nil, a => a = none
 | .node l x r, a => ∃ b al ar, a = some ⟨b, 0, none⟩ /\ Blk w b 134 (nodeC al ar x (Tr.node l x r).size (Tr.node l x r).tall (Tr.node l x r).sum) /\ NodeAt w l al /\ NodeAt w r ar
theorem NodeAt.below {w w' : World} (hb : Below w.heap.size w w') : ∀ (t : Tr) (a : Option Addr), NodeAt w t a -> NodeAt w' t a := by
 intro t
 induction t with
 | nil => intro a h; exact h
 | node l x r ihl ihr =>
  rintro a ⟨b, al, ar, e, h, hl, hr⟩
  exact ⟨b, al, ar, e, h.below hb, ihl al hl, ihr ar hr⟩
theorem count_any (t : Tr) (a : Option Addr) (w : World) (h : NodeAt w t a) :
  Calls Tryz.prog 75 #[.pointer a] w fun e w' => e = .returned (.int .i64 t.size) /\ w = w' := by
 cases t with
 | nil =>
  cases h
  go_enter Tryz.func75, Tryz.ntmps75
  go_wp2
  go_ret
  exact ⟨rfl, rfl⟩
 | node l x r =>
  obtain ⟨b, al, ar, rfl, hb, _, _⟩ := h
  have c0 := hb.cell 9
  simp [nodeC] at c0
  go_enter Tryz.func75, Tryz.ntmps75
  go_wp2
  go_ret
  exact ⟨rfl, rfl⟩
theorem tall_any (t : Tr) (a : Option Addr) (w : World) (h : NodeAt w t a) :
  Calls Tryz.prog 105 #[.pointer a] w fun e w' => e = .returned (.int .i64 t.tall) /\ w = w' := by
 cases t with
 | nil =>
  cases h
  go_enter Tryz.func105, Tryz.ntmps105
  go_wp2
  go_ret
  exact ⟨rfl, rfl⟩
 | node l x r =>
  obtain ⟨b, al, ar, rfl, hb, _, _⟩ := h
  have c0 := hb.cell 10
  simp [nodeC] at c0
  go_enter Tryz.func105, Tryz.ntmps105
  go_wp2
  go_ret
  exact ⟨rfl, rfl⟩
end Go.Proofs.YtflhiohjikgedaaGreatDoor
