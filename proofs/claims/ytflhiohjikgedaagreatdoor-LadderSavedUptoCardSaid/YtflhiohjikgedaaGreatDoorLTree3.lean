/-
  The walks of package tree at the pieces, second part: of. The walks of package tree at the pieces, third part: build, Of, Sum.
-/
import Derived.Test.YtflhiohjikgedaaGreatDoorLTree
set_option linter.unusedSimpArgs false
set_option linter.unusedVariables false
set_option maxRecDepth 100000
set_option maxHeartbeats 32000000
namespace Go.Proofs.YtflhiohjikgedaaGreatDoor
open Go.RowKit
theorem measure_any (A : Option Addr) (n c : Nat) (tag : Int) (s : Sums) (w : World) : Calls Tryz.prog 178 #[.agg (partC A n c tag s)] w fun e w' =>
  e = .returned (.agg #[.int .i64 s.atoms, .int .i64 s.bytes, .int .i64 s.breaks, .bool s.lf, .bool s.cr]) /\ Below w.heap.size w w' := by
 simp only [partC]
 go_enter Tryz.func178, Tryz.ntmps178
 go_wp2
 refine bodyPost_ret (v := .agg #[.int .i64 s.atoms, .int .i64 s.bytes, .int .i64 s.breaks, .bool s.lf, .bool s.cr]) (by simp [results, Tryz.results178, go_sem]) rfl ⟨rfl, ?_⟩
 repeat (first | exact Below.refl _ _ | apply balloc)
theorem me_measure (A : Option Addr) (n c : Nat) (tag : Int) (s : Sums) (w : World) : (method 373 94 (.agg (partC A n c tag s)) "Measure").run Tryz.prog w = .ok (178, .agg (partC A n c tag s)) w := by kernel_rfl
theorem me_add (s : Sums) (w : World) : (method 373 92 (.agg s.cells) "Add").run Tryz.prog w = .ok (59, .agg s.cells) w := by kernel_rfl
def OfPost (l : Tr) (x : Pc) (r : Tr) (w : World) (e : Ending) (w' : World) : Prop := ∃ a, e = .returned (.pointer a) /\ NodeAt w' (.node l x r) a /\ Below w.heap.size w w'
theorem still_of {P : Program} {f : FuncId} {args : Array Value} {w : World} {v : Value} (h : Calls P f args w fun e w' => e = .returned v /\ w = w') : Calls P f args w fun e w' => e = .returned v /\ w' = w := h.mono fun _ _ ⟨a, b⟩ => ⟨a, b.symm⟩
def Tr.small (t : Tr) : Prop := 0 <= t.size /\ t.size <= 1073741824 /\ 0 <= t.tall /\ t.tall <= 1073741824
def OfCut (al ar : Option Addr) (x : Pc) (size tall : Int) (w wx : World) (s7 : Value) : Prop :=
 s7 = .pointer (some ⟨w.heap.size + 1, 0, none⟩) /\ Blk wx w.heap.size 94 x.cells /\ Blk wx (w.heap.size + 1) 134 (nodeC al ar x size tall zeroS) /\ Below w.heap.size w wx
theorem node_facts {w : World} {b : Nat} {al ar : Option Addr} {x : Pc} {sz tl : Int} {s : Sums} (h : Blk w b 134 (nodeC al ar x sz tl s)) :
  w.cell? ⟨b, 11, none⟩ = some (.int .i64 s.atoms) /\ w.cell? ⟨b, 12, none⟩ = some (.int .i64 s.bytes) /\ w.cell? ⟨b, 13, none⟩ = some (.int .i64 s.breaks) /\ w.cell? ⟨b, 14, none⟩ = some (.bool s.lf) /\ w.cell? ⟨b, 15, none⟩ = some (.bool s.cr) /\
  w.frozen? ⟨b, 11, none⟩ = false /\ w.frozen? ⟨b, 12, none⟩ = false /\ w.frozen? ⟨b, 13, none⟩ = false /\ w.frozen? ⟨b, 14, none⟩ = false /\ w.frozen? ⟨b, 15, none⟩ = false :=
 ⟨h.cell 11, h.cell 12, h.cell 13, h.cell 14, h.cell 15, h.frozen 11, h.frozen 12, h.frozen 13, h.frozen 14, h.frozen 15⟩
theorem node_set {w : World} {b : Nat} {al ar : Option Addr} {x : Pc} {sz tl : Int} {s s' : Sums} (h : Blk w b 134 (nodeC al ar x sz tl s)) :
  Blk (((((w.setCell ⟨b, 11, none⟩ (.int .i64 s'.atoms)).setCell ⟨b, 12, none⟩ (.int .i64 s'.bytes)).setCell ⟨b, 13, none⟩ (.int .i64 s'.breaks)).setCell ⟨b, 14, none⟩ (.bool s'.lf)).setCell ⟨b, 15, none⟩ (.bool s'.cr)) b 134 (nodeC al ar x sz tl s') :=
 ((((h.set_ 11 _).set_ 12 _).set_ 13 _).set_ 14 _).set_ 15 _
theorem below_set5 {w w1 : World} {b : Nat} {u1 u2 u3 u4 u5 : Value} (h : Below w.heap.size w w1) (hb : w.heap.size <= b) :
  Below w.heap.size w (((((w1.setCell ⟨b, 11, none⟩ u1).setCell ⟨b, 12, none⟩ u2).setCell ⟨b, 13, none⟩ u3).setCell ⟨b, 14, none⟩ u4).setCell ⟨b, 15, none⟩ u5) :=
 ((((h.setCell hb _).setCell hb _).setCell hb _).setCell hb _).setCell hb _
theorem tof_any (l r : Tr) (al ar : Option Addr) (x : Pc) (w : World) (hl : NodeAt w l al) (hr : NodeAt w r ar) (bl : l.small) (br : r.small) (ox : x.sum.ok) (ol : l.sum.ok) (or : r.sum.ok) (olx : (lsum l x).ok) :
  Calls Tryz.prog 85 #[.pointer al, .agg x.cells, .pointer ar] w fun e w' => OfPost l x r w e w' := by
 obtain ⟨l1, l2, l3, l4⟩ := bl
 obtain ⟨r1, r2, r3, r4⟩ := br
 have hW : Below w.heap.size w ((w.alloc (.cells x.cells 94)).drew) := (balloc (Below.refl _ w)).drew
 have hl1 := NodeAt.below hW l al hl
 have hr1 := NodeAt.below hW r ar hr
 have k1 := still_of (count_any l al _ hl1)
 have k2 := still_of (count_any r ar _ hr1)
 have k3 := still_of (tall_any l al _ hl1)
 have k4 := still_of (tall_any r ar _ hr1)
 have es : (Tr.node l x r).size = l.size + 1 + r.size := rfl
 have et : (Tr.node l x r).tall = max l.tall r.tall + 1 := rfl
 obtain ⟨sl, hsl⟩ : ∃ n, l.size = n := ⟨_, rfl⟩
 obtain ⟨sr, hsr⟩ : ∃ n, r.size = n := ⟨_, rfl⟩
 obtain ⟨tl, htl⟩ : ∃ n, l.tall = n := ⟨_, rfl⟩
 obtain ⟨tr, htr⟩ : ∃ n, r.tall = n := ⟨_, rfl⟩
 rw [hsl] at k1 l1 l2 es
 rw [hsr] at k2 r1 r2 es
 rw [htl] at k3 l3 l4 et
 rw [htr] at k4 r3 r4 et
 have K1 := Lib.hid k1
 have K2 := Lib.hid k2
 have K3 := Lib.hid k3
 have K4 := Lib.hid k4
 have ES := Lib.hid es
 have ET := Lib.hid et
 clear k1 k2 k3 k4 hsl hsr htl htr es et
 simp only [Pc.cells, partC] at *
 go_enter Tryz.func85, Tryz.ntmps85
 go_wp2_with fail
 go_cut [7] (fun s7 wx => OfCut al ar x (sl + 1 + sr) (max tl tr + 1) w wx s7)
 case first =>
  by_cases hm : tl < tr
  all_goals
   refine wp_region_still_tail 16 (by kernel_rfl) (by kernel_rfl) ?_
   change wpStill _ _ (World.drew _) (fun a' => wpList _ _ _ _ a' (World.drew _)) _ _
   simp only [List.take_succ_cons, List.take_zero, List.drop_succ_cons, List.drop_zero]
   repeat still_step
   still_call K1.out
   repeat still_step
   still_call K2.out
   repeat still_step
   still_call K3.out
   repeat still_step
   still_call K4.out
   repeat still_step
   refine wpStill_nil ?_
   clear K1 K2 K3 K4 ES ET hl1 hr1 hl hr hW
   go_wp2_with fail
   go_meet
   first | rw [show max tl tr = tr by omega] | rw [show max tl tr = tl by omega]
   refine ⟨rfl, ((Blk.new w _ _).alloc _).drew, ?_, (balloc (balloc (Below.refl _ w))).drew⟩
   have := Blk.new (w.alloc (.cells x.cells 94)) 134
   simp only [World.size_alloc] at this
   exact (this _).drew
 case rest =>
  obtain ⟨rfl, hbox, hnode, hW1⟩ := hcut
  have b0 := hbox.cell 0
  have b1 := hbox.cell 1
  have b2 := hbox.cell 2
  have b3 := hbox.cell 3
  have b4 := hbox.cell 4
  have b5 := hbox.cell 5
  have b6 := hbox.cell 6
  simp [Pc.cells, partC] at b0 b1 b2 b3 b4 b5 b6
  have f1 := me_measure x.A x.n x.c x.tag x.sum
  simp only [partC] at f1
  go_upto_region 2 with fail
  go_cut [] (fun wx => Blk wx (w.heap.size + 1) 134 (nodeC al ar x (sl + 1 + sr) (max tl tr + 1) x.sum) /\ Below w.heap.size w wx)
  case first =>
   go_wp2_with fail
   refine (measure_any x.A x.n x.c x.tag x.sum _).mono ?_
   rintro e w3 ⟨rfl, hb3⟩
   have hnode3 := hnode.below hb3
   have hW3 := bseq hW1 hb3
   obtain ⟨n0, n1, n2, n3, n4, m0, m1, m2, m3, m4⟩ := node_facts hnode3
   simp only [zeroS] at n0 n1 n2 n3 n4
   clear b0 b1 b2 b3 b4 b5 b6 f1 K1 K2 K3 K4 hl1 hr1
   go_wp2_with fail
   go_meet
   exact ⟨node_set hnode3, below_set5 hW3 (by omega)⟩
  case rest =>
   clear b0 b1 b2 b3 b4 b5 b6 f1 K1 K2 K3 K4 hl1 hr1 hnode hbox hW1 hW
   obtain ⟨hn1, hW1⟩ := hcut
   go_upto_if 32 with fail
   go_cut [] (fun wx => Blk wx (w.heap.size + 1) 134 (nodeC al ar x (sl + 1 + sr) (max tl tr + 1) (lsum l x)) /\ Below w.heap.size w wx)
   case first =>
    have hl2 := NodeAt.below hW1 l al hl
    cases l with
    | nil =>
     cases hl
     go_wp2_with fail
     go_meet
     exact ⟨hn1, hW1⟩
    | node a b c =>
     obtain ⟨bl, al', ar', rfl, hbl, _, _⟩ := hl2
     obtain ⟨p0, p1, p2, p3, p4, _, _, _, _, _⟩ := node_facts hbl
     obtain ⟨n0, n1, n2, n3, n4, m0, m1, m2, m3, m4⟩ := node_facts hn1
     obtain ⟨s, hs⟩ : ∃ s, (Tr.node a b c).sum = s := ⟨_, rfl⟩
     have hls : lsum (.node a b c) x = addF s x.sum := by rw [<- hs]; rfl
     rw [hs] at p0 p1 p2 p3 p4 ol
     have HLS := Lib.hid hls
     have f1 := me_add s
     simp only [Sums.cells] at f1
     clear hls hs
     go_wp2_with fail
     go_region_with (first | (go_at_call 59; refine (add_any' s x.sum _ ol ox).mono ?_; rintro e w4 ⟨rfl, hb4⟩; obtain ⟨j0, j1, j2, j3, j4, j5, j6, j7, j8, j9⟩ := node_facts (hn1.below (bdrew hb4))))
     all_goals
      go_wp2_with fail
      go_meet
      refine ⟨?_, below_set5 (bseq hW1 (bdrew hb4)) (by omega)⟩
      rw [HLS.out]
      exact node_set (hn1.below (bdrew hb4))
   case rest =>
    obtain ⟨hn2, hW2⟩ := hcut
    clear hn1 hW1
    have hl2 := NodeAt.below hW2 l al hl
    have hr2 := NodeAt.below hW2 r ar hr
    obtain ⟨s1, hs1⟩ : ∃ s, lsum l x = s := ⟨_, rfl⟩
    rw [hs1] at olx hn2
    have HS1 := Lib.hid hs1
    clear hs1
    cases r with
    | nil =>
     cases hr
     go_wp2_with fail
     go_ret
     refine ⟨_, rfl, ⟨_, _, _, rfl, ?_, hl2, rfl⟩, hW2⟩
     rw [ES.out, ET.out, Tr.sum_node, HS1.out]
     exact hn2
    | node a b c =>
     have hrr := hr2
     obtain ⟨br, al', ar', rfl, hbr, _, _⟩ := hr2
     obtain ⟨p0, p1, p2, p3, p4, _, _, _, _, _⟩ := node_facts hbr
     obtain ⟨n0, n1, n2, n3, n4, m0, m1, m2, m3, m4⟩ := node_facts hn2
     have hfs : (Tr.node l x (.node a b c)).sum = addF s1 (Tr.node a b c).sum := by rw [Tr.sum_node, HS1.out]; rfl
     obtain ⟨s, hs⟩ : ∃ s, (Tr.node a b c).sum = s := ⟨_, rfl⟩
     rw [hs] at p0 p1 p2 p3 p4 or hfs
     have HFS := Lib.hid hfs
     have f1 := me_add s1
     simp only [Sums.cells] at f1
     clear hfs hs
     go_wp2_with fail
     go_region_with (first | (go_at_call 59; refine (add_any' s1 s _ olx or).mono ?_; rintro e w4 ⟨rfl, hb4⟩; obtain ⟨j0, j1, j2, j3, j4, j5, j6, j7, j8, j9⟩ := node_facts (hn2.below (bdrew hb4))))
     all_goals
      go_wp2_with fail
      go_ret
      refine ⟨_, rfl, ⟨_, al, some ⟨br, 0, none⟩, rfl, ?_, ?_, ?_⟩, below_set5 (bseq hW2 (bdrew hb4)) (by omega)⟩
      ·rw [ES.out, ET.out, HFS.out]
       exact node_set (hn2.below (bdrew hb4))
      ·exact NodeAt.below (below_set5 (bseq hW2 (bdrew hb4)) (by omega)) l al hl
      ·exact NodeAt.below (below_set5 (bseq hW2 (bdrew hb4)) (by omega)) _ _ hr
theorem Reads.form {w : World} {D : Nat -> Prop} {size n : Nat} {A : Option Addr} {xs : List Value} (h : Reads w D size A n xs) (hn : 0 < n) (hs : 0 < size) :
  ∃ b off, A = some ⟨b, off, none⟩ /\ D b /\ ∀ j u, xs[j]? = some u -> w.cell? ⟨b, off + j, none⟩ = some u := by
 obtain ⟨ad, rfl, hd, hc⟩ := h.2 hn
 have hl : 0 < xs.length := by rw [h.1]; exact Nat.mul_pos hn hs
 have h0 := hc 0 _ (List.getElem?_eq_getElem hl)
 rw [add_zero] at h0
 obtain ⟨b, off, sp⟩ := ad
 cases sp with
 | some q => simp [World.cell?] at h0; split at h0 <;> cases h0
 | none =>
  refine ⟨b, off, rfl, hd, fun j u hu => ?_⟩
  have := hc j u hu
  unfold Addr.add at this
  split at this
  ·rename_i hj; subst hj; exact this
  ·exact this
def Parts (w : World) (D : Nat -> Prop) (A : Option Addr) (n : Nat) (ps : List Pc) : Prop := Reads w D 7 A n (ps.flatMap fun p => p.cells.toList)
theorem flat7 (ps : List Pc) : (ps.flatMap fun p => p.cells.toList).length = ps.length * 7 := by
 induction ps with
 | nil => rfl
 | cons p ps ih => rw [List.flatMap_cons, List.length_append, ih]; simp [Pc.cells, partC]; omega
theorem flat7_drop (ps : List Pc) (k : Nat) : (ps.flatMap fun p => p.cells.toList).drop (k * 7) = (ps.drop k).flatMap fun p => p.cells.toList := by
 induction ps generalizing k with
 | nil => simp
 | cons p ps ih =>
  cases k with
  | zero => simp
  | succ k =>
   rw [List.flatMap_cons, List.drop_append, List.drop_succ_cons, <- ih]
   have : (p.cells.toList).length = 7 := rfl
   rw [List.drop_eq_nil_of_le (by omega), List.nil_append]
   congr 1
   omega
theorem flat7_take (ps : List Pc) (k : Nat) : (ps.flatMap fun p => p.cells.toList).take (k * 7) = (ps.take k).flatMap fun p => p.cells.toList := by
 induction ps generalizing k with
 | nil => simp
 | cons p ps ih =>
  cases k with
  | zero => simp
  | succ k =>
   rw [List.flatMap_cons, List.take_append, List.take_succ_cons, List.flatMap_cons, <- ih]
   have : (p.cells.toList).length = 7 := rfl
   rw [List.take_of_length_le (by omega)]
   congr 2
   omega
theorem Parts.len {w : World} {D : Nat -> Prop} {A : Option Addr} {n : Nat} {ps : List Pc} (h : Parts w D A n ps) : ps.length = n := by
 have := h.1
 rw [flat7] at this
 omega
theorem Parts.at_ {w : World} {b off k : Nat} {ps : List Pc} (h : ∀ j u, (ps.flatMap fun p => p.cells.toList)[j]? = some u -> w.cell? ⟨b, off + j, none⟩ = some u) (p : Pc) (hk : ps[k]? = some p) :
  ∀ j u, p.cells.toList[j]? = some u -> w.cell? ⟨b, off + (k * 7 + j), none⟩ = some u := by
 intro j u hu
 apply h
 rw [<- List.getElem?_drop, flat7_drop]
 have hlt : k < ps.length := by
  rcases Nat.lt_or_ge k ps.length with h | h
  ·exact h
  ·rw [List.getElem?_eq_none h] at hk; cases hk
 rw [List.drop_eq_getElem_cons hlt]
 rw [List.getElem?_eq_getElem hlt] at hk
 injection hk with hk
 rw [hk, List.flatMap_cons, List.getElem?_append_left]
 ·exact hu
 ·rcases Nat.lt_or_ge j p.cells.toList.length with h | h
  ·exact h
  ·rw [List.getElem?_eq_none h] at hu; cases hu
def Sums.good (s : Sums) : Prop := 0 <= s.breaks /\ s.breaks <= s.atoms /\ s.atoms <= s.bytes /\ (s.atoms = 0 -> s = zeroS) /\ (s.lf = true -> 1 <= s.breaks) /\ (s.cr = true -> 1 <= s.breaks)
theorem zeroS_good : zeroS.good := ⟨by decide, by decide, by decide, fun _ => rfl, (fun h => by cases h), (fun h => by cases h)⟩
theorem Sums.good.ok {s : Sums} (h : s.good) (hb : s.bytes <= 2147483648) : s.ok := by
 obtain ⟨h1, h2, h3, _, _, _⟩ := h
 exact ⟨by omega, by omega, by omega, hb, h1, by omega⟩
theorem addF_good {s o : Sums} (hs : s.good) (ho : o.good) : (addF s o).good /\ (addF s o).atoms = s.atoms + o.atoms /\ (addF s o).bytes = s.bytes + o.bytes := by
 obtain ⟨s1, s2, s3, s4, s5, s6⟩ := hs
 have ho' := ho
 obtain ⟨o1, o2, o3, o4, o5, o6⟩ := ho
 by_cases h1 : s.atoms = 0
 ·have e := s4 h1
  have e2 : addF s o = o := by unfold addF; rw [if_pos h1]
  rw [e2, e]
  exact ⟨ho', by simp [zeroS], by simp [zeroS]⟩
 ·by_cases h2 : o.atoms = 0
  ·have e := o4 h2
   have e2 : addF s o = s := by unfold addF; rw [if_neg h1, if_pos h2]
   rw [e2, e]
   exact ⟨⟨s1, s2, s3, s4, s5, s6⟩, by simp [zeroS], by simp [zeroS]⟩
  ·have e2 : addF s o = { atoms := s.atoms + o.atoms, bytes := s.bytes + o.bytes, breaks := if (s.cr && o.lf) = true then s.breaks + o.breaks - 1 else s.breaks + o.breaks, lf := s.lf, cr := o.cr } := by
    unfold addF; rw [if_neg h1, if_neg h2]
   rw [e2]
   refine ⟨⟨?_, ?_, ?_, fun h => ?_, fun h => ?_, fun h => ?_⟩, rfl, rfl⟩
   ·dsimp only
    split
    ·rename_i hc; simp only [Bool.and_eq_true] at hc; have := s6 hc.1; omega
    ·omega
   ·dsimp only
    split <;> omega
   ·dsimp only; omega
   ·dsimp only at h; exfalso; omega
   ·dsimp only at h ⊢
    have := s5 h
    split
    ·rename_i hc; simp only [Bool.and_eq_true] at hc; have := o5 hc.2; omega
    ·omega
   ·dsimp only at h ⊢
    have := o6 h
    split
    ·rename_i hc; simp only [Bool.and_eq_true] at hc; have := s6 hc.1; omega
    ·omega
theorem singleF_good (a z : Int) (hz : 1 <= z) : (singleF a z).good := by
 unfold Sums.good singleF
 dsimp only
 refine ⟨by split <;> omega, by split <;> omega, by omega, fun h => by omega, fun h => ?_, fun h => ?_⟩
 ·rw [beq_iff_eq] at h; rw [if_pos (.inl h)]; exact Int.le_refl _
 ·rw [beq_iff_eq] at h; rw [if_pos (.inr h)]; exact Int.le_refl _
theorem foldl_good (ds : List (Int × Int)) (hd : ∀ d ∈ ds, 1 <= d.2) : ∀ s : Sums, s.good -> (ds.foldl stepS s).good /\ (ds.foldl stepS s).atoms = s.atoms + ds.length /\ (ds.foldl stepS s).bytes = s.bytes + (ds.map Prod.snd).sum := by
 induction ds with
 | nil => intro s h; exact ⟨h, by simp, by simp⟩
 | cons d ds ih =>
  intro s h
  have h1 := addF_good h (singleF_good d.1 d.2 (hd d List.mem_cons_self))
  obtain ⟨g, ga, gb⟩ := ih (fun d' h' => hd d' (List.mem_cons_of_mem _ h')) (stepS s d) h1.1
  refine ⟨g, ?_, ?_⟩
  ·rw [List.foldl_cons, ga]
   have : (stepS s d).atoms = s.atoms + 1 := h1.2.1
   rw [this, List.length_cons]
   omega
  ·rw [List.foldl_cons, gb]
   have : (stepS s d).bytes = s.bytes + d.2 := h1.2.2
   rw [this, List.map_cons, List.sum_cons]
   omega
theorem decF_size (enc : Int) : ∀ (f : Nat) (l : List Int), l.length <= f -> (∀ d ∈ decF enc f l, 1 <= d.2) /\ ((decF enc f l).map Prod.snd).sum = l.length := by
 intro f
 induction f with
 | zero => intro l h; simp [decF]; omega
 | succ f ih =>
  intro l h
  simp only [decF]
  split
  ·rename_i h0; simp [h0]
  ·have hb := sizeAt_bd enc l (by omega)
   obtain ⟨h1, h2⟩ := ih (l.drop (sizeAt enc l).toNat) (by rw [List.length_drop]; omega)
   refine ⟨fun d hd => ?_, ?_⟩
   ·rcases List.mem_cons.1 hd with rfl | hd
    ·exact hb.1
    ·exact h1 d hd
   ·rw [List.map_cons, List.sum_cons, h2, List.length_drop]
    dsimp only
    omega
def totB (ps : List Pc) : Int := (ps.map fun p => p.sum.bytes).sum
theorem totB_app (a b : List Pc) : totB (a ++ b) = totB a + totB b := by unfold totB; rw [List.map_append, List.sum_append]
theorem totB_cons (a : Pc) (b : List Pc) : totB (a :: b) = a.sum.bytes + totB b := by unfold totB; rw [List.map_cons, List.sum_cons]
def AllGood (ps : List Pc) : Prop := ∀ p ∈ ps, p.sum.good
theorem totB_nonneg {ps : List Pc} (h : AllGood ps) : 0 <= totB ps := by
 induction ps with
 | nil => exact Int.le_refl _
 | cons p ps ih =>
  have h1 := h p List.mem_cons_self
  have := ih (fun q hq => h q (List.mem_cons_of_mem _ hq))
  rw [totB_cons]
  obtain ⟨a, b, c, _⟩ := h1
  omega
theorem Tr.sum_good : ∀ t : Tr, AllGood t.list -> t.sum.good /\ t.sum.bytes = totB t.list
 | .nil, _ => ⟨zeroS_good, rfl⟩
 | .node l x r, h => by
  have hl := Tr.sum_good l (fun p hp => h p (by simp [Tr.list, hp]))
  have hr := Tr.sum_good r (fun p hp => h p (by simp [Tr.list, hp]))
  have hx : x.sum.good := h x (by simp [Tr.list])
  have h1 : (lsum l x).good /\ (lsum l x).bytes = totB l.list + x.sum.bytes := by
   cases l with
   | nil => exact ⟨hx, by simp [lsum, Tr.list, totB]⟩
   | node a b c =>
    have := addF_good hl.1 hx
    exact ⟨this.1, by show (addF _ _).bytes = _; rw [this.2.2, hl.2]⟩
  rw [Tr.sum_node, Tr.list, totB_app, totB_cons]
  cases r with
  | nil => exact ⟨h1.1, by rw [show rsum (lsum l x) Tr.nil = lsum l x from rfl, h1.2]; simp [Tr.list, totB]⟩
  | node a b c =>
   have := addF_good h1.1 hr.1
   refine ⟨this.1, ?_⟩
   show (addF _ _).bytes = _
   rw [this.2.2, h1.2, hr.2]
   omega
theorem lsum_good (l : Tr) (x : Pc) (hl : AllGood l.list) (hx : x.sum.good) : (lsum l x).good /\ (lsum l x).bytes = totB l.list + x.sum.bytes := by
 have h1 := Tr.sum_good l hl
 cases l with
 | nil => exact ⟨hx, by simp [lsum, Tr.list, totB]⟩
 | node a b c =>
  have := addF_good h1.1 hx
  exact ⟨this.1, by show (addF _ _).bytes = _; rw [this.2.2, h1.2]⟩
theorem Tr.size_list : ∀ t : Tr, t.size = t.list.length
 | .nil => rfl
 | .node l x r => by simp only [Tr.size, Tr.list, List.length_append, List.length_cons, Tr.size_list l, Tr.size_list r]; omega
theorem Tr.tall_le : ∀ t : Tr, 0 <= t.tall /\ t.tall <= t.size
 | .nil => by simp [Tr.tall, Tr.size]
 | .node l x r => by
  have h1 := Tr.tall_le l
  have h2 := Tr.tall_le r
  have h3 := Tr.size_list l
  have h4 := Tr.size_list r
  simp only [Tr.tall, Tr.size]
  omega
theorem Tr.small_of {t : Tr} (h : t.list.length <= 1073741824) : t.small := by
 have h1 := Tr.size_list t
 have h2 := Tr.tall_le t
 exact ⟨by omega, by omega, h2.1, by omega⟩
def btF : Nat -> List Pc -> Tr
 | 0, _ => .nil
 | f + 1, ps => match ps[ps.length / 2]? with
  | none => .nil
  | some x => .node (btF f (ps.take (ps.length / 2))) x (btF f (ps.drop (ps.length / 2 + 1)))
theorem btF_list : ∀ (f : Nat) (ps : List Pc), ps.length <= f -> (btF f ps).list = ps := by
 intro f
 induction f with
 | zero =>
  intro ps h
  have e : ps = [] := List.eq_nil_of_length_eq_zero (by omega)
  subst e
  rfl
 | succ f ih =>
  intro ps h
  simp only [btF]
  cases hx : ps[ps.length / 2]? with
  | none =>
   have : ps = [] := by
    cases ps with
    | nil => rfl
    | cons p ps => rw [List.getElem?_eq_none_iff] at hx; simp only [List.length_cons] at hx; omega
   rw [this]; rfl
  | some x =>
   have hlt : ps.length / 2 < ps.length := by
    rcases Nat.lt_or_ge (ps.length / 2) ps.length with h | h
    ·exact h
    ·rw [List.getElem?_eq_none h] at hx; cases hx
   simp only [Tr.list]
   rw [ih _ (by rw [List.length_take]; omega), ih _ (by rw [List.length_drop]; omega)]
   rw [List.getElem?_eq_getElem hlt] at hx
   injection hx with hx
   rw [<- hx]
   rw [<- List.drop_eq_getElem_cons hlt, List.take_append_drop]
def ItemAt (w : World) (b off : Nat) (x : Pc) : Prop :=
 w.cell? ⟨b, off, none⟩ = some (.slice x.A x.n x.c) /\ w.cell? ⟨b, off + 1, none⟩ = some (.int .i64 x.tag) /\ w.cell? ⟨b, off + 2, none⟩ = some (.int .i64 x.sum.atoms) /\ w.cell? ⟨b, off + 3, none⟩ = some (.int .i64 x.sum.bytes) /\
 w.cell? ⟨b, off + 4, none⟩ = some (.int .i64 x.sum.breaks) /\ w.cell? ⟨b, off + 5, none⟩ = some (.bool x.sum.lf) /\ w.cell? ⟨b, off + 6, none⟩ = some (.bool x.sum.cr)
theorem ItemAt.out {w : World} {b off : Nat} {x : Pc} (h : ItemAt w b off x) :
  w.cell? ⟨b, off, none⟩ = some (.slice x.A x.n x.c) /\ w.cell? ⟨b, off + 1, none⟩ = some (.int .i64 x.tag) /\ w.cell? ⟨b, off + 2, none⟩ = some (.int .i64 x.sum.atoms) /\ w.cell? ⟨b, off + 3, none⟩ = some (.int .i64 x.sum.bytes) /\
  w.cell? ⟨b, off + 4, none⟩ = some (.int .i64 x.sum.breaks) /\ w.cell? ⟨b, off + 5, none⟩ = some (.bool x.sum.lf) /\ w.cell? ⟨b, off + 6, none⟩ = some (.bool x.sum.cr) := h
theorem ItemAt.below {w w' : World} {b off : Nat} {x : Pc} (h : ItemAt w b off x) (hb : Below w.heap.size w w') : ItemAt w' b off x :=
 ⟨cell_keep hb h.1, cell_keep hb h.2.1, cell_keep hb h.2.2.1, cell_keep hb h.2.2.2.1, cell_keep hb h.2.2.2.2.1, cell_keep hb h.2.2.2.2.2.1, cell_keep hb h.2.2.2.2.2.2⟩
def BuildPost (t : Tr) (w : World) (e : Ending) (w' : World) : Prop := ∃ a, e = .returned (.pointer a) /\ NodeAt w' t a /\ Below w.heap.size w w'
theorem Parts.below {w w' : World} {D : Nat -> Prop} {A : Option Addr} {n : Nat} {ps : List Pc} (h : Parts w D A n ps) (hb : Below w.heap.size w w') : Parts w' D A n ps := Reads.below h hb
theorem totB_take {ps : List Pc} (h : AllGood ps) (k : Nat) : totB (ps.take k) <= totB ps := by
 have e := totB_app (ps.take k) (ps.drop k)
 rw [List.take_append_drop] at e
 have := totB_nonneg (ps := ps.drop k) (fun p hp => h p (List.mem_of_mem_drop hp))
 omega
theorem build_any : ∀ (f : Nat) (D : Nat -> Prop) (A : Option Addr) (n c : Nat) (ps : List Pc) (w : World), n <= f -> Parts w D A n ps -> AllGood ps -> totB ps <= 2147483648 -> n <= 1073741824 -> n <= c ->
    Calls Tryz.prog 61 #[.slice A n c] w fun e w' => BuildPost (btF f ps) w e w' := by
  intro f
  induction f with
  | zero =>
    intro D A n c ps w hf hp hg hB hn hc
    have e0 : n = 0 := by omega
    subst e0
    go_enter Tryz.func61, Tryz.ntmps61
    go_wp2_with fail
    go_ret
    exact ⟨none, rfl, rfl, Below.refl _ _⟩
  | succ f ih =>
    intro D A n c ps w hf hp hg hB hn hc
    have hlen := hp.len
    by_cases e0 : n = 0
    · subst e0
      have e : ps = [] := List.eq_nil_of_length_eq_zero hlen
      subst e
      go_enter Tryz.func61, Tryz.ntmps61
      go_wp2_with fail
      go_ret
      exact ⟨none, rfl, rfl, Below.refl _ _⟩
    · obtain ⟨b, off, rfl, hD, hc0⟩ := Reads.form hp (by omega) (by omega)
      have hk : n / 2 < ps.length := by omega
      obtain ⟨x, hx⟩ : ∃ x, ps[n / 2]? = some x := ⟨_, List.getElem?_eq_getElem hk⟩
      have hxc := Parts.at_ hc0 x hx
      have HI := Lib.hid ih
      have HX := Lib.hid hx
      have HL := Lib.hid hlen
      clear ih hx hlen hc0
      obtain ⟨k, hkk⟩ : ∃ k, n / 2 = k := ⟨_, rfl⟩
      have q0 : ((n : Int) == 0) = false := by rw [beq_eq_false_iff_ne]; omega
      have q1 : (n : Int) / 2 = (k : Int) := by omega
      go_enter Tryz.func61, Tryz.ntmps61
      go_wp2_with fail
      rw [hkk] at hxc HX
      have hxs : ItemAt w b (off + k * 7) x := ⟨hxc 0 _ rfl, by rw [Nat.add_assoc]; exact hxc 1 _ rfl, by rw [Nat.add_assoc]; exact hxc 2 _ rfl, by rw [Nat.add_assoc]; exact hxc 3 _ rfl, by rw [Nat.add_assoc]; exact hxc 4 _ rfl, by rw [Nat.add_assoc]; exact hxc 5 _ rfl, by rw [Nat.add_assoc]; exact hxc 6 _ rfl⟩
      clear hxc
      obtain ⟨x0, x1, x2, x3, x4, x5, x6⟩ := hxs.out
      have q2 : (0 : Int) <= (k : Int) := by omega
      have q3 : (k : Int) < (n : Int) := by omega
      have q4 : (k : Int) <= (c : Int) := by omega
      have q5 : (0 : Int) <= (k : Int) + 1 := by omega
      have q6 : (k : Int) + 1 <= (n : Int) := by omega
      have q7 : (k : Int) + 1 <= (c : Int) := by omega
      have q8 : ((k : Int) + 1).toNat = k + 1 := by omega
      have q9 : IntKind.i64.wrap ((k : Int) + 1) = (k : Int) + 1 := IntWalk.i64_in _ (by omega)
      have hgl : AllGood (ps.take k) := fun p h => hg p (List.mem_of_mem_take h)
      have hgr : AllGood (ps.drop (k + 1)) := fun p h => hg p (List.mem_of_mem_drop h)
      have hgx : x.sum.good := hg x (List.mem_of_getElem? HX.out)
      have hsplit : totB ps = totB (ps.take k) + (x.sum.bytes + totB (ps.drop (k + 1))) := by
        rw [<- totB_cons, <- totB_app]
        congr 1
        have hlt : k < ps.length := by have := HL.out; omega
        have := HX.out
        rw [List.getElem?_eq_getElem hlt] at this
        injection this with this
        rw [<- this, <- List.drop_eq_getElem_cons hlt, List.take_append_drop]
      have hll : (ps.take k).length <= k := List.length_take_le _ _
      have hlr : (ps.drop (k + 1)).length <= n - (k + 1) := by rw [List.length_drop]; have := HL.out; omega
      have hbl0 := totB_nonneg hgl
      have hbr0 := totB_nonneg hgr
      have hbx0 : 0 <= x.sum.bytes := by obtain ⟨a, b, c, _⟩ := hgx; omega
      have hpl : Parts w D (some ⟨b, off, none⟩) k (ps.take k) := by
        have := Reads.take hp (show k <= n by omega)
        rw [flat7_take] at this
        exact this
      have hleft : ∀ w2, Below w.heap.size w w2 -> Calls Tryz.prog 61 #[.slice (some ⟨b, off, none⟩) k c] w2 fun e w' => BuildPost (btF f (ps.take k)) w2 e w' :=
        fun w2 h2 => HI.out D _ k c (ps.take k) w2 (by omega) (hpl.below h2) hgl (by omega) (by omega) (by omega)
      have hfl : (btF f (ps.take k)).list = ps.take k := btF_list f _ (by omega)
      have hfr : (btF f (ps.drop (k + 1))).list = ps.drop (k + 1) := btF_list f _ (by omega)
      have gl := Tr.sum_good (btF f (ps.take k)) (by rw [hfl]; exact hgl)
      have gr := Tr.sum_good (btF f (ps.drop (k + 1))) (by rw [hfr]; exact hgr)
      have glx := lsum_good (btF f (ps.take k)) x (by rw [hfl]; exact hgl) hgx
      rw [hfl] at gl glx
      rw [hfr] at gr
      have hof : ∀ (al ar : Option Addr) (w2 : World), NodeAt w2 (btF f (ps.take k)) al -> NodeAt w2 (btF f (ps.drop (k + 1))) ar ->
          Calls Tryz.prog 85 #[.pointer al, .agg #[.slice x.A x.n x.c, .int .i64 x.tag, .int .i64 x.sum.atoms, .int .i64 x.sum.bytes, .int .i64 x.sum.breaks, .bool x.sum.lf, .bool x.sum.cr], .pointer ar] w2 fun e w' =>
            OfPost (btF f (ps.take k)) x (btF f (ps.drop (k + 1))) w2 e w' :=
        fun al ar w2 h1 h2 => tof_any _ _ al ar x w2 h1 h2 (Tr.small_of (by rw [hfl]; omega)) (Tr.small_of (by rw [hfr]; omega)) (hgx.ok (by omega)) (gl.1.ok (by omega)) (gr.1.ok (by omega)) (glx.1.ok (by omega))
      have hbt : btF (f + 1) ps = .node (btF f (ps.take k)) x (btF f (ps.drop (k + 1))) := by
        simp only [btF]
        rw [HL.out, hkk, HX.out]
      have HBT := Lib.hid hbt
      have HLF := Lib.hid hleft
      have HOF := Lib.hid hof
      have HSP := Lib.hid hsplit
      clear hleft hof hbt hsplit hfl hfr gl gr glx hgx hkk q1
      by_cases hck : c = k + 1
      · subst hck
        have hright : ∀ w2, Below w.heap.size w w2 -> Calls Tryz.prog 61 #[.slice (some ⟨b, off, none⟩) 0 0] w2 fun e w' => BuildPost (btF f (ps.drop (k + 1))) w2 e w' := by
          intro w2 h2
          have e2 : ps.drop (k + 1) = [] := List.eq_nil_of_length_eq_zero (by omega)
          rw [e2]
          exact HI.out D _ 0 0 [] w2 (by omega) Reads.none_ (fun p h => by cases h) (by simp [totB]) (by omega) (by omega)
        have HRT := Lib.hid hright
        clear hright
        go_region_with (first | (go_at_call 85; refine (HOF.out _ _ _ (NodeAt.below hb2 _ _ hn1) hn2).mono ?_; rintro e w3 ⟨a3, rfl, hn3, hb3⟩) | (go_at_call 61; (with_reducible refine (HLF.out _ (Below.drew (Below.refl _ _))).mono ?_); rintro e w1 ⟨a1, rfl, hn1, hb1⟩; obtain ⟨y0, y1, y2, y3, y4, y5, y6⟩ := (hxs.below (bdrew hb1)).out) | (go_at_call 61; (with_reducible refine (HRT.out _ (bdrew hb1)).mono ?_); rintro e w2 ⟨a2, rfl, hn2, hb2⟩; obtain ⟨z0, z1, z2, z3, z4, z5, z6⟩ := (hxs.below (bseq (bdrew hb1) hb2)).out))
        all_goals
          go_wp2_with fail
          go_ret
          refine ⟨a3, rfl, ?_, bseq (bseq (bdrew hb1) hb2) hb3⟩
          rw [HBT.out]
          exact hn3
      · have hpr : Parts w D (some ⟨b, off + (k + 1) * 7, none⟩) (n - (k + 1)) (ps.drop (k + 1)) := by
          have := Reads.cut hp (show k + 1 <= n by omega) hc
          rw [if_neg hck, flat7_drop] at this
          rw [show (⟨b, off + (k + 1) * 7, none⟩ : Addr) = (⟨b, off, none⟩ : Addr).add ((k + 1) * 7) by unfold Addr.add; rw [if_neg (by omega)]]
          exact this
        have hright : ∀ w2, Below w.heap.size w w2 -> Calls Tryz.prog 61 #[.slice (some ⟨b, off + (k + 1) * 7, none⟩) (n - (k + 1)) (c - (k + 1))] w2 fun e w' => BuildPost (btF f (ps.drop (k + 1))) w2 e w' :=
          fun w2 h2 => HI.out D _ _ _ (ps.drop (k + 1)) w2 (by omega) (hpr.below h2) hgr (by have := HSP.out; omega) (by omega) (by omega)
        have HRT := Lib.hid hright
        clear hright
        go_region_with (first | (go_at_call 85; refine (HOF.out _ _ _ (NodeAt.below hb2 _ _ hn1) hn2).mono ?_; rintro e w3 ⟨a3, rfl, hn3, hb3⟩) | (go_at_call 61; (with_reducible refine (HLF.out _ (Below.drew (Below.refl _ _))).mono ?_); rintro e w1 ⟨a1, rfl, hn1, hb1⟩; obtain ⟨y0, y1, y2, y3, y4, y5, y6⟩ := (hxs.below (bdrew hb1)).out) | (go_at_call 61; (with_reducible refine (HRT.out _ (bdrew hb1)).mono ?_); rintro e w2 ⟨a2, rfl, hn2, hb2⟩; obtain ⟨z0, z1, z2, z3, z4, z5, z6⟩ := (hxs.below (bseq (bdrew hb1) hb2)).out))
        all_goals
          go_wp2_with fail
          go_ret
          refine ⟨a3, rfl, ?_, bseq (bseq (bdrew hb1) hb2) hb3⟩
          rw [HBT.out]
          exact hn3
theorem NodeAt.keepBut {T : TypeId} {w w' : World} (hk : KeepBut T w w') (hT : T ≠ 134) : ∀ (t : Tr) (a : Option Addr), NodeAt w t a -> NodeAt w' t a := by
 intro t
 induction t with
 | nil => intro a h; exact h
 | node l x r ihl ihr =>
  rintro a ⟨b, al, ar, e, h, hl, hr⟩
  exact ⟨b, al, ar, e, hk b _ h (fun cs f e => hT (by injection e with _ e; exact e.symm)), ihl al hl, ihr ar hr⟩
def OfTree (ps : List Pc) (w : World) (e : Ending) (w' : World) : Prop := ∃ a, e = .returned (.agg #[.pointer a]) /\ NodeAt w' (btF ps.length ps) a /\ Below w.heap.size w w'
theorem treeOf_any (D : Nat -> Prop) (A : Option Addr) (n c : Nat) (ps : List Pc) (w : World) (hp : Parts w D A n ps) (hg : AllGood ps) (hB : totB ps <= 2147483648) (hn : n <= 1073741824) (hc : n <= c) :
  Calls Tryz.prog 35 #[.slice A n c] w fun e w' => OfTree ps w e w' := by
 have hlen := hp.len
 have hW : Below w.heap.size w (w.alloc (.cells #[.pointer none] 86)) := balloc (Below.refl _ w)
 have hbu := build_any ps.length D A n c ps _ (by omega) (hp.below hW) hg hB hn hc
 have HB := Lib.hid hbu
 clear hbu hlen
 go_enter Tryz.func35, Tryz.ntmps35
 go_wp2_with fail
 refine (HB.out).mono ?_
 rintro e w1 ⟨a, rfl, hn1, hb1⟩
 have hbk : Blk w1 w.heap.size 86 #[.pointer none] := (Blk.new w _ _).below hb1
 have c0 := hbk.cell 0
 have f0 := hbk.frozen 0
 simp at c0
 go_wp2_with fail
 refine bodyPost_ret (v := .agg #[.pointer a]) (by simp [results, Tryz.results35, go_sem, c0]) rfl ⟨a, rfl, ?_, ?_⟩
 ·exact NodeAt.keepBut (KeepBut.of_fr ((Fr.refl _ _).set1 0 _) hbk) (by decide) _ _ hn1
 ·exact (hW.trans (hb1.mono (by simp))).setCell (Nat.le_refl _) _
end Go.Proofs.YtflhiohjikgedaaGreatDoor
