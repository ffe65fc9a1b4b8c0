/-
  The walks of package tree at the pieces: first, both, Replace.
-/
import Derived.Test.YtflhiohjikgedaaGreatDoorLGrow2
import Derived.Test.YtflhiohjikgedaaGreatDoorLCut
set_option linter.unusedSimpArgs false
set_option linter.unusedVariables false
set_option maxRecDepth 100000
set_option maxHeartbeats 32000000
namespace Go.Proofs.YtflhiohjikgedaaGreatDoor
open Go.RowKit
def FirstPost (ls : List Pc) (w : World) (e : Ending) (w' : World) : Prop := ∃ x t a, e = .returned (.tuple #[.agg x.cells, .pointer a]) /\ NodeAt w' t a /\ ls = x :: t.list /\ Below w.heap.size w w'
def BoxS (w : World) (g : Nat) (cs : Array Value) (w' : World) : Prop := Below w.heap.size w w' /\ Blk w' g 94 cs
theorem setP_fr (w : World) (b : Nat) (A : Option Addr) (n c : Nat) (tag : Int) (s : Sums) : Fr (· = b) w (setP w b A n c tag s) :=
 (((((((Fr.refl _ w).set1 0 _).set1 1 _).set1 2 _).set1 3 _).set1 4 _).set1 5 _).set1 6 _
theorem setP_node {w : World} {b : Nat} {A : Option Addr} {n c : Nat} {tag : Int} {s : Sums} {cs : Array Value} (hk : Blk w b 94 cs) {t : Tr} {a : Option Addr} (h : NodeAt w t a) : NodeAt (setP w b A n c tag s) t a :=
 NodeAt.keepBut (KeepBut.of_fr (setP_fr w b A n c tag s) hk) (by decide) t a h
theorem part_facts' {w : World} {b : Nat} (h : Blk w b 94 (partC none 0 0 0 zeroS)) :
  (w.cell? ⟨b, 0, none⟩ = some (.slice none 0 0) /\ w.cell? ⟨b, 1, none⟩ = some (.int .i64 0) /\ w.cell? ⟨b, 2, none⟩ = some (.int .i64 0) /\ w.cell? ⟨b, 3, none⟩ = some (.int .i64 0) /\ w.cell? ⟨b, 4, none⟩ = some (.int .i64 0) /\ w.cell? ⟨b, 5, none⟩ = some (.bool false) /\ w.cell? ⟨b, 6, none⟩ = some (.bool false)) /\
  w.frozen? ⟨b, 0, none⟩ = false /\ w.frozen? ⟨b, 1, none⟩ = false /\ w.frozen? ⟨b, 2, none⟩ = false /\ w.frozen? ⟨b, 3, none⟩ = false /\ w.frozen? ⟨b, 4, none⟩ = false /\ w.frozen? ⟨b, 5, none⟩ = false /\ w.frozen? ⟨b, 6, none⟩ = false := part_facts h
theorem first_tree : ∀ (t : Tr) (a : Option Addr) (w : World), NodeAt w t a -> LstOk t.list -> t ≠ .nil ->
  Calls Tryz.prog 107 #[.pointer a] w fun e w' => FirstPost t.list w e w' := by
 intro t
 induction t with
 | nil => intro a w _ _ h; exact absurd rfl h
 | node l x r ihl ihr =>
  intro a w hnode h _
  obtain ⟨b, al, ar, rfl, hblk, hnl, hnr⟩ := hnode
  have fn := fun (w' : World) (hb : Below w.heap.size w w') => NodeC.of hblk hb
  have hW : Below w.heap.size w (w.alloc (.cells (partC none 0 0 0 zeroS) 94)) := balloc (Below.refl _ w)
  have hk0 := Blk.new w 94 (partC none 0 0 0 zeroS)
  have hlist : (Tr.node l x r).list = l.list ++ x :: r.list := rfl
  rw [hlist] at h ⊢
  have FN := Lib.hid fn
  have HLK := Lib.hid h
  have HR := Lib.hid hnr
  obtain ⟨n0, n1, n2, n3, n4, n5, n6, n7, n8⟩ := fn _ hW
  obtain ⟨W, hWe⟩ : ∃ W, w.alloc (.cells (partC none 0 0 0 zeroS) 94) = W := ⟨_, rfl⟩
  rw [hWe] at hW hk0
  simp only [partC, zeroS] at hWe n0 n1 n2 n3 n4 n5 n6 n7 n8
  have HWE := Lib.hid hWe
  have HK0 := Lib.hid hk0
  clear hWe hk0 ihr h hnr hlist hblk fn
  cases l with
  | nil =>
   cases hnl
   clear ihl
   go_enter Tryz.func107, Tryz.ntmps107
   go_wp2_with fail
   rw [HWE.out]
   refine wp_region_lin (fun w' => Below w.heap.size w w') (BoxS w w.heap.size (partC none 0 0 0 zeroS)) (fun k => k == 8) (fun _ => false) (fun _ => false) (by kernel_rfl) (by kernel_rfl) (⟨hW.drew, HK0.out.drew⟩) (fun _ h => h.1) ?_
   repeat ((first
    | (refine wpL_read (v := ?_) (by rfl) (by rfl) (fun w6 hSw => ?_) ?_; rotate_left; (· (obtain ⟨n0, n1, n2, n3, n4, n5, n6, n7, n8⟩ := FN.out _ hSw; go_simp; try with_reducible rfl)))
    | (refine wpL_free (v := ?_) (by rfl) (fun w6 => ?_) ?_; rotate_left; (· (go_simp; try with_reducible rfl)))
    | refine wpL_not (by rfl) ?_); (try simp only [Act.put, pA, pB, pC]))
   refine wpL_heavy (fun _ w'' => BoxS w w.heap.size x.cells w'') (by rfl) (by rfl) (fun w6 hSw => ?_) (.inr (fun v6 w6 hT6 => ?_)) (fun v6 hv6 => ?_)
   ·(obtain ⟨hb6, hk6⟩ := hSw; obtain ⟨⟨y0, y1, y2, y3, y4, y5, y6⟩, z0, z1, z2, z3, z4, z5, z6⟩ := part_facts hk6; simp only [zeroS] at y0 y1 y2 y3 y4 y5 y6; go_simp; exact ⟨setP_below hb6 (Nat.le_refl _), setP_own hk6⟩)
   ·(exact hT6.1)
   skip
   (try simp only [Act.put, pA, pB, pC])
   repeat ((first
    | (refine wpL_read (v := ?_) (by rfl) (by rfl) (fun w6 hSw => ?_) ?_; rotate_left; (· (obtain ⟨n0, n1, n2, n3, n4, n5, n6, n7, n8⟩ := FN.out _ hSw; go_simp; try with_reducible rfl)))
    | (refine wpL_free (v := ?_) (by rfl) (fun w6 => ?_) ?_; rotate_left; (· (go_simp; try with_reducible rfl)))
    | refine wpL_not (by rfl) ?_); (try simp only [Act.put, pA, pB, pC]))
   refine wpL_nil ?_
   rintro w3 ⟨hb3, hk3⟩
   obtain ⟨⟨y0, y1, y2, y3, y4, y5, y6⟩, -⟩ := part_facts (show Blk w3 _ _ (partC x.A x.n x.c x.tag x.sum) from hk3)
   go_wp2_with fail
   exact bodyPost_ret (v := .tuple #[.agg x.cells, .pointer ar]) (by simp [results, Tryz.results107, go_sem, y0, y1, y2, y3, y4, y5, y6, Pc.cells, partC]) rfl ⟨x, r, ar, rfl, NodeAt.below hb3 _ _ HR.out, rfl, hb3⟩
  | node ll lx lr =>
   have hnl' := hnl
   obtain ⟨lb, al', ar', rfl, _, _, _⟩ := hnl'
   have hih := ihl _ W (NodeAt.below hW _ _ hnl) HLK.out.left (by intro e; cases e)
   have HIH := Lib.hid hih
   clear ihl hih
   go_enter Tryz.func107, Tryz.ntmps107
   go_wp2_with fail
   rw [HWE.out]
   refine (HIH.out).mono ?_
   rintro e w1 ⟨y, t1, a1, rfl, h1, h2, hb1⟩
   clear n0 n1 n2 n3 n4 n5 n6 n7 n8
   simp only [Pc.cells, partC]
   go_wp2_with fail
   have hbw : Below w.heap.size w (w1.alloc (.cells (partC y.A y.n y.c y.tag y.sum) 94)) := balloc (bseq hW hb1)
   have hbx := Blk.new w1 94 (partC y.A y.n y.c y.tag y.sum)
   have hk1 := (HK0.out.below hb1).alloc (.cells (partC y.A y.n y.c y.tag y.sum) 94)
   have hn1 := NodeAt.below (balloc (Below.refl _ w1) (o := .cells (partC y.A y.n y.c y.tag y.sum) 94)) _ _ h1
   simp only [partC] at hbw hbx hk1 hn1
   obtain ⟨W2, hWe⟩ : ∃ W2, w1.alloc (.cells #[.slice y.A y.n y.c, .int .i64 y.tag, .int .i64 y.sum.atoms, .int .i64 y.sum.bytes, .int .i64 y.sum.breaks, .bool y.sum.lf, .bool y.sum.cr] 94) = W2 := ⟨_, rfl⟩
   rw [hWe] at hbw hbx hk1 hn1 ⊢
   have hlk : LstOk (t1.list ++ x :: r.list) := by
    have := HLK.out
    rw [h2] at this
    exact this.tail
   have fx := fun (w' : World) (hb : Below W2.heap.size W2 w') => BoxC.of (x := y) hbx hb
   have FX := Lib.hid fx
   have H1 := Lib.hid hn1
   have H2 := Lib.hid h2
   have HK := Lib.hid hlk
   have HK1 := Lib.hid hk1
   have HBW := Lib.hid hbw
   have HBX := Lib.hid hbx
   have hgne : w1.heap.size ≠ w.heap.size := by
    have := hb1.size
    have e : W.heap.size = w.heap.size + 1 := by rw [<- HWE.out]; simp
    omega
   clear hWe fx hn1 h1 h2 hlk hk1 hbx hbw
   refine wp_region_lin (fun w' => Below w.heap.size w w' /\ BoxC w' w1.heap.size y) (fun w' => Below W2.heap.size W2 w') (fun k => k == 10 || k == 11) (fun _ => false) (fun _ => false) (by kernel_rfl) (by kernel_rfl) (Below.drew (Below.refl _ _)) (fun w' h => ⟨bseq HBW.out h, FX.out w' h⟩) ?_
   repeat ((first
    | (refine wpL_read (v := ?_) (by rfl) (by rfl) (fun w6 hSw => ?_) ?_; rotate_left; (· (obtain ⟨hw6, x0, x1, x2, x3, x4, x5, x6⟩ := hSw; obtain ⟨n0, n1, n2, n3, n4, n5, n6, n7, n8⟩ := FN.out _ hw6; go_simp; try with_reducible rfl)))
    | (refine wpL_free (v := ?_) (by rfl) (fun w6 => ?_) ?_; rotate_left; (· (go_simp; try with_reducible rfl)))
    | refine wpL_not (by rfl) ?_); (try simp only [Act.put, pA, pB, pC]))
   refine wpL_call (f := ?_) (args := ?_) (TrOut (t1.list ++ x :: r.list) W2) (by rfl) (by rfl) (fun w6 hSw => ?_) (fun w6 hSw => ?_) (.inr (fun v6 w6 hT6 => ?_)) (fun v6 hv6 => ?_)
   rotate_left 2
   ·(skip; go_simp; first | done | (constructor <;> with_reducible rfl) | with_reducible rfl)
   ·(exact even_out hSw (NodeAt.below hSw _ _ H1.out) (NodeAt.below (bseq HBW.out hSw) _ _ HR.out) HK.out)
   ·(exact ⟨bseq HBW.out hT6.bel, FX.out _ hT6.bel⟩)
   obtain ⟨w7, t7, a7, rfl, hc7⟩ := hv6; clear hc7
   (try simp only [Act.put, pA, pB, pC])
   repeat ((first
    | (refine wpL_read (v := ?_) (by rfl) (by rfl) (fun w6 hSw => ?_) ?_; rotate_left; (· (obtain ⟨hw6, x0, x1, x2, x3, x4, x5, x6⟩ := hSw; go_simp; try with_reducible rfl)))
    | (refine wpL_free (v := ?_) (by rfl) (fun w6 => ?_) ?_; rotate_left; (· (go_simp; try with_reducible rfl)))
    | refine wpL_not (by rfl) ?_); (try simp only [Act.put, pA, pB, pC]))
   refine wpL_heavy (fun _ w'' => BoxS w w.heap.size y.cells w'' /\ BoxC w'' w1.heap.size y /\ ∃ t, NodeAt w'' t a7 /\ t.list = t1.list ++ x :: r.list) (by rfl) (by rfl) (fun w6 hSw => ?_) (.inr (fun v6 w6 hT6 => ?_)) (fun v6 hv6 => ?_)
   ·(obtain ⟨t8, hn8, hl8, hb8⟩ := hSw.out; have hk6 := HK1.out.below hb8; obtain ⟨⟨y0, y1, y2, y3, y4, y5, y6⟩, z0, z1, z2, z3, z4, z5, z6⟩ := part_facts' hk6; go_simp; exact ⟨⟨setP_below (bseq HBW.out hb8) (Nat.le_refl _), setP_own hk6⟩, BoxC.of (x := y) (setP_far (HBX.out.below hb8) hgne) (Below.refl _ _), t8, setP_node hk6 hn8, hl8⟩)
   ·(exact ⟨hT6.1.1, hT6.2.1⟩)
   skip
   (try simp only [Act.put, pA, pB, pC])
   repeat ((first
    | (refine wpL_read (v := ?_) (by rfl) (by rfl) (fun w6 hSw => ?_) ?_; rotate_left; (· (obtain ⟨hw6, x0, x1, x2, x3, x4, x5, x6⟩ := hSw; go_simp; try with_reducible rfl)))
    | (refine wpL_free (v := ?_) (by rfl) (fun w6 => ?_) ?_; rotate_left; (· (go_simp; try with_reducible rfl)))
    | refine wpL_not (by rfl) ?_); (try simp only [Act.put, pA, pB, pC]))
   refine wpL_nil ?_
   rintro w3 ⟨⟨hb3, hk3⟩, -, t9, hn9, hl9⟩
   obtain ⟨⟨y0, y1, y2, y3, y4, y5, y6⟩, -⟩ := part_facts (show Blk w3 _ _ (partC y.A y.n y.c y.tag y.sum) from hk3)
   go_wp2_with fail
   exact bodyPost_ret (v := .tuple #[.agg y.cells, .pointer a7]) (by simp [results, Tryz.results107, go_sem, y0, y1, y2, y3, y4, y5, y6, Pc.cells, partC]) rfl ⟨y, t9, a7, rfl, hn9, by rw [hl9, H2.out]; rfl, hb3⟩
theorem both_tree (l r : Tr) (al ar : Option Addr) (w : World) (hl : NodeAt w l al) (hr : NodeAt w r ar) (h : LstOk (l.list ++ r.list)) :
  Calls Tryz.prog 91 #[.pointer al, .pointer ar] w fun e w' => TrPost (l.list ++ r.list) w e w' := by
 cases r with
 | nil =>
  cases hr
  go_enter Tryz.func91, Tryz.ntmps91
  go_wp2_with fail
  go_ret
  exact ⟨l, al, rfl, hl, by simp [Tr.list], Below.refl _ _⟩
 | node ml mx mr =>
  have hf := first_tree _ ar w hr h.right (by intro e; cases e)
  obtain ⟨b, _, _, rfl, _, _, _⟩ := hr
  obtain ⟨rl, hrl⟩ : ∃ rl, (Tr.node ml mx mr).list = rl := ⟨_, rfl⟩
  rw [hrl] at hf h ⊢
  have HF := Lib.hid hf
  have HL := Lib.hid hl
  have HK := Lib.hid h
  clear hf hl h hrl
  go_enter Tryz.func91, Tryz.ntmps91
  go_wp2_with fail
  refine (HF.out).mono ?_
  rintro e w1 ⟨x, t, a, rfl, h1, h2, hb1⟩
  have hbw : Below w.heap.size w (w1.alloc (.cells x.cells 94)) := balloc hb1
  have hj := join_any _ l t al a x (w1.alloc (.cells x.cells 94)) (Nat.le_refl _) (NodeAt.below hbw _ _ HL.out) (NodeAt.below (balloc (Below.refl _ w1)) _ _ h1) (by rw [<- h2]; exact HK.out)
  obtain ⟨x0, x1, x2, x3, x4, x5, x6⟩ := BoxC.of (Blk.new w1 94 x.cells) (Below.refl _ _)
  rw [<- h2] at hj
  have HJ := Lib.hid hj
  clear hj h1 h2
  simp only [Pc.cells, partC] at *
  go_wp2_with fail
  refine (HJ.out).mono ?_
  rintro e w3 ⟨t3, a3, rfl, hn3, hl3, hb3⟩
  go_wp2_with fail
  go_ret
  exact ⟨t3, a3, rfl, hn3, hl3, bseq hbw hb3⟩
end Go.Proofs.YtflhiohjikgedaaGreatDoor
