/-
  The walks of package tree at the pieces, fourth part: Size, Sum, At. The walks of package tree at the pieces, fifth part: sums of lists, Upto.
-/
import Derived.Test.YtflhiohjikgedaaGreatDoorLTree3
set_option linter.unusedSimpArgs false
set_option linter.unusedVariables false
set_option maxRecDepth 100000
set_option maxHeartbeats 32000000
namespace Go.Proofs.YtflhiohjikgedaaGreatDoor
open Go.RowKit
theorem tsize_any (t : Tr) (a : Option Addr) (w : World) (h : NodeAt w t a) :
  Calls Tryz.prog 69 #[.agg #[.pointer a]] w fun e w' => e = .returned (.int .i64 t.size) /\ Below w.heap.size w w' := by
 have hW : Below w.heap.size w (w.alloc (.cells #[.pointer a] 86)) := balloc (Below.refl _ w)
 have hc := count_any t a _ (NodeAt.below hW t a h)
 have HC := Lib.hid hc
 clear hc
 go_enter Tryz.func69, Tryz.ntmps69
 go_wp2_with fail
 refine (HC.out).mono ?_
 rintro e w1 ⟨rfl, rfl⟩
 go_wp2_with fail
 go_ret
 exact ⟨rfl, hW⟩
theorem tsum_any (t : Tr) (a : Option Addr) (w : World) (h : NodeAt w t a) :
  Calls Tryz.prog 36 #[.agg #[.pointer a]] w fun e w' =>
   e = .returned (.agg #[.int .i64 t.sum.atoms, .int .i64 t.sum.bytes, .int .i64 t.sum.breaks, .bool t.sum.lf, .bool t.sum.cr]) /\ Below w.heap.size w w' := by
 cases t with
 | nil =>
  cases h
  go_enter Tryz.func36, Tryz.ntmps36
  go_wp2_with fail
  refine bodyPost_ret (v := .agg #[.int .i64 0, .int .i64 0, .int .i64 0, .bool false, .bool false]) (by simp [results, Tryz.results36, go_sem]) rfl ⟨rfl, ?_⟩
  repeat (first | exact Below.refl _ _ | apply balloc)
 | node l x r =>
  obtain ⟨b, al, ar, rfl, hb, _, _⟩ := h
  obtain ⟨S, hS⟩ : ∃ S, (Tr.node l x r).sum = S := ⟨_, rfl⟩
  rw [hS] at hb ⊢
  clear hS
  have hb2 := (hb.alloc (.cells #[.pointer (some ⟨b, 0, none⟩)] 86)).alloc (.cells zeroS.cells 92)
  obtain ⟨n0, n1, n2, n3, n4, m0, m1, m2, m3, m4⟩ := node_facts hb2
  simp only [zeroS, Sums.cells] at n0 n1 n2 n3 n4
  go_enter Tryz.func36, Tryz.ntmps36
  go_wp2_with fail
  refine bodyPost_ret (v := .agg #[.int .i64 S.atoms, .int .i64 S.bytes, .int .i64 S.breaks, .bool S.lf, .bool S.cr]) (by simp [results, Tryz.results36, go_sem]) rfl ⟨rfl, ?_⟩
  repeat (first | exact Below.refl _ _ | apply balloc)
def Tr.get (t : Tr) (j : Int) : Option Pc := if j < 0 then none else t.list[j.toNat]?
theorem Tr.get_node (l : Tr) (x : Pc) (r : Tr) (j : Int) (h : 0 <= j) : (Tr.node l x r).get j = if j < l.size then l.get j else if j = l.size then some x else r.get (j - l.size - 1) := by
 have hs := Tr.size_list l
 unfold Tr.get
 rw [if_neg (by omega), Tr.list]
 split
 ·rw [if_neg (by omega), List.getElem?_append_left (by omega)]
 ·rw [List.getElem?_append_right (by omega)]
  split
  ·rw [show j.toNat - l.list.length = 0 by omega]; rfl
  ·rw [if_neg (by omega), show j.toNat - l.list.length = (j - l.size - 1).toNat + 1 by omega]; rfl
def AtR (p : Option Pc) (W : World) (k : Nat) (q6 q1 : Value) (wr : World) : Prop :=
 ∃ (t : Tr) (a : Option Addr) (j : Int), wr = W /\ q6 = .pointer a /\ q1 = .int .i64 j /\ NodeAt W t a /\ t.get j = p /\ t.list.length <= k /\ t.list.length <= 1073741824 /\ -1073741826 <= j /\ j <= 1073741826
def partV (p : Option Pc) : Value := match p with
 | some x => .tuple #[.agg #[.slice x.A x.n x.c, .int .i64 x.tag, .int .i64 x.sum.atoms, .int .i64 x.sum.bytes, .int .i64 x.sum.breaks, .bool x.sum.lf, .bool x.sum.cr], .bool true]
 | none => .tuple #[.agg #[.slice none 0 0, .int .i64 0, .int .i64 0, .int .i64 0, .int .i64 0, .bool false, .bool false], .bool false]
theorem node_facts2 {w : World} {b : Nat} {al ar : Option Addr} {x : Pc} {sz tl : Int} {s : Sums} (h : Blk w b 134 (nodeC al ar x sz tl s)) :
  w.cell? ⟨b, 0, none⟩ = some (.pointer al) /\ w.cell? ⟨b, 1, none⟩ = some (.pointer ar) /\ ItemAt w b 2 x :=
 ⟨h.cell 0, h.cell 1, h.cell 2, h.cell 3, h.cell 4, h.cell 5, h.cell 6, h.cell 7, h.cell 8⟩
theorem tat_any (t : Tr) (a : Option Addr) (i : Int) (w : World) (h : NodeAt w t a) (ht : t.list.length <= 1073741824) (hi : -1073741826 <= i /\ i <= 1073741826) :
  Calls Tryz.prog 65 #[.agg #[.pointer a], .int .i64 i] w fun e w' => e = .returned (partV (t.get i)) /\ Below w.heap.size w w' := by
 obtain ⟨p, hp⟩ : ∃ p, t.get i = p := ⟨_, rfl⟩
 rw [hp]
 have HP := Lib.hid hp
 clear hp
 have hW : Below w.heap.size w ((w.alloc (.cells #[.pointer a] 86)).alloc (.cells (partC none 0 0 0 zeroS) 94)) := balloc (balloc (Below.refl _ w))
 have h2 := NodeAt.below hW t a h
 go_enter Tryz.func65, Tryz.ntmps65
 go_wp2_with fail
 go_loopg [6, 1] t.list.length (fun k q6 q1 wr => AtR p ((w.alloc (.cells #[.pointer a] 86)).alloc (.cells (partC none 0 0 0 zeroS) 94)) k q6 q1 wr)
 case atStart => exact ⟨t, a, i, rfl, rfl, rfl, h2, HP.out, Nat.le_refl _, ht, hi.1, hi.2⟩
 case round =>
  obtain ⟨t1, a1, j, rfl, rfl, rfl, hn1, hg, hk, hl1, j1, j2⟩ := hrel
  have HG := Lib.hid hg
  clear hg
  simp only [partC, zeroS]
  cases t1 with
  | nil =>
   cases hn1
   have hpn : p = none := by rw [<- HG.out]; unfold Tr.get; split <;> rfl
   subst hpn
   go_wp2_with fail
   refine bodyPost_ret (v := partV none) (by simp [results, Tryz.results65, go_sem, partV]) rfl ⟨rfl, ?_⟩
   repeat (first | exact Below.refl _ _ | apply balloc)
  | node l x r =>
   have hls := Tr.size_list l
   have hlist : (Tr.node l x r).list.length = l.list.length + r.list.length + 1 := by simp only [Tr.list, List.length_append, List.length_cons]; omega
   obtain ⟨b, al, ar, rfl, hb, hnl, hnr⟩ := hn1
   obtain ⟨c0, c1, hit⟩ := node_facts2 hb
   obtain ⟨i0, i1, i2, i3, i4, i5, i6⟩ := hit.out
   simp only [partC, zeroS] at c0 c1 i0 i1 i2 i3 i4 i5 i6
   have hcnt := count_any l al _ hnl
   obtain ⟨sz, hsz⟩ : ∃ s, l.size = s := ⟨_, rfl⟩
   rw [hsz] at hcnt hls
   simp only [partC, zeroS] at hcnt
   have HC := Lib.hid hcnt
   have HSZ := Lib.hid hsz
   have hs0 : 0 <= sz := by omega
   have hs1 : sz <= 1073741824 := by omega
   have hk1 := show l.list.length < _ from Nat.lt_of_lt_of_le (by omega) hk
   have hk2 := show r.list.length < _ from Nat.lt_of_lt_of_le (by omega) hk
   have hl2 : l.list.length <= 1073741824 := by omega
   have hr2 : r.list.length <= 1073741824 := by omega
   clear hcnt hsz hls hlist hk hl1
   by_cases hj : j < 0
   ·have hpn : p = none := by rw [<- HG.out]; unfold Tr.get; rw [if_pos hj]
    subst hpn
    go_wp2_with fail
    refine bodyPost_ret (v := partV none) (by simp [results, Tryz.results65, go_sem, partV]) rfl ⟨rfl, ?_⟩
    repeat (first | exact Below.refl _ _ | apply balloc)
   ·have hgn := Tr.get_node l x r j (by omega)
    rw [HSZ.out, HG.out] at hgn
    by_cases h1 : j = sz
    ·have hp : p = some x := by rw [hgn, if_neg (by omega), if_pos h1]
     subst hp
     have q : (j == sz) = true := by rw [beq_iff_eq]; exact h1
     clear h1 hgn
     go_wp2_with fail
     refine (HC.out).mono ?_
     rintro e w1 ⟨rfl, rfl⟩
     go_wp2_with fail
     refine bodyPost_ret (v := partV (some x)) (by simp [results, Tryz.results65, go_sem, partV]) rfl ⟨rfl, ?_⟩
     repeat (first | exact Below.refl _ _ | apply balloc)
    ·have q : (j == sz) = false := by rw [beq_eq_false_iff_ne]; exact h1
     by_cases h2 : j < sz
     ·have hp : l.get j = p := by rw [hgn, if_pos h2]
      have HP2 := Lib.hid hp
      clear h1 hgn hp
      go_wp2_with fail
      refine (HC.out).mono ?_
      rintro e w1 ⟨rfl, rfl⟩
      go_wp2_with fail
      go_roundg l.list.length
      case measure => omega
      case rel => exact ⟨l, al, j, rfl, rfl, rfl, hnl, HP2.out, Nat.le_refl _, by omega, by omega, by omega⟩
     ·have hp : r.get (j - sz - 1) = p := by rw [hgn, if_neg h2, if_neg h1]
      have HP2 := Lib.hid hp
      clear h1 hgn hp
      go_wp2_with fail
      refine (HC.out).mono ?_
      rintro e w1 ⟨rfl, rfl⟩
      go_wp2_with fail
      go_roundg r.list.length
      case measure => omega
      case rel => exact ⟨r, ar, j - sz - 1, rfl, rfl, rfl, hnr, HP2.out, Nat.le_refl _, by omega, by omega, by omega⟩
theorem addF_zero_left (s : Sums) : addF zeroS s = s := by unfold addF; exact if_pos rfl
theorem addF_zero_right {s : Sums} (h : s.good) : addF s zeroS = s := by
 unfold addF
 split
 ·rename_i h0; exact (h.2.2.2.1 h0).symm
 ·exact if_pos rfl
theorem addF_nz {s o : Sums} (h1 : s.atoms ≠ 0) (h2 : o.atoms ≠ 0) : addF s o = { atoms := s.atoms + o.atoms, bytes := s.bytes + o.bytes, breaks := if (s.cr && o.lf) = true then s.breaks + o.breaks - 1 else s.breaks + o.breaks, lf := s.lf, cr := o.cr } := by
 unfold addF; rw [if_neg h1, if_neg h2]
theorem addF_assoc {a b c : Sums} (ha : a.good) (hb : b.good) (hc : c.good) : addF (addF a b) c = addF a (addF b c) := by
 by_cases h1 : a.atoms = 0
 ·rw [ha.2.2.2.1 h1, addF_zero_left, addF_zero_left]
 by_cases h2 : b.atoms = 0
 ·rw [hb.2.2.2.1 h2, addF_zero_left, addF_zero_right ha]
 by_cases h3 : c.atoms = 0
 ·rw [hc.2.2.2.1 h3, addF_zero_right hb, addF_zero_right (addF_good ha hb).1]
 have n1 : 0 <= a.atoms := by obtain ⟨x, y, _⟩ := ha; omega
 have n2 : 0 <= b.atoms := by obtain ⟨x, y, _⟩ := hb; omega
 have n3 : 0 <= c.atoms := by obtain ⟨x, y, _⟩ := hc; omega
 have g1 := (addF_good ha hb).2.1
 have g2 := (addF_good hb hc).2.1
 rw [addF_nz (s := addF a b) (by omega) h3, addF_nz (o := addF b c) h1 (by omega), addF_nz h1 h2, addF_nz h2 h3]
 dsimp only
 rw [Int.add_assoc, Int.add_assoc]
 congr 1
 split <;> split <;> omega
def sumL (ps : List Pc) : Sums := ps.foldr (fun p s => addF p.sum s) zeroS
theorem sumL_nil : sumL [] = zeroS := rfl
theorem sumL_cons (p : Pc) (ps : List Pc) : sumL (p :: ps) = addF p.sum (sumL ps) := rfl
theorem sumL_good {ps : List Pc} (h : AllGood ps) : (sumL ps).good /\ (sumL ps).bytes = totB ps := by
 induction ps with
 | nil => exact ⟨zeroS_good, rfl⟩
 | cons p ps ih =>
  have h1 := ih (fun q hq => h q (List.mem_cons_of_mem _ hq))
  have h2 := addF_good (h p List.mem_cons_self) h1.1
  rw [sumL_cons, totB_cons]
  exact ⟨h2.1, by rw [h2.2.2, h1.2]⟩
theorem sumL_app {a b : List Pc} (ha : AllGood a) (hb : AllGood b) : sumL (a ++ b) = addF (sumL a) (sumL b) := by
 induction a with
 | nil => rw [List.nil_append, sumL_nil, addF_zero_left]
 | cons p ps ih =>
  have h1 : AllGood ps := fun q hq => ha q (List.mem_cons_of_mem _ hq)
  rw [List.cons_append, sumL_cons, ih h1, sumL_cons, addF_assoc (ha p List.mem_cons_self) (sumL_good h1).1 (sumL_good hb).1]
theorem Tr.good_l {l : Tr} {x : Pc} {r : Tr} (h : AllGood (Tr.node l x r).list) : AllGood l.list := fun p hp => h p (by simp [Tr.list, hp])
theorem Tr.good_r {l : Tr} {x : Pc} {r : Tr} (h : AllGood (Tr.node l x r).list) : AllGood r.list := fun p hp => h p (by simp [Tr.list, hp])
theorem Tr.good_x {l : Tr} {x : Pc} {r : Tr} (h : AllGood (Tr.node l x r).list) : x.sum.good := h x (by simp [Tr.list])
theorem lsum_eq (l : Tr) (x : Pc) : lsum l x = addF l.sum x.sum := by
 cases l with
 | nil => exact (addF_zero_left _).symm
 | node => rfl
theorem rsum_eq {s : Sums} (h : s.good) (r : Tr) : rsum s r = addF s r.sum := by
 cases r with
 | nil => exact (addF_zero_right h).symm
 | node => rfl
theorem Tr.sum_list : ∀ t : Tr, AllGood t.list -> t.sum = sumL t.list
 | .nil, _ => rfl
 | .node l x r, h => by
  have hl := Tr.sum_list l (Tr.good_l h)
  have hr := Tr.sum_list r (Tr.good_r h)
  have gl := sumL_good (Tr.good_l h)
  have gr := sumL_good (Tr.good_r h)
  have gx := Tr.good_x h
  rw [Tr.sum_node, rsum_eq (lsum_good l x (Tr.good_l h) gx).1, lsum_eq, hl, hr, Tr.list, sumL_app (Tr.good_l h) (fun p hp => h p (by simp only [Tr.list, List.mem_append]; exact Or.inr hp)), sumL_cons, addF_assoc gl.1 gx gr.1]
def accF (s : Sums) (l : Tr) : Sums := match l with | .nil => s | .node .. => addF s l.sum
theorem accF_eq {s : Sums} (h : s.good) (l : Tr) (hl : AllGood l.list) : accF s l = addF s (sumL l.list) := by
 cases l with
 | nil => exact (addF_zero_right h).symm
 | node a b c => show addF s (Tr.node a b c).sum = _; rw [Tr.sum_list _ hl]
theorem upto_left (l : Tr) (x : Pc) (r : Tr) (j : Int) (h : j <= l.list.length) : (Tr.node l x r).list.take j.toNat = l.list.take j.toNat := by
 rw [Tr.list, List.take_append_of_le_length (by omega)]
theorem upto_right (l : Tr) (x : Pc) (r : Tr) (j : Int) (h : (l.list.length : Int) < j) : (Tr.node l x r).list.take j.toNat = l.list ++ x :: r.list.take (j - l.list.length - 1).toNat := by
 rw [Tr.list, List.take_append, List.take_of_length_le (by omega), show j.toNat - l.list.length = (j - l.list.length - 1).toNat + 1 by omega, List.take_succ_cons]
theorem take_good {ps : List Pc} (h : AllGood ps) (k : Nat) : AllGood (ps.take k) := fun p hp => h p (List.mem_of_mem_take hp)
theorem upto_step {s : Sums} (hs : s.good) {l : Tr} {x : Pc} {r : Tr} (h : AllGood (Tr.node l x r).list) (j : Int) (hj : (l.list.length : Int) < j) :
  addF (addF (accF s l) x.sum) (sumL (r.list.take (j - l.list.length - 1).toNat)) = addF s (sumL ((Tr.node l x r).list.take j.toNat)) := by
 have hl := Tr.good_l h
 have hr := take_good (Tr.good_r h) (j - l.list.length - 1).toNat
 have hx := Tr.good_x h
 have gl := (sumL_good hl).1
 have gr := (sumL_good hr).1
 rw [upto_right l x r j hj, sumL_app hl (by intro p hp; rcases List.mem_cons.1 hp with rfl | hp; exact hx; exact hr p hp), sumL_cons, accF_eq hs l hl, addF_assoc (addF_good hs gl).1 hx gr, addF_assoc hs gl (addF_good hx gr).1]
end Go.Proofs.YtflhiohjikgedaaGreatDoor
