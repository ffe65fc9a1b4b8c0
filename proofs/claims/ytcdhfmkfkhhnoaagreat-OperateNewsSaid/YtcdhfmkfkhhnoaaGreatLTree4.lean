/-
  The walks of package tree at the pieces, fourth part: Size, Sum, At.
-/
import Derived.Test.YtcdhfmkfkhhnoaaGreatLTree3
set_option linter.unusedSimpArgs false
set_option linter.unusedVariables false
namespace Go.Proofs.YtcdhfmkfkhhnoaaGreat
open Go.RowKit

set_option maxRecDepth 100000 in
theorem tsize_any (t : Tr) (a : Option Addr) (w : World) (h : NodeAt w t a) :
    Calls Tryz.prog 97 #[.agg #[.pointer a]] w fun e w' => e = .returned (.int .i64 t.size) ∧ Below w.heap.size w w' := by
  have hW : Below w.heap.size w (w.alloc (.cells #[.pointer a] 115)) := balloc (Below.refl _ w)
  have hc := count_any t a _ (NodeAt.below hW t a h)
  have HC := Lib.hid hc
  clear hc
  go_enter Tryz.func97, Tryz.ntmps97
  go_wp2_with fail
  refine (HC.out).mono ?_
  rintro e w1 ⟨rfl, rfl⟩
  go_wp2_with fail
  go_ret
  exact ⟨rfl, hW⟩
set_option maxRecDepth 100000 in
theorem tsum_any (t : Tr) (a : Option Addr) (w : World) (h : NodeAt w t a) :
    Calls Tryz.prog 35 #[.agg #[.pointer a]] w fun e w' =>
      e = .returned (.agg #[.int .i64 t.sum.atoms, .int .i64 t.sum.bytes, .int .i64 t.sum.breaks, .bool t.sum.lf, .bool t.sum.cr]) ∧ Below w.heap.size w w' := by
  cases t with
  | nil =>
    cases h
    go_enter Tryz.func35, Tryz.ntmps35
    go_wp2_with fail
    refine bodyPost_ret (v := .agg #[.int .i64 0, .int .i64 0, .int .i64 0, .bool false, .bool false]) (by simp [results, Tryz.results35, go_sem]) rfl ⟨rfl, ?_⟩
    repeat (first | exact Below.refl _ _ | apply balloc)
  | node l x r =>
    obtain ⟨b, al, ar, rfl, hb, _, _⟩ := h
    obtain ⟨S, hS⟩ : ∃ S, (Tr.node l x r).sum = S := ⟨_, rfl⟩
    rw [hS] at hb ⊢
    clear hS
    have hb2 := (hb.alloc (.cells #[.pointer (some ⟨b, 0, none⟩)] 115)).alloc (.cells zeroS.cells 112)
    obtain ⟨n0, n1, n2, n3, n4, m0, m1, m2, m3, m4⟩ := node_facts hb2
    simp only [zeroS, Sums.cells] at n0 n1 n2 n3 n4
    go_enter Tryz.func35, Tryz.ntmps35
    go_wp2_with fail
    refine bodyPost_ret (v := .agg #[.int .i64 S.atoms, .int .i64 S.bytes, .int .i64 S.breaks, .bool S.lf, .bool S.cr]) (by simp [results, Tryz.results35, go_sem]) rfl ⟨rfl, ?_⟩
    repeat (first | exact Below.refl _ _ | apply balloc)
/-- the thing with a number -/
def Tr.get (t : Tr) (j : Int) : Option Pc := if j < 0 then none else t.list[j.toNat]?
theorem Tr.get_node (l : Tr) (x : Pc) (r : Tr) (j : Int) (h : 0 ≤ j) : (Tr.node l x r).get j = if j < l.size then l.get j else if j = l.size then some x else r.get (j - l.size - 1) := by
  have hs := Tr.size_list l
  unfold Tr.get
  rw [if_neg (by omega), Tr.list]
  split
  · rw [if_neg (by omega), List.getElem?_append_left (by omega)]
  · rw [List.getElem?_append_right (by omega)]
    split
    · rw [show j.toNat - l.list.length = 0 by omega]; rfl
    · rw [if_neg (by omega), show j.toNat - l.list.length = (j - l.size - 1).toNat + 1 by omega]; rfl
def AtR (p : Option Pc) (W : World) (k : Nat) (q6 q1 : Value) (wr : World) : Prop :=
  ∃ (t : Tr) (a : Option Addr) (j : Int), wr = W ∧ q6 = .pointer a ∧ q1 = .int .i64 j ∧ NodeAt W t a ∧ t.get j = p ∧ t.list.length ≤ k ∧ t.list.length ≤ 1073741824 ∧ -1073741826 ≤ j ∧ j ≤ 1073741826
/-- a piece or none -/
def partV (p : Option Pc) : Value := match p with
  | some x => .tuple #[.agg #[.slice x.A x.n x.c, .int .i64 x.tag, .int .i64 x.sum.atoms, .int .i64 x.sum.bytes, .int .i64 x.sum.breaks, .bool x.sum.lf, .bool x.sum.cr], .bool true]
  | none => .tuple #[.agg #[.slice none 0 0, .int .i64 0, .int .i64 0, .int .i64 0, .int .i64 0, .bool false, .bool false], .bool false]
theorem node_facts2 {w : World} {b : Nat} {al ar : Option Addr} {x : Pc} {sz tl : Int} {s : Sums} (h : Blk w b 143 (nodeC al ar x sz tl s)) :
    w.cell? ⟨b, 0, none⟩ = some (.pointer al) ∧ w.cell? ⟨b, 1, none⟩ = some (.pointer ar) ∧ ItemAt w b 2 x :=
  ⟨h.cell 0, h.cell 1, h.cell 2, h.cell 3, h.cell 4, h.cell 5, h.cell 6, h.cell 7, h.cell 8⟩
set_option maxRecDepth 100000 in
set_option maxHeartbeats 4000000 in
theorem tat_any (t : Tr) (a : Option Addr) (i : Int) (w : World) (h : NodeAt w t a) (ht : t.list.length ≤ 1073741824) (hi : -1073741826 ≤ i ∧ i ≤ 1073741826) :
    Calls Tryz.prog 75 #[.agg #[.pointer a], .int .i64 i] w fun e w' => e = .returned (partV (t.get i)) ∧ Below w.heap.size w w' := by
  obtain ⟨p, hp⟩ : ∃ p, t.get i = p := ⟨_, rfl⟩
  rw [hp]
  have HP := Lib.hid hp
  clear hp
  have hW : Below w.heap.size w ((w.alloc (.cells #[.pointer a] 115)).alloc (.cells (partC none 0 0 0 zeroS) 120)) := balloc (balloc (Below.refl _ w))
  have h2 := NodeAt.below hW t a h
  go_enter Tryz.func75, Tryz.ntmps75
  go_wp2_with fail
  go_loopg [6, 1] t.list.length (fun k q6 q1 wr => AtR p ((w.alloc (.cells #[.pointer a] 115)).alloc (.cells (partC none 0 0 0 zeroS) 120)) k q6 q1 wr)
  case atStart => exact ⟨t, a, i, rfl, rfl, rfl, h2, HP.out, Nat.le_refl _, ht, hi.1, hi.2⟩
  case round =>
    obtain ⟨t1, a1, j, rfl, rfl, rfl, hn1, hg, hk, hl1, j1, j2⟩ := hrel
    have HG := Lib.hid hg
    clear hg
    simp only [partC, zeroS]
    cases t1 with
    | nil =>
      cases hn1
      have hpn : p = none := by rw [← HG.out]; unfold Tr.get; split <;> rfl
      subst hpn
      go_wp2_with fail
      refine bodyPost_ret (v := partV none) (by simp [results, Tryz.results75, go_sem, partV]) rfl ⟨rfl, ?_⟩
      repeat (first | exact Below.refl _ _ | apply balloc)
    | node l x r =>
      have hls := Tr.size_list l
      have hlist : (Tr.node l x r).list.length = l.list.length + r.list.length + 1 := by simp only [Tr.list, List.length_append, List.length_cons]; omega
      obtain ⟨b, al, ar, rfl, hb, hnl, hnr⟩ := hn1
      obtain ⟨c0, c1, hit⟩ := node_facts2 hb
      obtain ⟨i0, i1, i2, i3, i4, i5, i6⟩ := hit.out
      simp only [partC, zeroS] at c0 c1 i0 i1 i2 i3 i4 i5 i6
      have hcnt := count_any l al _ hnl
      obtain ⟨sz, hsz⟩ : ∃ s, l.size = s := ⟨_, rfl⟩
      rw [hsz] at hcnt hls
      simp only [partC, zeroS] at hcnt
      have HC := Lib.hid hcnt
      have HSZ := Lib.hid hsz
      have hs0 : 0 ≤ sz := by omega
      have hs1 : sz ≤ 1073741824 := by omega
      have hk1 := show l.list.length < _ from Nat.lt_of_lt_of_le (by omega) hk
      have hk2 := show r.list.length < _ from Nat.lt_of_lt_of_le (by omega) hk
      have hl2 : l.list.length ≤ 1073741824 := by omega
      have hr2 : r.list.length ≤ 1073741824 := by omega
      clear hcnt hsz hls hlist hk hl1
      by_cases hj : j < 0
      · have hpn : p = none := by rw [← HG.out]; unfold Tr.get; rw [if_pos hj]
        subst hpn
        go_wp2_with fail
        refine bodyPost_ret (v := partV none) (by simp [results, Tryz.results75, go_sem, partV]) rfl ⟨rfl, ?_⟩
        repeat (first | exact Below.refl _ _ | apply balloc)
      · have hgn := Tr.get_node l x r j (by omega)
        rw [HSZ.out, HG.out] at hgn
        by_cases h1 : j = sz
        · have hp : p = some x := by rw [hgn, if_neg (by omega), if_pos h1]
          subst hp
          have q : (j == sz) = true := by rw [beq_iff_eq]; exact h1
          clear h1 hgn
          go_wp2_with fail
          refine (HC.out).mono ?_
          rintro e w1 ⟨rfl, rfl⟩
          go_wp2_with fail
          refine bodyPost_ret (v := partV (some x)) (by simp [results, Tryz.results75, go_sem, partV]) rfl ⟨rfl, ?_⟩
          repeat (first | exact Below.refl _ _ | apply balloc)
        · have q : (j == sz) = false := by rw [beq_eq_false_iff_ne]; exact h1
          by_cases h2 : j < sz
          · have hp : l.get j = p := by rw [hgn, if_pos h2]
            have HP2 := Lib.hid hp
            clear h1 hgn hp
            go_wp2_with fail
            refine (HC.out).mono ?_
            rintro e w1 ⟨rfl, rfl⟩
            go_wp2_with fail
            go_roundg l.list.length
            case measure => omega
            case rel => exact ⟨l, al, j, rfl, rfl, rfl, hnl, HP2.out, Nat.le_refl _, by omega, by omega, by omega⟩
          · have hp : r.get (j - sz - 1) = p := by rw [hgn, if_neg h2, if_neg h1]
            have HP2 := Lib.hid hp
            clear h1 hgn hp
            go_wp2_with fail
            refine (HC.out).mono ?_
            rintro e w1 ⟨rfl, rfl⟩
            go_wp2_with fail
            go_roundg r.list.length
            case measure => omega
            case rel => exact ⟨r, ar, j - sz - 1, rfl, rfl, rfl, hnr, HP2.out, Nat.le_refl _, by omega, by omega, by omega⟩
end Go.Proofs.YtcdhfmkfkhhnoaaGreat
