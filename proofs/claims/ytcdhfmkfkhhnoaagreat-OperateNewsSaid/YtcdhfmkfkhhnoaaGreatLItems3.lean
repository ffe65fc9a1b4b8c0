/-
  The walks of package tree at the pieces: Items, an iterator: its outer function, and its contract.
-/
import Derived.Test.YtcdhfmkfkhhnoaaGreatLItems2
import Derived.Laws.EntriesVeiled
set_option linter.unusedSimpArgs false
set_option linter.unusedVariables false
namespace Go.Proofs.YtcdhfmkfkhhnoaaGreat
open Go.RowKit

theorem roundIn_anyDepth {F : Fence} (hd : F.depth = none) {m m' : Nat} {P : Program} {l : Nat} {f : FuncId} {tmps : Array Value} {assign body : Code} {w : World} {R : Ending → World → Prop}
    (h : RoundIn F m P l f tmps assign body w R) : RoundIn F m' P l f tmps assign body w R := ⟨h.1, fun c cs _ => h.2 c cs (fun d h => by rw [hd] at h; cases h)⟩
theorem yieldAt_anyDepth {F : Fence} (hd : F.depth = none) {m : Nat} (m' : Nat) {P : Program} {l : Nat} {args : Array Value} {W : World} {R : Ending → World → Prop} (h : YieldAt F m P l args W R) : YieldAt F m' P l args W R := by
  obtain ⟨fn, tmps, assign, body, hy, hR⟩ := h
  exact ⟨fn, tmps, assign, body, hy, roundIn_anyDepth hd hR⟩
/-- a function that is ranged over has come to its end -/
def SeqPost (J Jx : List Pc → World → Prop) (xs : List Pc) (e : Ending) (W' : World) : Prop := (∃ v, e = .returned v) ∧ (J xs W' ∨ ∃ q, q <+: xs ∧ Jx q W')
set_option maxRecDepth 100000 in
set_option maxHeartbeats 2000000 in
theorem items1_any (l : Nat) (G : Pc → Prop) (J Jx : List Pc → World → Prop) (N B1 B2 : Nat) (hJ : (∀ s W, J s W → J s W.drew) ∧ ∀ s W n, J s W → J s (W.drewN n)) (hJa : ∀ s W o, J s W → J s (W.alloc o)) (hY : YSpec l G J Jx N)
    (t : Tr) (a : Option Addr) (i : Int) (W : World) (hn : NodeAt W t a) (hG : ∀ p ∈ t.list, G p) (h1 : W.cell? ⟨B1, 0, none⟩ = some (.pointer a)) (h2 : W.cell? ⟨B2, 0, none⟩ = some (.int .i64 i)) (i0 : -2147483648 ≤ i) (i1 : i ≤ 2147483648)
    (hlen : t.list.length ≤ 1073741824) (hj : J [] W) (hN : (t.list.drop i.toNat).length ≤ N) :
    Calls Tryz.prog 77 #[.func (.yield l) #[] #[], .pointer (some ⟨B1, 0, none⟩), .pointer (some ⟨B2, 0, none⟩)] W fun e W' => SeqPost J Jx (t.list.drop i.toNat) e W' := by
  have hW : Below W.heap.size W ((W.alloc (.cells #[.func (.yield l) #[] #[]] 176)).alloc (.cells #[.func (.func 78) #[] #[.pointer (some ⟨W.heap.size + 1, 0, none⟩), .pointer (some ⟨W.heap.size, 0, none⟩)]] 177)) := balloc (balloc (Below.refl _ W))
  have b1 : Blk ((W.alloc (.cells #[.func (.yield l) #[] #[]] 176)).alloc (.cells #[.func (.func 78) #[] #[.pointer (some ⟨W.heap.size + 1, 0, none⟩), .pointer (some ⟨W.heap.size, 0, none⟩)]] 177)) (W.heap.size + 1) 177 #[.func (.func 78) #[] #[.pointer (some ⟨W.heap.size + 1, 0, none⟩), .pointer (some ⟨W.heap.size, 0, none⟩)]] := by
    have := Blk.new (W.alloc (.cells #[.func (.yield l) #[] #[]] 176)) 177 #[.func (.func 78) #[] #[.pointer (some ⟨W.heap.size + 1, 0, none⟩), .pointer (some ⟨W.heap.size, 0, none⟩)]]
    simpa only [World.size_alloc] using this
  have b2 : Blk ((W.alloc (.cells #[.func (.yield l) #[] #[]] 176)).alloc (.cells #[.func (.func 78) #[] #[.pointer (some ⟨W.heap.size + 1, 0, none⟩), .pointer (some ⟨W.heap.size, 0, none⟩)]] 177)) W.heap.size 176 #[.func (.yield l) #[] #[]] := (Blk.new W _ _).alloc _
  have hjj := hJa _ _ (.cells #[.func (.func 78) #[] #[.pointer (some ⟨W.heap.size + 1, 0, none⟩), .pointer (some ⟨W.heap.size, 0, none⟩)]] 177) (hJa _ _ (.cells #[.func (.yield l) #[] #[]] 176) hj)
  have hc := items2_any l G J Jx N (W.heap.size + 1) W.heap.size hJ hY t a (max 0 i) [] _ (NodeAt.below hW _ _ hn) hG b1 b2 (by omega) (by omega) hlen hjj (by rw [show (max 0 i).toNat = i.toNat by omega, List.length_nil, Nat.zero_add]; exact hN)
  rw [show (max 0 i).toNat = i.toNat by omega] at hc
  obtain ⟨ys, hys⟩ : ∃ ys, t.list.drop i.toNat = ys := ⟨_, rfl⟩
  rw [hys] at hc ⊢
  have l1 := lt_of_cell h1
  have l2 := lt_of_cell h2
  have he := Tryz.call78
  by_cases h0 : 0 < i
  all_goals
    first
      | rw [show max 0 i = i by omega] at hc
      | rw [show max 0 i = 0 by omega] at hc
    have HC := Lib.hid hc
    clear hc hjj b1 b2 hW hJ hJa hY hys
    go_enter Tryz.func77, Tryz.ntmps77
    go_wp2_with fail
    refine (HC.out).mono ?_
    rintro e w1 ⟨b, rfl, hyp⟩
    go_wp2_with fail
    go_end0
    refine ⟨⟨_, rfl⟩, ?_⟩
    cases b
    · exact .inr (hyp.2 rfl)
    · exact .inl (hyp.1 rfl).1
set_option maxRecDepth 100000 in
theorem items_any (a : Option Addr) (i : Int) (w : World) :
    Calls Tryz.prog 54 #[.agg #[.pointer a], .int .i64 i] w fun e w' =>
      e = .returned (.func (.func 77) #[] #[.pointer (some ⟨w.heap.size, 0, none⟩), .pointer (some ⟨w.heap.size + 1, 0, none⟩)]) ∧
      (w.alloc (.cells #[.pointer a] 115)).alloc (.cells #[.int .i64 i] 3) = w' := by
  go_enter Tryz.func54, Tryz.ntmps54
  go_wp2_with fail
  go_ret
  exact ⟨rfl, rfl⟩
theorem items_stops (G : Pc → Prop) (n : Nat) (B1 B2 : Nat) (t : Tr) (a : Option Addr) (i : Int) (w : World) (hn : NodeAt w t a) (hG : ∀ p ∈ t.list, G p) (h1 : w.cell? ⟨B1, 0, none⟩ = some (.pointer a)) (h2 : w.cell? ⟨B2, 0, none⟩ = some (.int .i64 i))
    (i0 : -2147483648 ≤ i) (i1 : i ≤ 2147483648) (hlen : t.list.length ≤ 1073741824) :
    SeqStopsK Fence.wide n Tryz.prog 77 #[.pointer (some ⟨B1, 0, none⟩), .pointer (some ⟨B2, 0, none⟩)] (fun x : { p : Pc // G p } => #[.agg x.1.cells]) KT
      (fun xs => xs.map Subtype.val = t.list.drop i.toNat) (fun pre => pre.map Subtype.val <+: t.list.drop i.toNat) (t.list.drop i.toNat).length w := by
  intro l J Jx W hW hJ hJx hY h0
  refine callsIn_wide.2 ?_
  have hJJ : (∀ (s : List Pc) W', (∃ l' : List { p : Pc // G p }, l'.map Subtype.val = s ∧ J l' W') → ∃ l' : List { p : Pc // G p }, l'.map Subtype.val = s ∧ J l' W'.drew) ∧
      ∀ (s : List Pc) W' (k : Nat), (∃ l' : List { p : Pc // G p }, l'.map Subtype.val = s ∧ J l' W') → ∃ l' : List { p : Pc // G p }, l'.map Subtype.val = s ∧ J l' (W'.drewN k) :=
    ⟨fun s W' ⟨l', e, hj⟩ => ⟨l', e, hJ l' W' _ none hj ⟨rfl, rfl, rfl, Nat.le_refl _, fun _ _ _ => rfl⟩ (fun r e => by cases e)⟩,
     fun s W' k ⟨l', e, hj⟩ => ⟨l', e, hJ l' W' _ none hj ⟨rfl, rfl, rfl, Nat.le_refl _, fun _ _ _ => rfl⟩ (fun r e => by cases e)⟩⟩
  have hc := items1_any l G (fun s W' => ∃ l' : List { p : Pc // G p }, l'.map Subtype.val = s ∧ J l' W') (fun s W' => ∃ l' : List { p : Pc // G p }, l'.map Subtype.val = s ∧ Jx l' W') (t.list.drop i.toNat).length B1 B2 hJJ
    (fun s W' o ⟨l', e, hj⟩ => ⟨l', e, hJ l' W' _ none hj (World.grownBy_alloc W' o none) (fun r e => by cases e)⟩)
    (fun m pre x W1 hx ⟨l', e, hj⟩ hlen' => by
      have hl : l'.length = pre.length := by rw [← e, List.length_map]
      refine (yieldAt_anyDepth rfl m (hY l' ⟨x, hx⟩ W1 hj (by omega))).mono ?_
      rintro e2 W2 (⟨h1, h2, h3⟩ | ⟨h1, h2⟩)
      · exact .inl ⟨h1, ⟨l' ++ [⟨x, hx⟩], by rw [List.map_append, e]; rfl, h2⟩, h3⟩
      · exact .inr ⟨h1, ⟨l' ++ [⟨x, hx⟩], by rw [List.map_append, e]; rfl, h2⟩⟩)
    t a i W (NodeAt.below hW t a hn) hG ((hW.cell (lt_of_cell h1)).trans h1) ((hW.cell (lt_of_cell h2)).trans h2) i0 i1 hlen ⟨[], rfl, h0⟩ (Nat.le_refl _)
  refine hc.mono ?_
  rintro e W' ⟨hv, (⟨l', e', hj⟩ | ⟨q, hq, l', e', hj⟩)⟩
  · exact ⟨hv, .inl ⟨l', e', hj⟩⟩
  · exact ⟨hv, .inr ⟨l', by show l'.map Subtype.val <+: _; rw [e']; exact hq, hj⟩⟩
end Go.Proofs.YtcdhfmkfkhhnoaaGreat
