/-
  The movers of package motion, fourth part: run, Words (the rest of a word, back; no count).
-/
import Derived.Test.YtkocknfhdojmbaaGreatLHeavy
import Derived.Test.YtkocknfhdojmbaaGreatLOpenLaw
import Derived.Test.YtkocknfhdojmbaaGreatLEnds
import Derived.Test.YtkocknfhdojmbaaGreatLLineLaw
import Derived.Test.YtkocknfhdojmbaaGreatLRow
set_option linter.unusedSimpArgs false
set_option linter.unusedVariables false
set_option maxRecDepth 100000
set_option maxHeartbeats 32000000
namespace Go.Proofs.YtkocknfhdojmbaaGreat
open Go.RowKit
def GotInts (W : World) (n : Nat) (l : List Int) (v : Value) (w' : World) : Prop := ∃ A c, v = .slice A n c /\ n <= c /\ Ints w' Any A n l /\ Below W.heap.size W w'
theorem GotInts.bel {W w' : World} {n : Nat} {l : List Int} {v : Value} (h : GotInts W n l v w') : Below W.heap.size W w' := by
 obtain ⟨_, _, _, _, _, h⟩ := h
 exact h
theorem GotInts.out {W w' : World} {n c : Nat} {l : List Int} {A : Option Addr} (h : GotInts W n l (.slice A n c) w') : Ints w' Any A n l /\ Below W.heap.size W w' := by
 obtain ⟨_, _, e, _, hi, hb⟩ := h
 injection e with e1 e2 e3
 subst e1
 exact ⟨hi, hb⟩
theorem GotInts.keep {W w' w'' : World} {n : Nat} {l : List Int} {v : Value} (h : GotInts W n l v w') (hb : Below w'.heap.size w' w'') : GotInts W n l v w'' := by
 obtain ⟨A, c, e, hc, hi, hb'⟩ := h
 exact ⟨A, c, e, hc, Reads.below hi hb, bseq hb' hb⟩
theorem GotInts.mk_ {W w w' : World} {n : Nat} {l : List Int} {v : Value} (hn : n = l.length) (hb : Below W.heap.size W w) (ho : w'.ownsRow w.heap.size 3 1 v l.length (l.map (Value.int .i64))) (hb' : Below w.heap.size w w') : GotInts W n l v w' := by
 subst hn
 rcases ho.2 with ⟨e1, e2⟩ | ⟨g, cap, cur, e1, _, _, hc, _⟩
 ·refine ⟨none, 0, by rw [e1, e2], by omega, ⟨by simp, fun h => absurd h (by omega)⟩, bseq hb hb'⟩
 ·exact ⟨_, cap, e1, hc, Reads.more (Reads.of_own (by rw [<- e1]; exact ho)) (fun _ _ _ => trivial) (by decide), bseq hb hb'⟩
theorem first_any (D : Nat -> Prop) (L : Ln) (i : Int) (C : List Int) (v : Array Value) (k p : Nat) (w : World) (h : RowC w D L i C v) (hk : k < (allB C).length) (hp : (allB C).getD k 0 = (p : Int)) (hp2 : p < C.length) :
  Calls Tryz.prog 198 #[.agg v, .int .i64 (k : Int)] w fun e w' => e = .returned (.int .i64 (C.getD p 0)) /\ Below w.heap.size w w' := by
 obtain ⟨A1, n1, c1, A2, n2, c2, rfl, h1, h2, h3, h4⟩ := h
 obtain ⟨x0, x1, x2, x3⟩ := L
 have hl1 := h1.len
 have hl2 := h3.len
 obtain ⟨b1, o1, rfl, _, hc1⟩ := ints_form h1 (by omega)
 obtain ⟨b2, o2, rfl, _, hc2⟩ := ints_form h3 (by omega)
 have ha := cell_keep (balloc (o := .cells (rowV ⟨x0, x1, x2, x3⟩ i (some ⟨b1, o1, none⟩) n1 c1 (some ⟨b2, o2, none⟩) n2 c2) 186) (Below.refl _ w)) (hc1 p (by omega))
 have hb := cell_keep (balloc (o := .cells (rowV ⟨x0, x1, x2, x3⟩ i (some ⟨b1, o1, none⟩) n1 c1 (some ⟨b2, o2, none⟩) n2 c2) 186) (Below.refl _ w)) (hc2 k (by omega))
 rw [hp] at hb
 obtain ⟨y, hy⟩ : ∃ y, C.getD p 0 = y := ⟨_, rfl⟩
 rw [hy] at ha ⊢
 have z1 : (0 : Int) <= (k : Int) := by omega
 have z2 : (k : Int) < (n2 : Int) := by omega
 have z3 : (0 : Int) <= (p : Int) := by omega
 have z4 : (p : Int) < (n1 : Int) := by omega
 have hW : Below w.heap.size w (w.alloc (.cells (rowV ⟨x0, x1, x2, x3⟩ i (some ⟨b1, o1, none⟩) n1 c1 (some ⟨b2, o2, none⟩) n2 c2) 186)) := balloc (Below.refl _ w)
 unfold rowV at ha hb hW ⊢
 dsimp only at ha hb hW ⊢
 clear hy hp hc1 hc2 h1 h3
 go_enter Tryz.func198, Tryz.ntmps198
 go_upto_region 1 with fail
 go_quiet (fail)
 go_wp2_with fail
 go_ret
 exact ⟨rfl, below_drewN hW _⟩
noncomputable def kindF (C : List Int) (k : Nat) : Int := wordF (C.getD ((allB C).getD k 0).toNat 0)
theorem first_v {L : Ln} {i : Int} {D : Nat -> Prop} {C : List Int} {v : Array Value} {w : World} (h : RowC w D L i C v) : ∃ A1 n1 c1 A2 n2 c2, v = rowV L i A1 n1 c1 A2 n2 c2 := by
 obtain ⟨A1, n1, c1, A2, n2, c2, e, _⟩ := h
 exact ⟨A1, n1, c1, A2, n2, c2, e⟩
theorem bnds_chain (l : List Int) : ∀ (f p : Nat), l.length - p <= f -> p <= l.length ->
  (∀ k, k < (bnds l p).length -> (p :: bnds l p).getD k 0 < l.length /\ (p :: bnds l p).getD (k + 1) 0 = nextB l ((p :: bnds l p).getD k 0)) /\ (p :: bnds l p).getD (bnds l p).length 0 = l.length := by
 intro f
 induction f with
 | zero =>
  intro p h hp
  rw [bnds_ge l p (by omega)]
  refine ⟨fun k hk => absurd hk (by simp), ?_⟩
  simp
  omega
 | succ f ih =>
  intro p h hp
  by_cases hlt : p < l.length
  ·have hg := nextB_gt l p
   have hl := nextB_le l p hlt
   obtain ⟨h1, h2⟩ := ih (nextB l p) (by omega) hl
   rw [bnds_lt l p hlt]
   refine ⟨fun k hk => ?_, ?_⟩
   ·cases k with
    | zero => exact ⟨by simpa using hlt, by simp⟩
    | succ k =>
     have := h1 k (by simpa using hk)
     simpa using this
   ·simpa using h2
  ·rw [bnds_ge l p (by omega)]
   refine ⟨fun k hk => absurd hk (by simp), ?_⟩
   simp
   omega
noncomputable def mkb (C : List Int) (k : Nat) : Nat := (0 :: bnds C 0).getD k 0
noncomputable def nC (C : List Int) : Nat := (bnds C 0).length
theorem mk_zero (C : List Int) : mkb C 0 = 0 := rfl
theorem mk_step {C : List Int} {k : Nat} (h : k < nC C) : mkb C k < C.length /\ mkb C (k + 1) = nextB C (mkb C k) := (bnds_chain C C.length 0 (by omega) (by omega)).1 k h
theorem mk_last (C : List Int) : mkb C (nC C) = C.length := (bnds_chain C C.length 0 (by omega) (by omega)).2
theorem mk_lt {C : List Int} {k : Nat} (h : k < nC C) : mkb C k < mkb C (k + 1) := by rw [(mk_step h).2]; exact nextB_gt _ _
theorem mk_mono {C : List Int} {a b : Nat} (h : a <= b) (hb : b <= nC C) : mkb C a <= mkb C b := by
 induction b with
 | zero => rw [Nat.le_zero.1 h]; exact Nat.le_refl _
 | succ b ih =>
  rcases Nat.eq_or_lt_of_le h with h | h
  ·rw [h]; exact Nat.le_refl _
  ·exact Nat.le_of_lt (Nat.lt_of_le_of_lt (ih (by omega) (by omega)) (mk_lt (by omega)))
theorem mk_le {C : List Int} {k : Nat} (h : k <= nC C) : mkb C k <= C.length := by rw [<- mk_last]; exact mk_mono h (Nat.le_refl _)
theorem allB_len (C : List Int) : (allB C).length = nC C + 1 := by simp [allB, nC]
theorem allB_at {C : List Int} {k : Nat} (h : k <= nC C) : (allB C).getD k 0 = (mkb C k : Int) := by
 unfold allB mkb
 cases k with
 | zero => rfl
 | succ k =>
  have hk : k < (bnds C 0).length := h
  simp only [List.getD_cons_succ]
  rw [List.getD_eq_getElem?_getD, List.getD_eq_getElem?_getD, List.getElem?_map, List.getElem?_eq_getElem hk]
  rfl
theorem allB_bd {C : List Int} (h : C.length <= 1073741824) : ∀ x ∈ allB C, 0 <= x /\ x <= 1073741824 := by
 intro x hx
 obtain ⟨k, hk, rfl⟩ := List.getElem_of_mem hx
 rw [allB_len] at hk
 have e := allB_at (C := C) (k := k) (by omega)
 rw [List.getD_eq_getElem?_getD, List.getElem?_eq_getElem (by rw [allB_len]; exact hk)] at e
 simp only [Option.getD_some] at e
 have := mk_le (C := C) (k := k) (by omega)
 omega
theorem allB_sorted {C : List Int} (a b : Nat) (h : a <= b) (hb : b < (allB C).length) : (allB C).getD a 0 <= (allB C).getD b 0 := by
 rw [allB_len] at hb
 rw [allB_at (by omega), allB_at (by omega)]
 have := mk_mono (C := C) h (by omega)
 omega
theorem nC_le (C : List Int) : nC C <= C.length := by
 have h : ∀ k, k <= nC C -> k <= mkb C k := by
  intro k
  induction k with
  | zero => intro _; omega
  | succ k ih =>
   intro h
   have := ih (by omega)
   have := mk_lt (C := C) (k := k) (by omega)
   omega
 have := h (nC C) (Nat.le_refl _)
 rw [mk_last] at this
 exact this
structure InC (C : List Int) (r j : Nat) : Prop where
 le : j <= nC C
 low : mkb C j <= r
 high : ∀ k, j < k -> k <= nC C -> r < mkb C k
theorem InC.uniq {C : List Int} {r j j' : Nat} (h : InC C r j) (h' : InC C r j') : j = j' := by
 rcases Nat.lt_trichotomy j j' with hlt | e | hlt
 ·have := h.high j' hlt h'.le; have := h'.low; omega
 ·exact e
 ·have := h'.high j hlt h.le; have := h.low; omega
theorem column_mk (D : Nat -> Prop) (L : Ln) (i : Int) (C : List Int) (v : Array Value) (r : Nat) (w : World) (h : RowC w D L i C v) (hL : 0 <= L.from_ /\ L.from_ <= 1073741824) (hC : C.length <= 1073741824) :
  Calls Tryz.prog 115 #[.agg v, .int .i64 (L.from_ + (r : Int))] w fun e w' => (∃ j : Nat, e = .returned (.int .i64 (j : Int)) /\ InC C r j) /\ Below w.heap.size w w' := by
 have hn := nC_le C
 refine (column_any D L i C v _ w h hL (by rw [allB_len]; omega) (allB_bd hC) allB_sorted).mono ?_
 rintro e w' ⟨⟨j, rfl, hc⟩, hb⟩
 obtain ⟨h1, h2, h3⟩ := hc
 rw [allB_len] at h1 h3
 refine ⟨⟨j, rfl, by omega, ?_, fun k hk hk2 => ?_⟩, hb⟩
 ·rcases h2 with rfl | h2
  ·rw [mk_zero]; omega
  ·rw [allB_at (by omega)] at h2; omega
 ·have := h3 k hk (by omega)
  rw [allB_at (by omega)] at this
  omega
theorem place_mk (D : Nat -> Prop) (L : Ln) (i : Int) (C : List Int) (v : Array Value) (k : Nat) (w : World) (h : RowC w D L i C v) (hL : 0 <= L.from_ /\ L.from_ <= 1073741824) (hC : C.length <= 1073741824) (hk : k <= nC C) :
  Calls Tryz.prog 113 #[.agg v, .int .i64 (k : Int)] w fun e w' => e = .returned (.int .i64 (L.from_ + (mkb C k : Int))) /\ Below w.heap.size w w' := by
 have hn := nC_le C
 have := place_any D L i C v (k : Int) w h hL (by rw [allB_len]; omega) (allB_bd hC) (by omega) (by rw [allB_len]; omega)
 rw [Int.toNat_natCast, allB_at hk] at this
 exact this
noncomputable def kd (C : List Int) (k : Nat) : Int := wordF (C.getD (mkb C k) 0)
theorem clusters_mk (D : Nat -> Prop) (L : Ln) (i : Int) (C : List Int) (v : Array Value) (w : World) (h : RowC w D L i C v) (hC : C.length <= 1073741824) :
  Calls Tryz.prog 112 #[.agg v] w fun e w' => e = .returned (.int .i64 (nC C : Nat)) /\ Below w.heap.size w w' := by
 obtain ⟨A1, n1, c1, A2, n2, c2, rfl, h1, h2, h3, h4⟩ := h
 have hlen := h3.len
 have hn := nC_le C
 rw [allB_len] at hlen
 have := clusters_any L i A1 A2 n1 c1 n2 c2 w (by omega) (by omega)
 rw [show n2 - 1 = nC C by omega] at this
 exact this
theorem inC_ex {C : List Int} {r : Nat} (hr : r <= C.length) : ∃ j, InC C r j := by
 have key : ∀ n, n <= nC C -> ∃ j, j <= n /\ mkb C j <= r /\ ∀ k, j < k -> k <= n -> r < mkb C k := by
  intro n
  induction n with
  | zero => intro _; exact ⟨0, Nat.le_refl _, by rw [mk_zero]; omega, fun k h1 h2 => by omega⟩
  | succ n ih =>
   intro hn
   obtain ⟨j, h1, h2, h3⟩ := ih (by omega)
   rcases Nat.lt_or_ge r (mkb C (n + 1)) with h4 | h4
   ·refine ⟨j, by omega, h2, fun k hk hk2 => ?_⟩
    rcases Nat.eq_or_lt_of_le hk2 with e | e
    ·rw [e]; exact h4
    ·exact h3 k hk (by omega)
   ·exact ⟨n + 1, Nat.le_refl _, h4, fun k hk hk2 => by omega⟩
 obtain ⟨j, h1, h2, h3⟩ := key (nC C) (Nat.le_refl _)
 exact ⟨j, h1, h2, h3⟩
theorem rowc_of {w : World} {b : Nat} {L : Ln} {i : Int} {A1 A2 : Option Addr} {n1 c1 n2 c2 : Nat} (h : Blk w b 186 (rowV L i A1 n1 c1 A2 n2 c2)) :
  w.cell? ⟨b, 0, none⟩ = some (.int .i64 L.from_) /\ w.cell? ⟨b, 1, none⟩ = some (.int .i64 L.to_) /\ w.cell? ⟨b, 2, none⟩ = some (.int .i64 L.next) /\ w.cell? ⟨b, 3, none⟩ = some (.int .i64 L.brk) /\ w.cell? ⟨b, 4, none⟩ = some (.int .i64 i) /\
   w.cell? ⟨b, 5, none⟩ = some (.slice A1 n1 c1) /\ w.cell? ⟨b, 6, none⟩ = some (.slice A2 n2 c2) := (row_facts h).1
theorem place_neg (D : Nat -> Prop) (L : Ln) (i : Int) (C : List Int) (v : Array Value) (w : World) (h : RowC w D L i C v) (hL : 0 <= L.from_ /\ L.from_ <= 1073741824) (hn : (allB C).length <= 1073741825) (hB : ∀ x ∈ allB C, 0 <= x /\ x <= 1073741824) :
  Calls Tryz.prog 113 #[.agg v, .int .i64 (-1)] w fun e w' => e = .returned (.int .i64 (L.from_ + (allB C).getD 0 0)) /\ Below w.heap.size w w' := by
 obtain ⟨A1, n1, c1, A2, n2, c2, rfl, h1, h2, h3, h4⟩ := h
 obtain ⟨x0, x1, x2, x3⟩ := L
 dsimp only at hL ⊢
 have hlen := h3.len
 have hpos : 0 < (allB C).length := by simp [allB]
 obtain ⟨b, off, rfl, hD, hcell⟩ := ints_form h3 (by omega)
 have hc := hcell 0 (by omega)
 have hmb : 0 <= (allB C).getD 0 0 /\ (allB C).getD 0 0 <= 1073741824 := by
  rw [List.getD_eq_getElem?_getD, List.getElem?_eq_getElem (by omega)]
  exact hB _ (List.getElem_mem _)
 obtain ⟨m, hm⟩ : ∃ m, (allB C).getD 0 0 = m := ⟨_, rfl⟩
 rw [hm] at hc hmb ⊢
 rw [Nat.add_zero] at hc
 have hcl := fun (w' : World) => clusters_any ⟨x0, x1, x2, x3⟩ i A1 (some ⟨b, off, none⟩) n1 c1 n2 c2 w' (by omega) (by omega)
 obtain ⟨N, hN⟩ : ∃ N, n2 - 1 = N := ⟨_, rfl⟩
 rw [hN] at hcl
 have hjn : (0 : Int) < (n2 : Int) := by omega
 have hjn2 : 0 < n2 := by omega
 have hjn3 : ¬ n2 <= 0 := by omega
 have hjn4 : ¬ n2 = 0 := by omega
 have hwr : IntKind.i64.wrap (x0 + m) = x0 + m := IntWalk.i64_in _ (by omega)
 have hb0 := Blk.new w 186 (rowV ⟨x0, x1, x2, x3⟩ i A1 n1 c1 (some ⟨b, off, none⟩) n2 c2)
 obtain ⟨⟨g0, g1, g2, g3, g4, g5, g6⟩, _⟩ := row_facts hb0
 have hcw := cell_keep (balloc (o := .cells (rowV ⟨x0, x1, x2, x3⟩ i A1 n1 c1 (some ⟨b, off, none⟩) n2 c2) 186) (Below.refl _ w)) hc
 have hW : Below w.heap.size w (w.alloc (.cells (rowV ⟨x0, x1, x2, x3⟩ i A1 n1 c1 (some ⟨b, off, none⟩) n2 c2) 186)) := balloc (Below.refl _ w)
 unfold rowV at hcl g0 g1 g2 g3 g4 g5 g6 hcw hW
 dsimp only at hcl g0 g1 g2 g3 g4 g5 g6 hcw hW
 have HCL := Lib.hid hcl
 have HW := Lib.hid hW
 have hS := And.intro g0 (And.intro g1 (And.intro g2 (And.intro g3 (And.intro g4 (And.intro g5 (And.intro g6 hcw))))))
 clear hcl hm hN hlen hpos hcell hB hb0 h1 h3 hW
 ·have hz2 : ((N : Int) < 0) = False := by simp
  have hz4 : ((-1 : Int) < 0) = True := by simp
  unfold rowV
  go_enter Tryz.func113, Tryz.ntmps113
  go_upto_region 1 with fail
  go_cut [4] (fun s4 wx => s4 = .int .i64 (x0 + m) /\ Below w.heap.size w wx)
  case first =>
   have hSd := keep8 (Below.drew (Below.refl _ _)) hS
   go_region_held3 (fun w' => w'.cell? ⟨w.heap.size, 0, none⟩ = some (.int .i64 x0) /\ w'.cell? ⟨w.heap.size, 1, none⟩ = some (.int .i64 x1) /\ w'.cell? ⟨w.heap.size, 2, none⟩ = some (.int .i64 x2) /\ w'.cell? ⟨w.heap.size, 3, none⟩ = some (.int .i64 x3) /\ w'.cell? ⟨w.heap.size, 4, none⟩ = some (.int .i64 i) /\ w'.cell? ⟨w.heap.size, 5, none⟩ = some (.slice A1 n1 c1) /\ w'.cell? ⟨w.heap.size, 6, none⟩ = some (.slice (some ⟨b, off, none⟩) n2 c2) /\ w'.cell? ⟨b, off, none⟩ = some (.int .i64 m)) (first | (with_reducible assumption) | (with_reducible exact hSd)) (first | (go_at_call 112; refine (HCL.out _).mono ?_; rintro e w1 ⟨rfl, hb1⟩; have s1 := keep8 (bdrew hb1) hS))
   all_goals
    go_wp2_with fail
    go_meet
    exact ⟨rfl, bseq HW.out (bdrew hb1)⟩
  case rest =>
   obtain ⟨rfl, hb⟩ := hcut
   go_wp2_with fail
   go_ret
   exact ⟨rfl, hb⟩
def ClampOk (ds : List (Int × Int)) (at_ : Int) (j : Nat) : Prop :=
 if (lineF ds (rowIx ds at_ false)).to_ <= min (max at_ 0) (ds.length : Int) then j = nC (cont ds (rowIx ds at_ false)) - 1 else InC (cont ds (rowIx ds at_ false)) (min (max at_ 0) (ds.length : Int) - (lineF ds (rowIx ds at_ false)).from_).toNat j
theorem rowIx_from {ds : List (Int × Int)} (hp : PosD ds) (at_ : Int) : (lineF ds (rowIx ds at_ false)).from_ <= min (max at_ 0) (ds.length : Int) := by
 have hix := rowIx_le ds at_ false
 rw [line_from]
 have h1 : rowIx ds at_ false <= ofF ds at_ := by unfold rowIx; simp; omega
 have := line_sk_le hp (m := min at_.toNat ds.length) (k := rowIx ds at_ false) (by omega) hix h1
 omega
theorem clamp_gen (D : Nat -> Prop) (g : Nat) (enc : Int) (ds : List (Int × Int)) (at_ : Int) (w : World) (h : TextAt w D g enc ds) :
  Calls Tryz.prog 101 #[.pointer (some ⟨g, 0, none⟩), .int .i64 at_, .bool false] w fun e w' => ∃ j : Nat, e = .returned (.int .i64 ((lineF ds (rowIx ds at_ false)).from_ + (mkb (cont ds (rowIx ds at_ false)) j : Int))) /\ ClampOk ds at_ j /\ j <= nC (cont ds (rowIx ds at_ false)) /\ Below w.heap.size w w' := by
 have hp := h.pos
 have hfr := rowIx_from hp at_
 have hix := rowIx_le ds at_ false
 have hbd := lineF_bd hp hix
 have hcl := cont_len hp hix
 have hlen := h.len
 have hra := rowAt_any D g enc ds at_ false w h
 have hle := fun (wy : World) (hy : Below w.heap.size w wy) => len_any D g enc ds wy (h.below hy)
 unfold ClampOk
 obtain ⟨I, hI⟩ : ∃ I, rowIx ds at_ false = I := ⟨_, rfl⟩
 rw [hI] at hbd hcl hra hfr ⊢
 obtain ⟨L, hL⟩ : ∃ L, lineF ds I = L := ⟨_, rfl⟩
 obtain ⟨C, hC⟩ : ∃ C, cont ds I = C := ⟨_, rfl⟩
 rw [hL] at hbd hcl hra hfr ⊢
 rw [hC] at hcl hra ⊢
 obtain ⟨n, hn⟩ : ∃ n, ds.length = n := ⟨_, rfl⟩
 rw [hn] at hle hlen hbd hfr ⊢
 obtain ⟨p, hpp⟩ : ∃ p, min (max at_ 0) (n : Int) = p := ⟨_, rfl⟩
 rw [hpp] at hfr ⊢
 have hl0 : 0 <= L.from_ /\ L.from_ <= 1073741824 := by omega
 have hc0 : C.length <= 1073741824 := by omega
 have hcases : ((at_ < 0) = True /\ ((n : Int) < 0) = False /\ p = 0) \/ ((at_ < 0) = False /\ ((n : Int) < at_) = False /\ p = at_) \/ ((at_ < 0) = False /\ ((n : Int) < at_) = True /\ p = (n : Int)) := by
  simp only [eq_iff_iff, iff_true, iff_false]
  omega
 have hcr : p < L.to_ -> ∃ r : Nat, L.from_ + (r : Int) = p /\ (p - L.from_).toNat = r /\ ∃ j, InC C r j := fun hlt => by
  obtain ⟨j, hj⟩ := inC_ex (C := C) (r := (p - L.from_).toNat) (by omega)
  exact ⟨(p - L.from_).toNat, by omega, rfl, j, hj⟩
 have HRA := Lib.hid hra
 have HLE := Lib.hid hle
 have HCR := Lib.hid hcr
 clear hra hle hI hL hC hix hp hcl hbd h hn hcr hpp
 by_cases hpt : p < L.to_
 ·obtain ⟨r, hr, hr2, j, hj⟩ := HCR.out hpt
  have q5 : (L.to_ <= p) = False := by simp; omega
  have HR := Lib.hid hr
  have HJ := Lib.hid hj
  obtain ⟨P, hP⟩ : ∃ P, L.from_ + (mkb C j : Int) = P := ⟨_, rfl⟩
  have hjle := hj.le
  suffices hs : Calls Tryz.prog 101 #[.pointer (some ⟨g, 0, none⟩), .int .i64 at_, .bool false] w fun e w' => e = .returned (.int .i64 P) /\ Below w.heap.size w w' by
   refine hs.mono ?_
   rintro e w' ⟨rfl, hb⟩
   exact ⟨j, by rw [hP], by rw [if_neg (by omega), hr2]; exact hj, hjle, hb⟩
  have HP := Lib.hid hP
  clear hP hr hr2 hj hfr HCR hpt hjle
  rcases hcases with ⟨q1, q2, rfl⟩ | ⟨q1, q2, rfl⟩ | ⟨q1, q2, rfl⟩
  all_goals
   go_enter Tryz.func101, Tryz.ntmps101
   go_wp2_with fail
   refine (HRA.out).mono ?_
   rintro e w1 ⟨v, rfl, hrow, hb1⟩
   have hco := fun (wy : World) (hy : Below w1.heap.size w1 wy) => column_mk _ L I C v r wy (hrow.below hy) hl0 hc0
   have hpl := fun (wy : World) (hy : Below w1.heap.size w1 wy) => place_mk _ L I C v j wy (hrow.below hy) hl0 hc0 HJ.out.le
   rw [HR.out] at hco
   rw [HP.out] at hpl
   obtain ⟨A1, n1, c1, A2, n2, c2, rfl⟩ := first_v hrow
   have HCO := Lib.hid hco
   have HPL := Lib.hid hpl
   clear hco hrow hpl
   have hf := fun (wy : World) (hy : Below (w1.alloc (.cells (rowV L I A1 n1 c1 A2 n2 c2) 186)).heap.size (w1.alloc (.cells (rowV L I A1 n1 c1 A2 n2 c2) 186)) wy) => rowc_of ((Blk.new w1 186 (rowV L I A1 n1 c1 A2 n2 c2)).below hy)
   have hw1 : Below w1.heap.size w1 (w1.alloc (.cells (rowV L I A1 n1 c1 A2 n2 c2) 186)) := balloc (Below.refl _ _)
   obtain ⟨x0, x1, x2, x3⟩ := L
   unfold rowV at HCO HPL hf hw1 ⊢
   dsimp only at HCO HPL hf hl0 hw1 q5 ⊢
   have HF := Lib.hid hf
   clear hf
   go_wp2_with fail
   refine (HLE.out _ (bseq hb1 hw1)).mono ?_
   rintro e w2 ⟨rfl, hb2⟩
   obtain ⟨g0, g1, g2, g3, g4, g5, g6⟩ := HF.out _ hb2
   go_upto_region 7 with fail
   have hb3 := bseq hw1 hb2
   refine wp_region_steady (fun w' => Below w2.heap.size w2 w') (by kernel_rfl) (by kernel_rfl) (Below.drew (Below.refl _ _)) ?_
   repeat ((first
    | (refine wpSt_read (v := ?_) (by rfl) (fun w6 hSw => ?_) ?_; rotate_left; (· (obtain ⟨g0, g1, g2, g3, g4, g5, g6⟩ := HF.out _ (bseq hb2 hSw); go_simp; try with_reducible rfl)))
    | refine wpSt_not (by rfl) ?_
    | (refine wpSt_call (f := ?_) (args := ?_) (v := .int .i64 (j : Int)) (by rfl) (fun w6 hSw => ?_) (fun w6 hSw => ?_) ?_; rotate_left 2; (· (obtain ⟨g0, g1, g2, g3, g4, g5, g6⟩ := HF.out _ (bseq hb2 hSw); go_simp; first | done | (constructor <;> with_reducible rfl) | with_reducible rfl)); (· ((with_reducible refine (HCO.out _ (bseq hb3 hSw)).mono ?_); rintro e w5 ⟨⟨j', rfl, hj'⟩, hb5⟩; have hjj := hj'.uniq HJ.out; subst hjj; exact ⟨rfl, bseq hSw hb5⟩)))
    | (refine wpSt_call (f := ?_) (args := ?_) (v := .int .i64 P) (by rfl) (fun w6 hSw => ?_) (fun w6 hSw => ?_) ?_; rotate_left 2; (· (obtain ⟨g0, g1, g2, g3, g4, g5, g6⟩ := HF.out _ (bseq hb2 hSw); go_simp; first | done | (constructor <;> with_reducible rfl) | with_reducible rfl)); (· ((with_reducible refine (HPL.out _ (bseq hb3 hSw)).mono ?_); rintro e w5 ⟨rfl, hb5⟩; exact ⟨rfl, bseq hSw hb5⟩)))); (try simp only [Act.put, pA, pB, pC]))
   refine wpSt_nil ?_
   intro w4 hb4
   go_wp2_with fail
   go_ret
   exact ⟨rfl, bseq (bseq hb1 hb3) hb4⟩
 ·have q5 : (L.to_ <= p) = True := by simp; omega
  obtain ⟨P, hP⟩ : ∃ P, L.from_ + ((mkb C (nC C - 1) : Nat) : Int) = P := ⟨_, rfl⟩
  suffices hs : Calls Tryz.prog 101 #[.pointer (some ⟨g, 0, none⟩), .int .i64 at_, .bool false] w fun e w' => e = .returned (.int .i64 P) /\ Below w.heap.size w w' by
   refine hs.mono ?_
   rintro e w' ⟨rfl, hb⟩
   exact ⟨nC C - 1, by rw [<- hP], by rw [if_pos (by omega)], by omega, hb⟩
  have hnc := nC_le C
  obtain ⟨K, hK⟩ : ∃ K : Int, (nC C : Int) - 1 = K := ⟨_, rfl⟩
  have hwr : IntKind.i64.wrap ((nC C : Int) - 1) = K := by rw [IntWalk.i64_in _ (by omega), hK]
  have hpl0 : ∀ (v : Array Value) (wy : World) (D' : Nat -> Prop), RowC wy D' L I C v -> Calls Tryz.prog 113 #[.agg v, .int .i64 K] wy fun e w' => e = .returned (.int .i64 P) /\ Below wy.heap.size wy w' := fun v wy D' hrow => by
   rcases Nat.eq_zero_or_pos (nC C) with h0 | h0
   ·have hk1 : K = -1 := by omega
    have := place_neg D' L I C v wy hrow hl0 (by rw [allB_len]; omega) (allB_bd hc0)
    rw [allB_at (k := 0) (by omega), <- show nC C - 1 = 0 by omega, hP] at this
    rw [hk1]
    exact this
   ·have := place_mk D' L I C v (nC C - 1) wy hrow hl0 hc0 (by omega)
    rw [hP, show ((nC C - 1 : Nat) : Int) = K by omega] at this
    exact this
  obtain ⟨N, hN⟩ : ∃ N, nC C = N := ⟨_, rfl⟩
  have hcn := fun (v : Array Value) (wy : World) (D' : Nat -> Prop) (hrow : RowC wy D' L I C v) => clusters_mk D' L I C v wy hrow hc0
  rw [hN] at hcn hwr
  have HPL0 := Lib.hid hpl0
  have HCN := Lib.hid hcn
  have HWR := Lib.hid hwr
  clear hP hfr HCR hpt hpl0 hcn hnc hK hN hwr
  rcases hcases with ⟨q1, q2, rfl⟩ | ⟨q1, q2, rfl⟩ | ⟨q1, q2, rfl⟩
  all_goals
   go_enter Tryz.func101, Tryz.ntmps101
   go_wp2_with fail
   refine (HRA.out).mono ?_
   rintro e w1 ⟨v, rfl, hrow, hb1⟩
   have hco := fun (wy : World) (hy : Below w1.heap.size w1 wy) => HCN.out v wy _ (hrow.below hy)
   have hpl := fun (wy : World) (hy : Below w1.heap.size w1 wy) => HPL0.out v wy _ (hrow.below hy)
   obtain ⟨A1, n1, c1, A2, n2, c2, rfl⟩ := first_v hrow
   have HCO := Lib.hid hco
   have HPL := Lib.hid hpl
   clear hco hrow hpl
   have hf := fun (wy : World) (hy : Below (w1.alloc (.cells (rowV L I A1 n1 c1 A2 n2 c2) 186)).heap.size (w1.alloc (.cells (rowV L I A1 n1 c1 A2 n2 c2) 186)) wy) => rowc_of ((Blk.new w1 186 (rowV L I A1 n1 c1 A2 n2 c2)).below hy)
   have hw1 : Below w1.heap.size w1 (w1.alloc (.cells (rowV L I A1 n1 c1 A2 n2 c2) 186)) := balloc (Below.refl _ _)
   obtain ⟨x0, x1, x2, x3⟩ := L
   unfold rowV at HCO HPL hf hw1 ⊢
   dsimp only at HCO HPL hf hl0 hw1 q5 ⊢
   have HF := Lib.hid hf
   clear hf
   go_wp2_with fail
   refine (HLE.out _ (bseq hb1 hw1)).mono ?_
   rintro e w2 ⟨rfl, hb2⟩
   obtain ⟨g0, g1, g2, g3, g4, g5, g6⟩ := HF.out _ hb2
   go_upto_region 6 with fail
   have hb3 := bseq hw1 hb2
   have hwr := HWR.out
   refine wp_region_steady (fun w' => Below w2.heap.size w2 w') (by kernel_rfl) (by kernel_rfl) (Below.drew (Below.refl _ _)) ?_
   repeat ((first
    | (refine wpSt_read (v := ?_) (by rfl) (fun w6 hSw => ?_) ?_; rotate_left; (· (obtain ⟨g0, g1, g2, g3, g4, g5, g6⟩ := HF.out _ (bseq hb2 hSw); go_simp; try with_reducible rfl)))
    | refine wpSt_not (by rfl) ?_
    | (refine wpSt_call (f := ?_) (args := ?_) (v := .int .i64 (N : Int)) (by rfl) (fun w6 hSw => ?_) (fun w6 hSw => ?_) ?_; rotate_left 2; (· (obtain ⟨g0, g1, g2, g3, g4, g5, g6⟩ := HF.out _ (bseq hb2 hSw); go_simp; first | done | (constructor <;> with_reducible rfl) | with_reducible rfl)); (· ((with_reducible refine (HCO.out _ (bseq hb3 hSw)).mono ?_); rintro e w5 ⟨rfl, hb5⟩; exact ⟨rfl, bseq hSw hb5⟩)))
    | (refine wpSt_call (f := ?_) (args := ?_) (v := .int .i64 P) (by rfl) (fun w6 hSw => ?_) (fun w6 hSw => ?_) ?_; rotate_left 2; (· (obtain ⟨g0, g1, g2, g3, g4, g5, g6⟩ := HF.out _ (bseq hb2 hSw); go_simp; first | done | (constructor <;> with_reducible rfl) | with_reducible rfl)); (· ((with_reducible refine (HPL.out _ (bseq hb3 hSw)).mono ?_); rintro e w5 ⟨rfl, hb5⟩; exact ⟨rfl, bseq hSw hb5⟩)))); (try simp only [Act.put, pA, pB, pC]))
   refine wpSt_nil ?_
   intro w4 hb4
   go_wp2_with fail
   go_ret
   exact ⟨rfl, bseq (bseq hb1 hb3) hb4⟩
theorem RowC.fr {w w' : World} {D S : Nat -> Prop} {L : Ln} {i : Int} {C : List Int} {v : Array Value} (h : RowC w D L i C v) (hb : Fr S w w') (hn : ∀ b, D b -> b < w.heap.size -> ¬ S b) : RowC w' D L i C v := by
 obtain ⟨A1, n1, c1, A2, n2, c2, e, h1, h2, h3, h4⟩ := h
 exact ⟨A1, n1, c1, A2, n2, c2, e, Reads.fr h1 hb hn, h2, Reads.fr h3 hb hn, h4⟩
def mvV (g : Nat) (s c k : Int) (cn : Bool) (arg goal : Int) (r0 r1 r2 r3 r4 r5 r6 : Value) : Array Value :=
 #[.pointer (some ⟨g, 0, none⟩), .int .i64 s, .int .i64 c, .int .i64 k, .bool cn, .int .i64 arg, .int .i64 goal, .bool false, .bool false, r0, r1, r2, r3, r4, r5, r6]
def MvAt (w : World) (m g : Nat) (s k : Int) : Prop := ∃ c cn arg goal r0 r1 r2 r3 r4 r5 r6, Blk w m 243 (mvV g s c k cn arg goal r0 r1 r2 r3 r4 r5 r6)
theorem MvAt.facts {w : World} {m g : Nat} {s k : Int} (h : MvAt w m g s k) :
  (w.cell? ⟨m, 0, none⟩ = some (.pointer (some ⟨g, 0, none⟩)) /\ w.cell? ⟨m, 1, none⟩ = some (.int .i64 s) /\ w.cell? ⟨m, 3, none⟩ = some (.int .i64 k) /\ w.cell? ⟨m, 7, none⟩ = some (.bool false) /\ w.cell? ⟨m, 8, none⟩ = some (.bool false)) /\ w.frozen? ⟨m, 3, none⟩ = false := by
 obtain ⟨c, cn, arg, goal, r0, r1, r2, r3, r4, r5, r6, hb⟩ := h
 exact ⟨⟨hb.cell 0, hb.cell 1, hb.cell 3, hb.cell 7, hb.cell 8⟩, hb.frozen 3⟩
theorem MvAt.below {w w' : World} {m g : Nat} {s k : Int} (h : MvAt w m g s k) (hb : Below w.heap.size w w') : MvAt w' m g s k := by
 obtain ⟨c, cn, arg, goal, r0, r1, r2, r3, r4, r5, r6, h⟩ := h
 exact ⟨c, cn, arg, goal, r0, r1, r2, r3, r4, r5, r6, h.below hb⟩
theorem Column_any (D : Nat -> Prop) (g : Nat) (enc : Int) (ds : List (Int × Int)) (at_ : Int) (w : World) (h : TextAt w D g enc ds) :
  Calls Tryz.prog 56 #[.pointer (some ⟨g, 0, none⟩), .int .i64 at_] w fun e w' => (∃ j : Nat, e = .returned (.int .i64 (j : Int))) /\ Below w.heap.size w w' := by
 have hp := h.pos
 have hix := rowIx_le ds at_ true
 have hbd := lineF_bd hp hix
 have hcl := cont_len hp hix
 have hlen := h.len
 have hra := rowAt_any D g enc ds at_ true w h
 obtain ⟨I, hI⟩ : ∃ I, rowIx ds at_ true = I := ⟨_, rfl⟩
 rw [hI] at hbd hcl hra
 obtain ⟨L, hL⟩ : ∃ L, lineF ds I = L := ⟨_, rfl⟩
 obtain ⟨C, hC⟩ : ∃ C, cont ds I = C := ⟨_, rfl⟩
 rw [hL] at hbd hcl hra
 rw [hC] at hcl hra
 have hl0 : 0 <= L.from_ /\ L.from_ <= 1073741824 := by omega
 have hc0 : C.length <= 1073741824 := by omega
 have hn := nC_le C
 have HRA := Lib.hid hra
 clear hra hI hL hC hix hp hcl hbd h
 go_enter Tryz.func56, Tryz.ntmps56
 go_wp2_with fail
 refine (HRA.out).mono ?_
 rintro e w1 ⟨v, rfl, hrow, hb1⟩
 have hco := fun (wy : World) (hy : Below w1.heap.size w1 wy) => column_any _ L I C v at_ wy (hrow.below hy) hl0 (by rw [allB_len]; omega) (allB_bd hc0) allB_sorted
 obtain ⟨A1, n1, c1, A2, n2, c2, rfl⟩ := first_v hrow
 have HCO := Lib.hid hco
 clear hco hrow
 obtain ⟨x0, x1, x2, x3⟩ := L
 obtain ⟨g0, _⟩ := row_facts (Blk.new w1 186 (rowV ⟨x0, x1, x2, x3⟩ I A1 n1 c1 A2 n2 c2))
 have hw1 : Below w1.heap.size w1 (w1.alloc (.cells (rowV ⟨x0, x1, x2, x3⟩ I A1 n1 c1 A2 n2 c2) 186)) := balloc (Below.refl _ _)
 unfold rowV at HCO g0 hw1 ⊢
 dsimp only at HCO g0 hl0 hw1 ⊢
 obtain ⟨g0, g1, g2, g3, g4, g5, g6⟩ := g0
 go_wp2_with fail
 refine (HCO.out _ hw1).mono ?_
 rintro e w2 ⟨⟨j, rfl, _⟩, hb2⟩
 go_wp2_with fail
 go_ret
 exact ⟨⟨j, rfl⟩, bseq hb1 (bseq hw1 hb2)⟩
theorem mat_any (D : Nat -> Prop) (m g : Nat) (enc : Int) (ds : List (Int × Int)) (s k off kind : Int) (w : World) (hm : MvAt w m g s k) (h : TextAt w D g enc ds) :
  Calls Tryz.prog 185 #[.pointer (some ⟨m, 0, none⟩), .int .i64 off, .int .i64 kind] w fun e w' => (∃ j : Nat, e = .returned (.tuple #[.agg #[.int .i64 off, .int .i64 kind, .int .i64 (j : Int)], .int .i64 0])) /\ Below w.heap.size w w' := by
 have hco := fun (wy : World) (hy : Below w.heap.size w wy) => Column_any D g enc ds off wy (h.below hy)
 have hmm := fun (wy : World) (hy : Below w.heap.size w wy) => (hm.below hy).facts.1
 have HCO := Lib.hid hco
 have HM := Lib.hid hmm
 clear hco hm h hmm
 have hw1 : Below w.heap.size w (w.alloc (.cells #[.int .i64 0, .int .i64 0, .int .i64 0] 175)) := balloc (Below.refl _ _)
 have hB := Blk.new w 175 #[.int .i64 0, .int .i64 0, .int .i64 0]
 go_enter Tryz.func185, Tryz.ntmps185
 obtain ⟨g0, _⟩ := HM.out _ hw1
 go_wp2_with fail
 refine (HCO.out _ hw1).mono ?_
 rintro e w2 ⟨⟨j, rfl⟩, hb2⟩
 have hB2 := hB.below hb2
 have c0 := hB2.cell 0
 have c1 := hB2.cell 1
 have c2 := hB2.cell 2
 have f0 := hB2.frozen 0
 have f1 := hB2.frozen 1
 have f2 := hB2.frozen 2
 simp at c0 c1 c2
 go_wp2_with fail
 have hB3 := ((hB2.set_ 0 (.int .i64 off)).set_ 1 (.int .i64 kind)).set_ 2 (.int .i64 (j : Int))
 have d0 := hB3.cell 0
 have d1 := hB3.cell 1
 have d2 := hB3.cell 2
 simp at d0 d1 d2
 have hW : Below w.heap.size w (((w2.setCell ⟨w.heap.size, 0, none⟩ (.int .i64 off)).setCell ⟨w.heap.size, 1, none⟩ (.int .i64 kind)).setCell ⟨w.heap.size, 2, none⟩ (.int .i64 (j : Int))) :=
  (((bseq hw1 hb2).setCell (Nat.le_refl _) _).setCell (Nat.le_refl _) _).setCell (Nat.le_refl _) _
 refine bodyPost_ret (v := .tuple #[.agg #[.int .i64 off, .int .i64 kind, .int .i64 (j : Int)], .int .i64 0]) (by simp [results, Tryz.results185, go_sem, d0, d1, d2]) rfl ⟨⟨j, rfl⟩, hW⟩
theorem land_ret {w : World} {q : Nat} {x y z u0 u1 u2 : Int} (hB : Blk w q 175 #[.int .i64 u0, .int .i64 u1, .int .i64 u2]) :
  (((w.setCell ⟨q, 0, none⟩ (.int .i64 x)).setCell ⟨q, 1, none⟩ (.int .i64 y)).setCell ⟨q, 2, none⟩ (.int .i64 z)).cell? ⟨q, 0, none⟩ = some (.int .i64 x) /\
  (((w.setCell ⟨q, 0, none⟩ (.int .i64 x)).setCell ⟨q, 1, none⟩ (.int .i64 y)).setCell ⟨q, 2, none⟩ (.int .i64 z)).cell? ⟨q, 1, none⟩ = some (.int .i64 y) /\
  (((w.setCell ⟨q, 0, none⟩ (.int .i64 x)).setCell ⟨q, 1, none⟩ (.int .i64 y)).setCell ⟨q, 2, none⟩ (.int .i64 z)).cell? ⟨q, 2, none⟩ = some (.int .i64 z) := by
 have hB3 := ((hB.set_ 0 (.int .i64 x)).set_ 1 (.int .i64 y)).set_ 2 (.int .i64 z)
 have d0 := hB3.cell 0
 have d1 := hB3.cell 1
 have d2 := hB3.cell 2
 simp at d0 d1 d2
 exact ⟨d0, d1, d2⟩
theorem land_facts {w : World} {q : Nat} {u0 u1 u2 : Int} (hB : Blk w q 175 #[.int .i64 u0, .int .i64 u1, .int .i64 u2]) :
  w.cell? ⟨q, 0, none⟩ = some (.int .i64 u0) /\ w.cell? ⟨q, 1, none⟩ = some (.int .i64 u1) /\ w.cell? ⟨q, 2, none⟩ = some (.int .i64 u2) /\ w.frozen? ⟨q, 0, none⟩ = false /\ w.frozen? ⟨q, 1, none⟩ = false /\ w.frozen? ⟨q, 2, none⟩ = false :=
 ⟨hB.cell 0, hB.cell 1, hB.cell 2, hB.frozen 0, hB.frozen 1, hB.frozen 2⟩
theorem below_set3 {W w : World} {q : Nat} {x y z : Value} (h : Below W.heap.size W w) (hq : W.heap.size <= q) :
  Below W.heap.size W (((w.setCell ⟨q, 0, none⟩ x).setCell ⟨q, 1, none⟩ y).setCell ⟨q, 2, none⟩ z) := ((h.setCell hq _).setCell hq _).setCell hq _
def LandPost (X T : Int) (w : World) (e : Ending) (w' : World) : Prop := (∃ col : Nat, e = .returned (.tuple #[.agg #[.int .i64 T, .int .i64 X, .int .i64 (col : Int)], .int .i64 0])) /\ Below w.heap.size w w'
theorem cell_alloc1 {w : World} {p : Addr} {u : Value} (o : Obj) (h : w.cell? p = some u) : (w.alloc o).cell? p = some u := cell_keep (balloc (Below.refl _ _)) h
theorem mv_row {w : World} {m g : Nat} {s c k arg goal : Int} {cn : Bool} {r0 r1 r2 r3 r4 r5 r6 : Value} (h : Blk w m 243 (mvV g s c k cn arg goal r0 r1 r2 r3 r4 r5 r6)) :
  (w.cell? ⟨m, 9, none⟩ = some r0 /\ w.cell? ⟨m, 10, none⟩ = some r1 /\ w.cell? ⟨m, 11, none⟩ = some r2 /\ w.cell? ⟨m, 12, none⟩ = some r3 /\ w.cell? ⟨m, 13, none⟩ = some r4 /\ w.cell? ⟨m, 14, none⟩ = some r5 /\ w.cell? ⟨m, 15, none⟩ = some r6) /\
   (w.cell? ⟨m, 2, none⟩ = some (.int .i64 c) /\ w.cell? ⟨m, 8, none⟩ = some (.bool false)) /\ w.frozen? ⟨m, 2, none⟩ = false /\ w.frozen? ⟨m, 8, none⟩ = false :=
 ⟨⟨h.cell 9, h.cell 10, h.cell 11, h.cell 12, h.cell 13, h.cell 14, h.cell 15⟩, ⟨h.cell 2, h.cell 8⟩, h.frozen 2, h.frozen 8⟩
theorem rowPost_flat {x0 x1 x2 x3 I : Int} {C : List Int} {w w' : World} {e : Ending} (h : RowPost ⟨x0, x1, x2, x3⟩ I C w e w') :
  ∃ A1 n1 c1 A2 n2 c2, e = .returned (.agg #[.int .i64 x0, .int .i64 x1, .int .i64 x2, .int .i64 x3, .int .i64 I, .slice A1 n1 c1, .slice A2 n2 c2]) /\
   RowC w' (fun b => w.heap.size <= b) ⟨x0, x1, x2, x3⟩ I C #[.int .i64 x0, .int .i64 x1, .int .i64 x2, .int .i64 x3, .int .i64 I, .slice A1 n1 c1, .slice A2 n2 c2] /\ Below w.heap.size w w' := by
 obtain ⟨v, h1, h2, h3⟩ := h
 obtain ⟨A1, n1, c1, A2, n2, c2, rfl⟩ := first_v h2
 exact ⟨A1, n1, c1, A2, n2, c2, h1, h2, h3⟩
end Go.Proofs.YtkocknfhdojmbaaGreat
