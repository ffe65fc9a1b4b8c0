/-
  The document's desk: copyistref6.Native, copyistref12.New.
-/
import Derived.Test.YteekabaoocaghaaGreatLRf6
set_option linter.unusedSimpArgs false
set_option linter.unusedVariables false
namespace Go.Proofs.YteekabaoocaghaaGreat
open Go.RowKit

set_option maxRecDepth 100000 in
set_option maxHeartbeats 1000000 in
theorem rnative_any (D : Nat → Prop) (A : Option Addr) (n c : Nat) (l : List Int) (fb : Int) (w : World) (hl : Ints w D A n l) (hn : n ≤ 1073741824) :
    Calls Tryz.prog 51 #[.slice A n c, .int .i64 fb] w fun e w' => e = .returned (.int .i64 (natF l fb)) ∧ Below w.heap.size w w' := by
  have hc := rall_any D A n c l w hl hn
  obtain ⟨L, ls, hL, hbr⟩ := allG_head l 0 0
  have hfin : natF l fb = if L.brk = 0 then fb else L.brk := by unfold natF; rw [hbr]
  rw [hfin]
  have HC := Lib.hid hc
  have HL := Lib.hid hL
  obtain ⟨x0, x1, x2, x3⟩ := L
  dsimp only
  clear hc hL hbr hfin
  go_enter Tryz.func51, Tryz.ntmps51
  go_wp2_with fail
  refine (HC.out).mono ?_
  rintro e w1 ⟨v, N, rfl, hown, hb1⟩
  rw [HL.out] at hown
  obtain ⟨g, cap, rfl, _, _⟩ := hown.form (by simp)
  have c3 := hown.cells (g := g) rfl 3 (.int .i64 x3) rfl
  rw [add_pos _ 3 (by omega)] at c3
  simp only [Nat.zero_add] at c3
  obtain ⟨m, hm⟩ : ∃ m, (Ln.mk x0 x1 x2 x3 :: ls).length = m + 1 := ⟨ls.length, rfl⟩
  rw [hm]
  have hm0 : ((0 : Nat) : Int) < ((m + 1 : Nat) : Int) := by omega
  have hm1 : 0 < m + 1 := by omega
  clear hown hm
  by_cases h0 : x3 = 0
  · have q : (x3 != 0) = false := by simp [h0]
    go_wp2_with fail
    go_ret
    exact ⟨rfl, hb1⟩
  · have q : (x3 != 0) = true := by rw [bne_iff_ne]; exact h0
    go_wp2_with fail
    go_ret
    exact ⟨rfl, hb1⟩
/-! ### copyistref12.New -/
def RDeskAt (w : World) (gd gb gk : Nat) (native : Int) : Prop :=
  Blk w gd 106 #[.pointer (some ⟨gb, 0, none⟩), .pointer (some ⟨gk, 0, none⟩), .int .i64 0, .slice none 0 0, .slice none 0 0, .slice none 0 0, .int .i64 0, .bool false, .bool false, .int .i64 native]
/-- the document's new desk -/
structure RNewDesk (B : Nat) (enc lim native depth : Int) (l : List Int) (w' : World) (gd gb gt gk : Nat) (ld : Value) : Prop where
  desk : RDeskAt w' gd gb gk (natF ((dec enc l).map Prod.fst) native)
  book : Blk w' gb 117 (rbookC enc lim depth gt ld)
  loaded : w'.ownsRow B 5 1 ld l.length (l.map (Value.int .u8))
  text : RText w' B gt enc lim ((dec enc l).map Prod.fst) ((tagF 0 0 (dec enc l)).map Prod.snd)
  ge : B ≤ gd ∧ B ≤ gb ∧ B ≤ gt ∧ B ≤ gk
def RNewPost (enc lim native depth : Int) (l : List Int) (w : World) (e : Ending) (w' : World) : Prop :=
  ∃ gd gb gt gk ld, e = .returned (.tuple #[.pointer (some ⟨gd, 0, none⟩), .int .i64 0]) ∧ RNewDesk w.heap.size enc lim native depth l w' gd gb gt gk ld ∧ Below w.heap.size w w'
theorem RText.set_ {w : World} {B g i k : Nat} {enc lim : Int} {a t : List Int} {T : TypeId} {cs : Array Value} {u : Value} (h : RText w B g enc lim a t) (hb : Blk w k T cs) (h1 : T ≠ 109) (h2 : T ≠ 3) : RText (w.setCell ⟨k, i, none⟩ u) B g enc lim a t := by
  obtain ⟨va, vt, t1, t2, t3⟩ := h
  exact ⟨va, vt, Blk.far t1 (fun e => Blk.ne_ hb t1 h1 e.symm) _, own_set_other t2 hb h2.symm, own_set_other t3 hb h2.symm⟩
set_option maxRecDepth 100000 in
set_option maxHeartbeats 2000000 in
theorem r12new_any (enc lim native depth : Int) (D : Nat → Prop) (A : Option Addr) (n c : Nat) (l : List Int) (w : World) (hl : Bts w D A n l) (hB : Byt l) (hcap : n ≤ c) (h0 : newErr enc lim native depth n = 0) :
    Calls Tryz.prog 17 #[.int .i64 enc, .slice A n c, .int .i64 lim, .int .i64 native, .int .i64 depth] w fun e w' => RNewPost enc lim native depth l w e w' := by
  have hd : ¬ (native < 1 ∨ 3 < native) := by
    intro h
    unfold newErr at h0
    rw [if_pos h] at h0
    cases h0
  have ho : bookErr enc lim depth n = 0 := by
    unfold newErr at h0
    rw [if_neg hd] at h0
    exact h0
  have hc := r7open_any enc lim depth D A n c l w hl hB hcap ho
  have q0 : (native < 1) = False := by simp; omega
  have q1 : (3 < native) = False := by simp; omega
  have hlen : ((dec enc l).map Prod.fst).length ≤ 1073741824 := by
    have h1 := (openErr_ok (by unfold bookErr at ho; split at ho; cases ho; exact ho)).2
    have h2 := (sumsOf_good' (dec_pos enc l))
    have h3 := sumsOf_bytes enc l
    have h4 := hl.len
    rw [List.length_map]
    obtain ⟨⟨_, _, h5, _⟩, h6, _⟩ := h2
    omega
  have HC := Lib.hid hc
  clear hc ho h0 hd
  go_enter Tryz.func17, Tryz.ntmps17
  go_wp2_with fail
  refine (HC.out).mono ?_
  rintro e w1 ⟨gb, gt, ld, rfl, hbk, hld, hT, h1, h2, hb1⟩
  go_wp2_with fail
  refine (rbank_any w1).mono ?_
  rintro e w2 ⟨gk, rfl, h4, hb2⟩
  have hs1 := hb1.size
  have hs2 := hb2.size
  have hbk2 := (hbk.below hb2).alloc (.cells #[.pointer (some ⟨gb, 0, none⟩), .pointer (some ⟨gk, 0, none⟩), .int .i64 0, .slice none 0 0, .slice none 0 0, .slice none 0 0, .int .i64 0, .bool false, .bool false, .int .i64 0] 106)
  have hD := Blk.new w2 106 #[.pointer (some ⟨gb, 0, none⟩), .pointer (some ⟨gk, 0, none⟩), .int .i64 0, .slice none 0 0, .slice none 0 0, .slice none 0 0, .int .i64 0, .bool false, .bool false, .int .i64 0]
  have hb3 : Below w2.heap.size w2 (w2.alloc (.cells #[.pointer (some ⟨gb, 0, none⟩), .pointer (some ⟨gk, 0, none⟩), .int .i64 0, .slice none 0 0, .slice none 0 0, .slice none 0 0, .int .i64 0, .bool false, .bool false, .int .i64 0] 106)) := balloc (Below.refl _ _)
  have hT3 := (hT.below hb2).below hb3
  have hll := ownsRow_below (ownsRow_below hld hb2) hb3
  have HLL := Lib.hid hll
  have HT3 := Lib.hid hT3
  obtain ⟨va, vt, t1, t2, t3⟩ := hT3
  obtain ⟨A', c', rfl, hc'⟩ := own_slice t2
  have b4 := hbk2.cell 4
  have t4 := Blk.cell t1 2
  simp [rbookC] at b4
  simp at t4
  have hI := Reads.of_own t2
  have hn := fun (w' : World) (hb : Below _ _ w') => rnative_any _ A' ((dec enc l).map Prod.fst).length c' ((dec enc l).map Prod.fst) native w' (Reads.below hI hb) hlen
  obtain ⟨N, hN⟩ : ∃ N, natF ((dec enc l).map Prod.fst) native = N := ⟨_, rfl⟩
  rw [hN] at hn
  simp only [List.length_map] at hn
  have HN := Lib.hid hn
  have HNN := Lib.hid hN
  have HD := Lib.hid hD
  have HBK := Lib.hid hbk2
  have HB3 := Lib.hid hb3
  clear hn hN hll t1 t2 t3 hI hc' hlen hD hbk2 hb3 hT hld
  go_wp2_with fail
  have hb3 := HB3.out
  have hD := HD.out
  have hbk2 := HBK.out
  have hnn := HN.out _ (Below.refl _ _)
  refine (hnn).mono ?_
  rintro e w4 ⟨rfl, hb4⟩
  have hD4 := hD.below hb4
  have f9 := hD4.frozen 9
  have c9 := hD4.cell 9
  simp at c9
  go_wp2_with fail
  go_ret2
  have hbw4 : Below w.heap.size w w4 := bseq (bseq (bseq hb1 hb2) hb3) hb4
  refine ⟨w2.heap.size, gb, gt, gk, ld, rfl, ⟨?_, ?_, ?_, ?_, by omega⟩, hbw4.setCell (by simp; omega) _⟩
  · rw [HNN.out]
    exact hD4.set_ 9 _
  · exact (hbk2.below hb4).far (by have := (hbk.below hb2).lt; simp; omega) _
  · exact own_set_other (ownsRow_below HLL.out hb4) hD4 (by decide)
  · exact RText.set_ (HT3.out.below hb4) hD4 (by decide) (by decide)
set_option maxRecDepth 100000 in
set_option maxHeartbeats 1000000 in
theorem r12new_err (enc lim native depth : Int) (A : Option Addr) (n c : Nat) (w : World) (h0 : newErr enc lim native depth n ≠ 0) :
    Calls Tryz.prog 17 #[.int .i64 enc, .slice A n c, .int .i64 lim, .int .i64 native, .int .i64 depth] w fun e w' => e = .returned (.tuple #[.pointer none, .int .i64 (newErr enc lim native depth n)]) ∧ w = w' := by
  by_cases hd : native < 1 ∨ 3 < native
  · have e1 : newErr enc lim native depth n = 1 := by unfold newErr; rw [if_pos hd]
    rw [e1]
    clear e1 h0
    have h1' : (native < 1) = True ∨ (native < 1) = False ∧ (3 < native) = True := by simp; omega
    rcases h1' with q | ⟨q, q'⟩
    all_goals
      clear hd
      go_enter Tryz.func17, Tryz.ntmps17
      go_wp2_with fail
      go_ret2
      exact ⟨rfl, rfl⟩
  · have e1 : newErr enc lim native depth n = bookErr enc lim depth n := by unfold newErr; rw [if_neg hd]
    rw [e1] at h0 ⊢
    have hc := r7open_err enc lim depth A n c w h0
    have q0 : (native < 1) = False := by simp; omega
    have q1 : (3 < native) = False := by simp; omega
    obtain ⟨E, hE⟩ : ∃ E, bookErr enc lim depth n = E := ⟨_, rfl⟩
    rw [hE] at hc h0 ⊢
    have q2 : (E != 0) = true := by rw [bne_iff_ne]; exact h0
    have HC := Lib.hid hc
    clear hc e1 hd hE
    go_enter Tryz.func17, Tryz.ntmps17
    go_wp2_with fail
    refine (HC.out).mono ?_
    rintro e w1 ⟨rfl, rfl⟩
    go_wp2_with fail
    go_ret2
    exact ⟨rfl, rfl⟩
set_option maxRecDepth 100000 in
set_option maxHeartbeats 1000000 in
theorem onew_err (enc lim native depth : Int) (A : Option Addr) (n c : Nat) (w : World) (h0 : newErr enc lim native depth n ≠ 0) :
    Calls Tryz.prog 18 #[.int .i64 enc, .slice A n c, .int .i64 lim, .int .i64 native, .int .i64 depth] w fun e w' => e = .returned (.tuple #[.pointer none, .int .i64 (newErr enc lim native depth n)]) ∧ w = w' := by
  by_cases hd : native < 1 ∨ 3 < native
  · have e1 : newErr enc lim native depth n = 1 := by unfold newErr; rw [if_pos hd]
    rw [e1]
    clear e1 h0
    have h1' : (native < 1) = True ∨ (native < 1) = False ∧ (3 < native) = True := by simp; omega
    rcases h1' with q | ⟨q, q'⟩
    all_goals
      clear hd
      go_enter Tryz.func18, Tryz.ntmps18
      go_wp2_with fail
      go_ret2
      exact ⟨rfl, rfl⟩
  · have e1 : newErr enc lim native depth n = bookErr enc lim depth n := by unfold newErr; rw [if_neg hd]
    rw [e1] at h0 ⊢
    have hc := hopen_err enc lim depth A n c w h0
    have q0 : (native < 1) = False := by simp; omega
    have q1 : (3 < native) = False := by simp; omega
    obtain ⟨E, hE⟩ : ∃ E, bookErr enc lim depth n = E := ⟨_, rfl⟩
    rw [hE] at hc h0 ⊢
    have q2 : (E != 0) = true := by rw [bne_iff_ne]; exact h0
    have HC := Lib.hid hc
    clear hc e1 hd hE
    go_enter Tryz.func18, Tryz.ntmps18
    go_wp2_with fail
    refine (HC.out).mono ?_
    rintro e w1 ⟨rfl, rfl⟩
    go_wp2_with fail
    go_ret2
    exact ⟨rfl, rfl⟩
end Go.Proofs.YteekabaoocaghaaGreat
