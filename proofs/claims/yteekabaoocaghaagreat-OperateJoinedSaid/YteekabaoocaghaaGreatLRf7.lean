/-
  The document's book and desk: copyistref7.Open, copyistref6.All and Native, copyistref11.New, copyistref12.New.
-/
import Derived.Test.YteekabaoocaghaaGreatLSame
import Derived.Deep.AppendLies
import Derived.Deep.RegionLaw
set_option linter.unusedSimpArgs false
set_option linter.unusedVariables false
namespace Go.Proofs.YteekabaoocaghaaGreat
open Go.RowKit

def RBankPost (w : World) (e : Ending) (w' : World) : Prop := ∃ g, e = .returned (.pointer (some ⟨g, 0, none⟩)) ∧ w.heap.size ≤ g ∧ Below w.heap.size w w'
set_option maxRecDepth 100000 in
theorem rbank_any (w : World) : Calls Tryz.prog 50 #[] w fun e w' => RBankPost w e w' := by
  go_enter Tryz.func50, Tryz.ntmps50
  go_wp2_with fail
  go_ret
  exact ⟨_, rfl, Nat.le_refl _, balloc (Below.refl _ _)⟩

/-! ### copyistref7.Open -/
/-- the document's book, as it begins -/
def rbookC (enc lim depth : Int) (gt : Nat) (ld : Value) : Array Value :=
  #[.int .i64 enc, .int .i64 lim, .int .i64 depth, ld, .pointer (some ⟨gt, 0, none⟩), .slice none 0 0, .slice none 0 0, .int .i64 0, .slice none 0 0, .slice none 0 0, .bool false, .slice none 0 0, .int .i64 0, .int .i64 0, .int .i64 0, .slice none 0 0, .slice none 0 0, .int .i64 0, .int .i64 0]
def R7R (enc lim depth : Int) (l : List Int) (gt gb : Nat) (wb : World) (k : Nat) (q13 : Value) (wr : World) : Prop :=
  ∃ (i : Nat) (ld : Value), q13 = .int .i64 (i : Int) ∧ i ≤ l.length ∧ l.length - i ≤ k ∧ Blk wr gb 117 (rbookC enc lim depth gt ld) ∧ Hid (wr.ownsRow (gb + 1) 5 1 ld i ((l.take i).map (Value.int .u8))) ∧ Below gb wb wr ∧ gb + 1 ≤ wr.heap.size
def R7Post (enc lim depth : Int) (l : List Int) (w : World) (e : Ending) (w' : World) : Prop :=
  ∃ gb gt ld, e = .returned (.tuple #[.pointer (some ⟨gb, 0, none⟩), .int .i64 0]) ∧ Blk w' gb 117 (rbookC enc lim depth gt ld) ∧ w'.ownsRow w.heap.size 5 1 ld l.length (l.map (Value.int .u8)) ∧ RText w' w.heap.size gt enc lim ((dec enc l).map Prod.fst) ((tagF 0 0 (dec enc l)).map Prod.snd) ∧ w.heap.size ≤ gb ∧ w.heap.size ≤ gt ∧ Below w.heap.size w w'
theorem RText.below {w w' : World} {B g : Nat} {enc lim : Int} {a t : List Int} (h : RText w B g enc lim a t) (hb : Below w.heap.size w w') : RText w' B g enc lim a t := by
  obtain ⟨va, vt, h1, h2, h3⟩ := h
  exact ⟨va, vt, Blk.below h1 hb, ownsRow_below h2 hb, ownsRow_below h3 hb⟩
set_option maxRecDepth 100000 in
set_option maxHeartbeats 4000000 in
theorem r7open_any (enc lim depth : Int) (D : Nat → Prop) (A : Option Addr) (n c : Nat) (l : List Int) (w : World) (hl : Bts w D A n l) (hB : Byt l) (hcap : n ≤ c) (h0 : bookErr enc lim depth n = 0) :
    Calls Tryz.prog 49 #[.int .i64 enc, .slice A n c, .int .i64 lim, .int .i64 depth] w fun e w' => R7Post enc lim depth l w e w' := by
  have hle := hl.len
  have hd : ¬ (depth < 1 ∨ 200 < depth) := by
    intro h
    unfold bookErr at h0
    rw [if_pos h] at h0
    cases h0
  have ho : openErr enc lim n = 0 := by
    unfold bookErr at h0
    rw [if_neg hd] at h0
    exact h0
  obtain ⟨he, hlim⟩ := openErr_ok ho
  have hc := r5open_any enc lim D A n c l w he hl hB hlim hcap
  have q0 : (depth < 1) = False := by simp; omega
  have q1 : (200 < depth) = False := by simp; omega
  have hn : n ≤ 65536 := by omega
  obtain ⟨ib, hib, hb0, hb1', hb2'⟩ := info_parts byte_info
  have HC := Lib.hid hc
  clear hc ho he h0 hd
  go_enter Tryz.func49, Tryz.ntmps49
  go_wp2_with fail
  refine (HC.out).mono ?_
  rintro e w1 ⟨rfl, hT, hb1⟩
  go_wp2_with fail
  go_loopg [13] n (fun k q wr => R7R enc lim depth l w.heap.size w1.heap.size w1 k q wr)
  case atStart =>
    exact ⟨0, .slice none 0 0, rfl, Nat.zero_le _, by omega, Blk.new w1 _ _, Lib.hid (World.ownsRow_nil _ _ _ _), balloc (Below.refl _ _), by simp⟩
  case round =>
    obtain ⟨i, ld, rfl, hi, hk, hT2, hoL, hb, hsz⟩ := hrel
    have hs1 := hb1.size
    by_cases hlt : i < n
    · have hlr : Bts wr D A n l := Reads.below (Reads.below hl hb1) hb
      obtain ⟨ad, rfl, _, c1⟩ := hlr.at_ hlt
      have bx := hB.at_ i
      obtain ⟨x, hx⟩ : ∃ x, l.getD i 0 = x := ⟨_, rfl⟩
      rw [hx] at c1 bx
      have HX := Lib.hid hx
      have c3 : wr.cell? ⟨w1.heap.size, 3, none⟩ = some ld := hT2.cell 3
      have f3 := hT2.frozen 3
      have hglt := hT2.lt
      have s1 : wr.drew.cell? ⟨w1.heap.size, 3, none⟩ = some ld ∧ wr.drew.cell? (ad.add i) = some (.int .u8 x) := ⟨c3, c1⟩
      have x1 : (0 : Int) ≤ (i : Int) := by omega
      have x2 : (i : Int) < (n : Int) := by omega
      have hadlt := lt_of_cell c1
      have hoD : (wr.alloc (.cells #[.int .u8 x] 5)).drew.ownsRow (w1.heap.size + 1) 5 1 ld i ((l.take i).map (Value.int .u8)) := World.ownsRow.alloc (w := wr) hoL.out _
      have s2 : (wr.alloc (.cells #[.int .u8 x] 5)).drew.cell? ⟨w1.heap.size, 3, none⟩ = some ld ∧ (wr.alloc (.cells #[.int .u8 x] 5)).drew.cell? (ad.add i) = some (.int .u8 x) := ⟨cell_keep (w := wr) (Below.drew (balloc (Below.refl _ _))) c3, cell_keep (w := wr) (Below.drew (balloc (Below.refl _ _))) c1⟩
      have hTD : Blk (wr.alloc (.cells #[.int .u8 x] 5)).drew w1.heap.size 117 (rbookC enc lim depth w.heap.size ld) := Blk.alloc (w := wr) hT2 _
      have HOD := Lib.hid hoD
      have HTD := Lib.hid hTD
      clear hx hoD hTD
      go_wp2_with fail
      go_region_law (first | ((refine step_append_lies _ (by rfl) (.tmp 46) (.tmp 51) 22 (by rfl) (w1.heap.size + 1) 5 ib (.int .u8 0) 1 1 Tryz.underlying22 hib hb0 hb1' hb2' (by rfl) (by decide) ld i _ (by rfl) HOD.out ⟨wr.heap.size, 0, none⟩ 1 1 [.int .u8 x] (by rfl) (by rfl) (cell_one_new _ _ _) (by simp [Value.oneCell']) (by omega) (by unfold maxLen; omega) (by omega) (by simp; omega) (wr.heap.size + 1) (by simp) ?_; intro g cap w4 hown4 hgr hat hglt4; have hT4 := HTD.out.grown hgr (fun e => own_blk_ne HOD.out HTD.out (by decide) e.symm); have s4 : w4.cell? ⟨w1.heap.size, 3, none⟩ = some ld := hT4.cell 3; have f4 := hT4.frozen 3)))
      all_goals
        have hT5 := hT4.set_ 3 (.slice (some ⟨g, 0, none⟩) (i + 1) cap)
        have hW4 : Below w1.heap.size w1 w4 := below_grown2 (Below.drew (balloc hb)) hgr (fun k hk => by have := own_ge HOD.out hk; omega)
        have hO5 := own_set_other (i := 3) (u := .slice (some ⟨g, 0, none⟩) (i + 1) cap) hown4 hT4 (by decide)
        have hz := hgr.size
        simp at hz
        have hz4 : w1.heap.size + 1 ≤ (w4.setCell ⟨w1.heap.size, 3, none⟩ (.slice (some ⟨g, 0, none⟩) (i + 1) cap)).heap.size := by simp [World.setCell]; omega
        have HO5 := Lib.hid hO5
        clear hown4 hgr hat s4 f4 s2 s1 c1 c3 f3 hz hO5
        go_wp2_with fail
        go_roundg (n - (i + 1))
        case measure => omega
        case rel =>
          refine ⟨i + 1, _, by go_num, by omega, by omega, hT5.eq_ rfl, Lib.hid ?_, hW4.setCell (Nat.le_refl _) _, hz4⟩
          have := HO5.out
          rw [List.take_succ_eq_append_getElem (by omega), List.map_append]
          have hx := HX.out
          rw [List.getD_eq_getElem?_getD, List.getElem?_eq_getElem (by omega)] at hx
          simp at hx
          rw [hx]
          exact this
    · obtain rfl : i = l.length := by omega
      have ho := hoL.out
      rw [List.take_length] at ho
      have HO := Lib.hid ho
      clear ho
      go_wp2_with fail
      go_ret2
      exact ⟨w1.heap.size, w.heap.size, ld, rfl, hT2, ownsRow_le HO.out (by omega), hT.below hb, hs1, Nat.le_refl _, bseq hb1 hb⟩
set_option maxRecDepth 100000 in
set_option maxHeartbeats 1000000 in
theorem r7open_err (enc lim depth : Int) (A : Option Addr) (n c : Nat) (w : World) (h0 : bookErr enc lim depth n ≠ 0) :
    Calls Tryz.prog 49 #[.int .i64 enc, .slice A n c, .int .i64 lim, .int .i64 depth] w fun e w' => e = .returned (.tuple #[.pointer none, .int .i64 (bookErr enc lim depth n)]) ∧ w = w' := by
  by_cases hd : depth < 1 ∨ 200 < depth
  · have e1 : bookErr enc lim depth n = 1 := by unfold bookErr; rw [if_pos hd]
    rw [e1]
    clear e1 h0
    have h1' : (depth < 1) = True ∨ (depth < 1) = False ∧ (200 < depth) = True := by simp; omega
    rcases h1' with q | ⟨q, q'⟩
    all_goals
      clear hd
      go_enter Tryz.func49, Tryz.ntmps49
      go_wp2_with fail
      go_ret2
      exact ⟨rfl, rfl⟩
  · have e1 : bookErr enc lim depth n = openErr enc lim n := by unfold bookErr; rw [if_neg hd]
    rw [e1] at h0 ⊢
    have hc := r5open_err enc lim A n c w h0
    have q0 : (depth < 1) = False := by simp; omega
    have q1 : (200 < depth) = False := by simp; omega
    obtain ⟨E, hE⟩ : ∃ E, openErr enc lim n = E := ⟨_, rfl⟩
    rw [hE] at hc h0 ⊢
    have q2 : (E != 0) = true := by rw [bne_iff_ne]; exact h0
    have HC := Lib.hid hc
    clear hc e1 hd hE
    go_enter Tryz.func49, Tryz.ntmps49
    go_wp2_with fail
    refine (HC.out).mono ?_
    rintro e w1 ⟨rfl, rfl⟩
    go_wp2_with fail
    go_ret2
    exact ⟨rfl, rfl⟩
end Go.Proofs.YteekabaoocaghaaGreat
