/-
  The walks of package piece, first part: sums. The walks of package piece, second part: single, newPart. The walks of package piece, third part: newPart.
-/
import Derived.Test.YtoafogibfokblaaGreatLCodec4
set_option linter.unusedSimpArgs false
set_option linter.unusedVariables false
namespace Go.Proofs.YtoafogibfokblaaGreat
open Go.RowKit

theorem balloc {w w1 : World} {o : Obj} (h : Below w.heap.size w w1) : Below w.heap.size w (w1.alloc o) := h.alloc h.size o
/-- what pieces add up to -/
structure Sums where
  atoms : Int
  bytes : Int
  breaks : Int
  lf : Bool
  cr : Bool
def Sums.cells (s : Sums) : Array Value := #[.int .i64 s.atoms, .int .i64 s.bytes, .int .i64 s.breaks, .bool s.lf, .bool s.cr]
/-- the numbers are not great -/
def Sums.ok (s : Sums) : Prop := 0 ≤ s.atoms ∧ s.atoms ≤ 2147483648 ∧ 0 ≤ s.bytes ∧ s.bytes ≤ 2147483648 ∧ 0 ≤ s.breaks ∧ s.breaks ≤ 2147483648
def addF (s o : Sums) : Sums :=
  if s.atoms = 0 then o else if o.atoms = 0 then s else
  { atoms := s.atoms + o.atoms, bytes := s.bytes + o.bytes, breaks := if (s.cr && o.lf) = true then s.breaks + o.breaks - 1 else s.breaks + o.breaks, lf := s.lf, cr := o.cr }
set_option maxRecDepth 100000 in
set_option maxHeartbeats 2000000 in
theorem add_any (s o : Sums) (w : World) (hs : s.ok) (ho : o.ok) :
    Calls Tryz.prog 41 #[.agg s.cells, .agg o.cells] w fun e w' => e = .returned (.agg (addF s o).cells) ∧ Below w.heap.size w w' := by
  obtain ⟨s1, s2, s3, s4, s5, s6⟩ := hs
  obtain ⟨o1, o2, o3, o4, o5, o6⟩ := ho
  obtain ⟨sa, sb, sk, sl, sc⟩ := s
  obtain ⟨oa, ob, ok, ol, oc⟩ := o
  simp only [Sums.cells] at *
  by_cases h1 : sa = 0
  · have e : addF ⟨sa, sb, sk, sl, sc⟩ ⟨oa, ob, ok, ol, oc⟩ = ⟨oa, ob, ok, ol, oc⟩ := by unfold addF; rw [if_pos h1]
    rw [e]
    have q : (sa == 0) = true := by rw [beq_iff_eq]; exact h1
    clear h1 e
    go_enter Tryz.func41, Tryz.ntmps41
    go_wp2
    refine bodyPost_ret (v := .agg #[.int .i64 oa, .int .i64 ob, .int .i64 ok, .bool ol, .bool oc]) (by simp [results, Tryz.results41, go_sem]) rfl ⟨rfl, ?_⟩
    repeat (first | exact Below.refl _ _ | apply balloc)

  by_cases h2 : oa = 0
  · have e : addF ⟨sa, sb, sk, sl, sc⟩ ⟨oa, ob, ok, ol, oc⟩ = ⟨sa, sb, sk, sl, sc⟩ := by unfold addF; rw [if_neg h1, if_pos h2]
    rw [e]
    have q : (sa == 0) = false := by rw [beq_eq_false_iff_ne]; exact h1
    have q2 : (oa == 0) = true := by rw [beq_iff_eq]; exact h2
    clear h1 h2 e
    go_enter Tryz.func41, Tryz.ntmps41
    go_wp2
    refine bodyPost_ret (v := .agg #[.int .i64 sa, .int .i64 sb, .int .i64 sk, .bool sl, .bool sc]) (by simp [results, Tryz.results41, go_sem]) rfl ⟨rfl, ?_⟩
    repeat (first | exact Below.refl _ _ | apply balloc)

  have q : (sa == 0) = false := by rw [beq_eq_false_iff_ne]; exact h1
  have q2 : (oa == 0) = false := by rw [beq_eq_false_iff_ne]; exact h2
  cases sc <;> cases ol
  case true.true =>
    have e : addF ⟨sa, sb, sk, sl, true⟩ ⟨oa, ob, ok, true, oc⟩ = ⟨sa + oa, sb + ob, sk + ok - 1, sl, oc⟩ := by unfold addF; rw [if_neg h1, if_neg h2]; rfl
    rw [e]
    clear h1 h2 e
    go_enter Tryz.func41, Tryz.ntmps41
    go_wp2
    refine bodyPost_ret (v := .agg #[.int .i64 (sa + oa), .int .i64 (sb + ob), .int .i64 (sk + ok - 1), .bool sl, .bool oc]) (by simp [results, Tryz.results41, go_sem]) rfl ⟨rfl, ?_⟩
    repeat (first | exact Below.refl _ _ | apply balloc)

  case true.false =>
    have e : addF ⟨sa, sb, sk, sl, true⟩ ⟨oa, ob, ok, false, oc⟩ = ⟨sa + oa, sb + ob, sk + ok, sl, oc⟩ := by unfold addF; rw [if_neg h1, if_neg h2]; rfl
    rw [e]
    clear h1 h2 e
    go_enter Tryz.func41, Tryz.ntmps41
    go_wp2
    refine bodyPost_ret (v := .agg #[.int .i64 (sa + oa), .int .i64 (sb + ob), .int .i64 (sk + ok), .bool sl, .bool oc]) (by simp [results, Tryz.results41, go_sem]) rfl ⟨rfl, ?_⟩
    repeat (first | exact Below.refl _ _ | apply balloc)

  case false.true =>
    have e : addF ⟨sa, sb, sk, sl, false⟩ ⟨oa, ob, ok, true, oc⟩ = ⟨sa + oa, sb + ob, sk + ok, sl, oc⟩ := by unfold addF; rw [if_neg h1, if_neg h2]; rfl
    rw [e]
    clear h1 h2 e
    go_enter Tryz.func41, Tryz.ntmps41
    go_wp2
    refine bodyPost_ret (v := .agg #[.int .i64 (sa + oa), .int .i64 (sb + ob), .int .i64 (sk + ok), .bool sl, .bool oc]) (by simp [results, Tryz.results41, go_sem]) rfl ⟨rfl, ?_⟩
    repeat (first | exact Below.refl _ _ | apply balloc)

  case false.false =>
    have e : addF ⟨sa, sb, sk, sl, false⟩ ⟨oa, ob, ok, false, oc⟩ = ⟨sa + oa, sb + ob, sk + ok, sl, oc⟩ := by unfold addF; rw [if_neg h1, if_neg h2]; rfl
    rw [e]
    clear h1 h2 e
    go_enter Tryz.func41, Tryz.ntmps41
    go_wp2
    refine bodyPost_ret (v := .agg #[.int .i64 (sa + oa), .int .i64 (sb + ob), .int .i64 (sk + ok), .bool sl, .bool oc]) (by simp [results, Tryz.results41, go_sem]) rfl ⟨rfl, ?_⟩
    repeat (first | exact Below.refl _ _ | apply balloc)

end Go.Proofs.YtoafogibfokblaaGreat
namespace Go.Proofs.YtoafogibfokblaaGreat
open Go.RowKit

def singleF (a z : Int) : Sums := { atoms := 1, bytes := z, breaks := if a = 10 ∨ a = 13 then 1 else 0, lf := a == 10, cr := a == 13 }
set_option maxRecDepth 100000 in
set_option maxHeartbeats 2000000 in
theorem single_any (a z : Int) (w : World) :
    Calls Tryz.prog 42 #[.int .i64 a, .int .i64 z] w fun e w' => e = .returned (.agg (singleF a z).cells) ∧ Below w.heap.size w w' := by
  by_cases h1 : a = 10
  · subst h1
    go_enter Tryz.func42, Tryz.ntmps42
    go_wp2
    refine bodyPost_ret (v := .agg (singleF 10 z).cells) (by simp [results, Tryz.results42, go_sem, singleF, Sums.cells]) rfl ⟨rfl, ?_⟩
    repeat (first | exact Below.refl _ _ | apply balloc)
  by_cases h2 : a = 13
  · subst h2
    go_enter Tryz.func42, Tryz.ntmps42
    go_wp2
    refine bodyPost_ret (v := .agg (singleF 13 z).cells) (by simp [results, Tryz.results42, go_sem, singleF, Sums.cells]) rfl ⟨rfl, ?_⟩
    repeat (first | exact Below.refl _ _ | apply balloc)
  · have q1 : (a == 10) = false := by rw [beq_eq_false_iff_ne]; exact h1
    have q2 : (a == 13) = false := by rw [beq_eq_false_iff_ne]; exact h2
    have e : singleF a z = ⟨1, z, 0, false, false⟩ := by unfold singleF; rw [if_neg (by omega), q1, q2]
    rw [e]
    clear h1 h2 e
    go_enter Tryz.func42, Tryz.ntmps42
    go_wp2
    refine bodyPost_ret (v := .agg (Sums.mk 1 z 0 false false).cells) (by simp [results, Tryz.results42, go_sem, Sums.cells]) rfl ⟨rfl, ?_⟩
    repeat (first | exact Below.refl _ _ | apply balloc)

/-! ### what bytes are decoded to -/
theorem size8_bd (l : List Int) (h : 0 < l.length) : 1 ≤ size8 l ∧ size8 l ≤ l.length := by
  unfold size8
  have h1 := rowHave_le l h
  have h2 := bdN_le (l.getD 0 0)
  split
  · omega
  · rename_i hr
    unfold rawF at hr
    simp only [decide_eq_true_eq] at hr
    omega
theorem size16_bd (o : Int) (l : List Int) (h : 0 < l.length) : 1 ≤ size16 o l ∧ size16 o l ≤ l.length := by
  unfold size16
  split
  · omega
  · split
    · rename_i hp
      unfold pairF at hp
      simp only [Bool.and_eq_true, decide_eq_true_eq] at hp
      omega
    · omega
theorem sizeAt_bd (enc : Int) (l : List Int) (h : 0 < l.length) : 1 ≤ sizeAt enc l ∧ sizeAt enc l ≤ l.length := by
  unfold sizeAt
  split
  · exact size8_bd l h
  · split
    · exact size16_bd 0 l h
    · split
      · exact size16_bd 1 l h
      · omega
/-- the atoms of bytes, with their sizes -/
def decF (enc : Int) : Nat → List Int → List (Int × Int)
  | 0, _ => []
  | f + 1, l => if l.length = 0 then [] else (atomAt enc l, sizeAt enc l) :: decF enc f (l.drop (sizeAt enc l).toNat)
theorem decF_nil (enc : Int) (f : Nat) (l : List Int) (h : l.length = 0) : decF enc f l = [] := by cases f <;> simp [decF, h]
theorem decF_fuel (enc : Int) : ∀ (f f' : Nat) (l : List Int), l.length ≤ f → l.length ≤ f' → decF enc f l = decF enc f' l := by
  intro f
  induction f with
  | zero => intro f' l h h'; rw [decF_nil enc f' l (by omega)]; rfl
  | succ f ih =>
    intro f' l h h'
    cases f' with
    | zero => rw [decF_nil enc (f + 1) l (by omega)]; rfl
    | succ f' =>
      simp only [decF]
      split
      · rfl
      · have := sizeAt_bd enc l (by omega)
        rw [ih f' _ (by rw [List.length_drop]; omega) (by rw [List.length_drop]; omega)]
def dec (enc : Int) (l : List Int) : List (Int × Int) := decF enc l.length l
theorem dec_nil (enc : Int) : dec enc [] = [] := rfl
theorem dec_cons (enc : Int) (l : List Int) (h : 0 < l.length) : dec enc l = (atomAt enc l, sizeAt enc l) :: dec enc (l.drop (sizeAt enc l).toNat) := by
  unfold dec
  have := sizeAt_bd enc l h
  rw [decF_fuel enc l.length (l.length + 1) l (by omega) (by omega)]
  simp only [decF]
  rw [if_neg (by omega), decF_fuel enc l.length _ _ (by rw [List.length_drop]; omega) (Nat.le_refl _)]
def zeroS : Sums := ⟨0, 0, 0, false, false⟩
def stepS (s : Sums) (d : Int × Int) : Sums := addF s (singleF d.1 d.2)
def sumsOf (ds : List (Int × Int)) : Sums := ds.foldl stepS zeroS
theorem stepS_bd (s : Sums) (a z : Int) (h1 : 0 ≤ s.atoms) (h2 : 0 ≤ s.breaks) (hz : 0 ≤ z) (h3 : s.atoms = 0 → s.bytes = 0) :
    (stepS s (a, z)).atoms = s.atoms + 1 ∧ (stepS s (a, z)).bytes = s.bytes + z ∧ 0 ≤ (stepS s (a, z)).breaks ∧ (s.breaks ≤ s.atoms → (stepS s (a, z)).breaks ≤ s.atoms + 1) := by
  by_cases h : s.atoms = 0
  · have := h3 h
    simp only [stepS, addF, singleF, h, if_true]
    refine ⟨by omega, by omega, ?_, fun _ => ?_⟩ <;> split <;> omega
  · have e : stepS s (a, z) = { atoms := s.atoms + 1, bytes := s.bytes + z, breaks := if (s.cr && a == 10) = true then s.breaks + (if a = 10 ∨ a = 13 then 1 else 0) - 1 else s.breaks + (if a = 10 ∨ a = 13 then 1 else 0), lf := s.lf, cr := a == 13 } := by
      unfold stepS addF
      rw [if_neg h, if_neg (show ¬ (singleF a z).atoms = 0 by simp [singleF])]
      rfl
    rw [e]
    dsimp only
    refine ⟨rfl, rfl, ?_, ?_⟩
    · split
      · rename_i hc
        simp only [Bool.and_eq_true, beq_iff_eq] at hc
        rw [if_pos (.inl hc.2)]; omega
      · split <;> omega
    · intro _
      split <;> split <;> omega
end Go.Proofs.YtoafogibfokblaaGreat
namespace Go.Proofs.YtoafogibfokblaaGreat
open Go.RowKit

/-- a piece as it lies in memory -/
def partC (A : Option Addr) (n c : Nat) (tag : Int) (s : Sums) : Array Value := #[.slice A n c, .int .i64 tag, .int .i64 s.atoms, .int .i64 s.bytes, .int .i64 s.breaks, .bool s.lf, .bool s.cr]
def PartR (enc : Int) (A : Option Addr) (n c : Nat) (tag : Int) (l : List Int) (S : Sums) (w0 : World) (k : Nat) (q : Value) (wr : World) : Prop :=
  ∃ (p : Nat) (s : Sums), q = .int .i64 (p : Int) ∧ Blk wr (w0.heap.size + 1) 63 (partC A n c tag s) ∧ Blk wr w0.heap.size 63 (partC none 0 0 0 zeroS) ∧
    Below w0.heap.size w0 wr ∧ p ≤ n ∧ n - p ≤ k ∧ (dec enc (l.drop p)).foldl stepS s = S ∧ 0 ≤ s.atoms ∧ s.atoms ≤ p ∧ s.bytes = p ∧ 0 ≤ s.breaks ∧ s.breaks ≤ s.atoms ∧ Hid (0 < p → 0 < s.atoms)
theorem singleF_ok (a : Int) (z : Nat) (h : z ≤ 1073741824) : (singleF a z).ok := by
  unfold Sums.ok singleF
  dsimp only
  refine ⟨by omega, by omega, by omega, by omega, ?_, ?_⟩ <;> split <;> omega
theorem frozen_keep {w w1 : World} {p : Addr} {v : Value} (hb : Below w.heap.size w w1) (h : w.cell? p = some v) (hf : w.frozen? p = false) : w1.frozen? p = false := (hb.frozen (lt_of_cell h)).trans hf
theorem keep5f {w w1 : World} {a b c d e : Addr} {p q r s t : Value} (hb : Below w.heap.size w w1) (h : w.cell? a = some p ∧ w.cell? b = some q ∧ w.cell? c = some r ∧ w.cell? d = some s ∧ w.cell? e = some t ∧ w.frozen? a = false ∧ w.frozen? b = false ∧ w.frozen? c = false ∧ w.frozen? d = false ∧ w.frozen? e = false) :
    w1.cell? a = some p ∧ w1.cell? b = some q ∧ w1.cell? c = some r ∧ w1.cell? d = some s ∧ w1.cell? e = some t ∧ w1.frozen? a = false ∧ w1.frozen? b = false ∧ w1.frozen? c = false ∧ w1.frozen? d = false ∧ w1.frozen? e = false :=
  ⟨cell_keep hb h.1, cell_keep hb h.2.1, cell_keep hb h.2.2.1, cell_keep hb h.2.2.2.1, cell_keep hb h.2.2.2.2.1,
    frozen_keep hb h.1 h.2.2.2.2.2.1, frozen_keep hb h.2.1 h.2.2.2.2.2.2.1, frozen_keep hb h.2.2.1 h.2.2.2.2.2.2.2.1, frozen_keep hb h.2.2.2.1 h.2.2.2.2.2.2.2.2.1, frozen_keep hb h.2.2.2.2.1 h.2.2.2.2.2.2.2.2.2⟩
theorem add_any' (s o : Sums) (w : World) (hs : s.ok) (ho : o.ok) :
    Calls Tryz.prog 41 #[.agg s.cells, .agg o.cells] w fun e w' =>
      e = .returned (.agg #[.int .i64 (addF s o).atoms, .int .i64 (addF s o).bytes, .int .i64 (addF s o).breaks, .bool (addF s o).lf, .bool (addF s o).cr]) ∧ Below w.heap.size w w' := add_any s o w hs ho
set_option maxRecDepth 100000 in
set_option maxHeartbeats 4000000 in
theorem newPart_any (enc : Int) (D : Nat → Prop) (A : Option Addr) (n c : Nat) (tag : Int) (l : List Int) (w : World) (he : enc = 1 ∨ enc = 2 ∨ enc = 3 ∨ enc = 4) (hl : Bts w D A n l) (hb : Byt l) (hn : n ≤ 1073741824) (hcap : n ≤ c) :
    Calls Tryz.prog 19 #[.int .i64 enc, .slice A n c, .int .i64 tag] w fun e w' => e = .returned (.agg (partC A n c tag (sumsOf (dec enc l)))) ∧ Below w.heap.size w w' := by
  have hle1 : l.length ≤ n := Nat.le_of_eq hl.len
  have hle2 : n ≤ l.length := Nat.le_of_eq hl.len.symm
  obtain ⟨S, hS⟩ : ∃ S, sumsOf (dec enc l) = S := ⟨_, rfl⟩
  rw [hS]
  have HSS := Lib.hid hS
  clear hS
  go_enter Tryz.func19, Tryz.ntmps19
  go_wp2_with fail
  go_loopg [8] n (fun k q wr => PartR enc A n c tag l S w k q wr)
  case atStart =>
    refine ⟨0, zeroS, rfl, ?_, ?_, ?_, by omega, by omega, HSS.out, by decide, by decide, rfl, by decide, by decide, Lib.hid (fun h => absurd h (by omega))⟩
    · have := Blk.new (w.alloc (.cells (partC none 0 0 0 zeroS) 63)) 63 (partC A n c tag zeroS)
      simp only [World.size_alloc] at this
      exact this
    · exact (Blk.new w 63 (partC none 0 0 0 zeroS)).alloc _
    · repeat (first | exact Below.refl _ _ | apply balloc)
  case round =>
    obtain ⟨p, s, rfl, hB, hR, hW, hpn, hk, hfo, s1, s2, s3, s4, s5, s6⟩ := hrel
    have HF := Lib.hid hfo
    have H3 := Lib.hid s3
    clear hfo s3
    have hl1 := Reads.below hl hW
    by_cases hlt : p < n
    · have hz := sizeAt_bd enc (l.drop p) (by rw [List.length_drop]; omega)
      have hdc := dec_cons enc (l.drop p) (by rw [List.length_drop]; omega)
      obtain ⟨a, ha⟩ : ∃ a, atomAt enc (l.drop p) = a := ⟨_, rfl⟩
      obtain ⟨z, hzz⟩ : ∃ z : Nat, sizeAt enc (l.drop p) = (z : Int) := ⟨(sizeAt enc (l.drop p)).toNat, by omega⟩
      have hcn := cnext_any enc D A n c p l wr he hl1 hb (by omega) hcap hlt
      rw [ha, hzz] at hcn hdc
      rw [hzz, List.length_drop] at hz
      have HC := Lib.hid hcn
      have HD := Lib.hid hdc
      clear hcn hdc ha hzz
      go_wp2_with fail
      refine (HC.out).mono ?_
      rintro e w1 ⟨rfl, hb1⟩
      have hsok : s.ok := ⟨by omega, by omega, by have := H3.out; omega, by have := H3.out; omega, by omega, by omega⟩
      have hzok : (singleF a z).ok := singleF_ok a z (by omega)
      have hB1 := hB.below hb1
      have hR1 := hR.below hb1
      have hW1 := bseq hW hb1
      have c0 := hB1.cell 2
      have c1 := hB1.cell 3
      have c2 := hB1.cell 4
      have c3 := hB1.cell 5
      have c4 := hB1.cell 6
      have f0 := hB1.frozen 2
      have f1 := hB1.frozen 3
      have f2 := hB1.frozen 4
      have f3 := hB1.frozen 5
      have f4 := hB1.frozen 6
      simp [partC] at c0 c1 c2 c3 c4
      go_upto_region 5 with fail
      go_cut [] (fun wx => Blk wx (w.heap.size + 1) 63 (partC A n c tag (stepS s (a, (z : Int)))) ∧ Blk wx w.heap.size 63 (partC none 0 0 0 zeroS) ∧ Below w.heap.size w wx)
      case first =>
        go_region_with (first | (go_at_call 42; refine (single_any _ _ _).mono ?_; rintro e w3 ⟨rfl, hb3⟩; obtain ⟨k0, k1, k2, k3, k4, k5, k6, k7, k8, k9⟩ := keep5f (bdrew hb3) ⟨c0, c1, c2, c3, c4, f0, f1, f2, f3, f4⟩) | (go_at_call 41; refine (add_any' s (singleF a z) _ hsok hzok).mono ?_; rintro e w4 ⟨rfl, hb4⟩; obtain ⟨j0, j1, j2, j3, j4, j5, j6, j7, j8, j9⟩ := keep5f (bseq (bdrew hb3) hb4) ⟨c0, c1, c2, c3, c4, f0, f1, f2, f3, f4⟩))
        all_goals
          go_wp2_with fail
          go_meet
          have hb14 := bseq (bdrew hb3) hb4
          refine ⟨?_, ?_, ?_⟩
          · exact (((((hB1.below hb14).set_ 2 _).set_ 3 _).set_ 4 _).set_ 5 _).set_ 6 _
          · exact (((((hR1.below hb14).far (p := ⟨w.heap.size + 1, 2, none⟩) (by simp) _).far (p := ⟨w.heap.size + 1, 3, none⟩) (by simp) _).far (p := ⟨w.heap.size + 1, 4, none⟩) (by simp) _).far (p := ⟨w.heap.size + 1, 5, none⟩) (by simp) _).far (p := ⟨w.heap.size + 1, 6, none⟩) (by simp) _
          · exact (((((bseq hW1 hb14).setCell (by simp) _).setCell (by simp) _).setCell (by simp) _).setCell (by simp) _).setCell (by simp) _
      case rest =>
        obtain ⟨hB2, hR2, hW2⟩ := hcut
        clear c0 c1 c2 c3 c4 f0 f1 f2 f3 f4
        go_wp2_with fail
        go_roundg (n - (p + z))
        case measure => omega
        case rel =>
          have hst := stepS_bd s a z s1 s4 (by omega) (by have := H3.out; have := s6.out; omega)
          have h3 := H3.out
          refine ⟨p + z, stepS s (a, (z : Int)), by go_num, hB2, hR2, hW2, by omega, by omega, ?_, by omega, by omega, by omega, by omega, by omega, Lib.hid (fun _ => by omega)⟩
          rw [← HF.out, HD.out, List.drop_drop]
          rfl
    · have hpn' : p = n := by omega
      have hfin : s = S := by
        have := HF.out
        rw [List.drop_eq_nil_of_le (by omega)] at this
        exact this
      rw [hfin] at hB
      clear hfin hpn'
      have c0 := hB.cell 0
      have c1 := hB.cell 1
      have c2 := hB.cell 2
      have c3 := hB.cell 3
      have c4 := hB.cell 4
      have c5 := hB.cell 5
      have c6 := hB.cell 6
      have r0 := hR.cell 0
      have r1 := hR.cell 1
      have r2 := hR.cell 2
      have r3 := hR.cell 3
      have r4 := hR.cell 4
      have r5 := hR.cell 5
      have r6 := hR.cell 6
      have f0 := hR.frozen 0
      have f1 := hR.frozen 1
      have f2 := hR.frozen 2
      have f3 := hR.frozen 3
      have f4 := hR.frozen 4
      have f5 := hR.frozen 5
      have f6 := hR.frozen 6
      simp [partC, zeroS] at c0 c1 c2 c3 c4 c5 c6 r0 r1 r2 r3 r4 r5 r6
      go_wp2_with fail
      refine bodyPost_ret (v := .agg (partC A n c tag S)) (by simp [results, Tryz.results19, go_sem, partC, r0, r1, r2, r3, r4, r5, r6]) rfl ⟨rfl, ?_⟩
      exact (((((((hW.setCell (by simp) _).setCell (by simp) _).setCell (by simp) _).setCell (by simp) _).setCell (by simp) _).setCell (by simp) _).setCell (by simp) _)
end Go.Proofs.YtoafogibfokblaaGreat
