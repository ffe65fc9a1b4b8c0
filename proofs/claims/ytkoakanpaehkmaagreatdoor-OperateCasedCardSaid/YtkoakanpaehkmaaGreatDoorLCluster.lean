/-
  The walks of package cluster, first part: one scan (note, apart, hangul, takes, begin), as plain functions on a record of four integers.
-/
import Derived.Test.YtkoakanpaehkmaaGreatDoorLHeavy
import Derived.Deep.CutBlock
set_option linter.unusedSimpArgs false
set_option linter.unusedVariables false
set_option maxRecDepth 100000
set_option maxHeartbeats 32000000
namespace Go.Proofs.YtkoakanpaehkmaaGreatDoor
open Go.RowKit
def digF (c : Int) : Int := if 57 < c then c - 65 + 10 else c - 48
def numF : List UInt8 -> Int -> Int
 | [], n => n
 | c :: r, n => numF r (n * 16 + digF c.toNat)
theorem numF_app (l r : List UInt8) (n : Int) : numF (l ++ r) n = numF r (numF l n) := by
 induction l generalizing n with
 | nil => rfl
 | cons c l ih => simp [numF, ih]
def Asc (s : ByteArray) : Prop := ∀ i (h : i < s.size), (s[i]'h).toNat < 128
theorem numF_take (s : ByteArray) (k : Nat) (h : k < s.size) : numF (s.data.toList.take (k + 1)) 0 = numF (s.data.toList.take k) 0 * 16 + digF (s[k].toNat) := by
 rw [List.take_succ_eq_append_getElem (by simpa using h), numF_app]; rfl
theorem numF_bd (l : List UInt8) : ∀ (n B : Int), 0 <= B -> -B <= n -> n <= B -> - ((B + 16) * 16 ^ l.length) <= numF l n /\ numF l n <= (B + 16) * 16 ^ l.length := by
 induction l with
 | nil => intro n B h0 h1 h2; simp [numF]; omega
 | cons c l ih =>
  intro n B h0 h1 h2
  have hc : (c.toNat : Int) < 256 := by have := c.toNat_lt; omega
  have hd : -48 <= digF c.toNat /\ digF c.toNat <= 200 := by unfold digF; split <;> omega
  have := ih (n * 16 + digF c.toNat) (B * 16 + 200) (by omega) (by omega) (by omega)
  simp only [numF, List.length_cons, Int.pow_succ]
  have e : (B * 16 + 200 + 16) <= (B + 16) * 16 := by omega
  have hp : (0 : Int) <= 16 ^ l.length := Int.pow_nonneg (by omega)
  have := Int.mul_le_mul_of_nonneg_right e hp
  have e2 : (B + 16) * (16 ^ l.length * 16) = (B + 16) * 16 * 16 ^ l.length := by rw [Int.mul_comm (16 ^ l.length) 16, Int.mul_assoc]
  omega
theorem numF_bd8 (l : List UInt8) (h : l.length <= 8) : -68719476736 <= numF l 0 /\ numF l 0 <= 68719476736 := by
 have := numF_bd l 0 0 (by omega) (by omega) (by omega)
 have h2 : (16 : Nat) ^ l.length <= 16 ^ 8 := Nat.pow_le_pow_right (by omega) h
 have e : (16 : Nat) ^ 8 = 4294967296 := by decide
 have h3 : ((16 : Int) ^ l.length) = ((16 ^ l.length : Nat) : Int) := by simp
 omega
theorem number_any (s : ByteArray) (w : World) (hs : s.size <= 8) (ha : Asc s) :
  Calls Tryz.prog 170 #[.string s] w fun e w' => e = .returned (.int .i64 (numF s.data.toList 0)) /\ Below w.heap.size w w' := by
 go_enter Tryz.func170, Tryz.ntmps170
 go_wp2
 go_loopw [3] (fun n w' => ∃ (pos : Nat), pos <= s.size /\ w' = w.iter s pos /\ n = .int .i64 (numF (s.data.toList.take pos) 0)) (fun _ w' => s.size - w'.iterPos w.heap.size)
 case atStart => exact ⟨0, by omega, rfl, rfl⟩
 case round =>
  obtain ⟨pos, hp, rfl, rfl⟩ := hrel
  by_cases hlt : pos < s.size
  ·have hn := fun ty => run_next_ascii (P := Tryz.prog) w s pos ty hlt (ha pos hlt)
   have hc := ha pos hlt
   obtain ⟨b1, b2⟩ := numF_bd8 (s.data.toList.take pos) (by simp; omega)
   go_wp2
   all_goals go_roundw
   all_goals first
    | (refine ⟨pos + 1, by omega, rfl, ?_⟩; rw [numF_take s pos hlt]; unfold digF; first | rw [if_pos (by assumption)] | rw [if_neg (by omega)])
    | (simp; omega)
  ·have hn := fun ty => run_next_end (P := Tryz.prog) w s pos ty hlt
   go_wp2
   go_ret
   have : pos = s.size := by omega
   subst this
   refine ⟨?_, (Below.refl _ _).alloc (by simp) _⟩
   show Ending.returned (.int .i64 _) = _
   rw [List.take_of_length_le (by simp)]
def scalarB (a : Int) : Bool := decide (0 <= a /\ a < 0xD800 \/ 0xDFFF < a /\ a <= 0x10FFFF)
theorem scalar_any (a : Int) (w : World) :
  Calls Tryz.prog 41 #[.int .i64 a] w fun e w' => e = .returned (.bool (scalarB a)) /\ w = w' := by
 go_enter Tryz.func41, Tryz.ntmps41
 go_wp2
 all_goals
  go_ret
  refine ⟨congrArg (fun b => Ending.returned (.bool b)) ?_, rfl⟩
  unfold scalarB
  rw [Bool.eq_iff_iff]
  simp
  omega
def rowN (s : ByteArray) (m i j : Nat) : Int := numF ((s.data.toList.drop (m * 11 + i)).take (j - i)) 0
def soughtG (s : ByteArray) (a : Int) : Nat -> Nat -> Nat -> Int
 | 0, _, _ => 0
 | f + 1, lo, hi =>
  if lo < hi then
   if a < rowN s ((lo + hi) / 2) 0 5 then soughtG s a f lo ((lo + hi) / 2)
   else if rowN s ((lo + hi) / 2) 5 10 < a then soughtG s a f ((lo + hi) / 2 + 1) hi
   else rowN s ((lo + hi) / 2) 10 11
  else 0
def soughtF (s : ByteArray) (a : Int) : Int := soughtG s a (s.size / 11) 0 (s.size / 11)
theorem soughtG_end (s : ByteArray) (a : Int) (f lo hi : Nat) (h : ¬ lo < hi) : soughtG s a f lo hi = 0 := by
 cases f <;> simp [soughtG, h]
theorem asc_extract (s : ByteArray) (a b : Nat) (h : Asc s) : Asc (s.extract a b) := by
 intro i hi
 simp only [ByteArray.size_extract] at hi
 rw [ByteArray.getElem_extract]
 exact h _ _
theorem row_data (s : ByteArray) (m i j : Nat) (hj : j <= 11) (hij : i <= j) :
  rowN s m i j = numF ((s.extract (m * 11) ((m + 1) * 11)).extract i j).data.toList 0 := by
 unfold rowN
 congr 1
 simp only [ByteArray.data_extract, Array.toList_extract, List.extract_eq_take_drop]
 rw [List.drop_take, List.take_take, List.drop_drop]
 congr 1
 omega
theorem number_row (s : ByteArray) (m i j : Nat) (w : World) (ha : Asc s) (_h : (m + 1) * 11 <= s.size) (hj : j <= 11) (hij : i <= j) (hd : j <= i + 8) :
  Calls Tryz.prog 170 #[.string ((s.extract (m * 11) ((m + 1) * 11)).extract i j)] w fun e w' => e = .returned (.int .i64 (rowN s m i j)) /\ Below w.heap.size w w' := by
 rw [row_data s m i j hj hij]
 exact number_any _ w (by simp only [ByteArray.size_extract]; omega) (asc_extract _ _ _ (asc_extract _ _ _ ha))
theorem sought_any (s : ByteArray) (a : Int) (w : World) (hs : s.size <= 100000) (ha : Asc s) :
  Calls Tryz.prog 144 #[.string s, .int .i64 a] w fun e w' => e = .returned (.int .i64 (soughtF s a)) /\ Below w.heap.size w w' := by
 go_enter Tryz.func144, Tryz.ntmps144
 go_wp2
 go_loopw [5, 6] (fun l h wr => ∃ (f lo hi : Nat), hi <= s.size / 11 /\ hi <= lo + f /\ l = .int .i64 lo /\ h = .int .i64 hi /\ soughtF s a = soughtG s a f lo hi /\ Below w.heap.size w wr) (fun l h _ => (intOf h - intOf l).toNat)
 case atStart => exact ⟨s.size / 11, 0, s.size / 11, by omega, by omega, rfl, rfl, rfl, Below.refl _ _⟩
 case round =>
  obtain ⟨f, lo, hi, hh, hf, rfl, rfl, hg, hb⟩ := hrel
  have HG := Lib.hid hg
  clear hg
  have hm : lo < hi -> ((lo + hi) / 2 + 1) * 11 <= s.size := by intro h; omega
  go_wp2_with (go_at_call 170; refine (number_row s ((lo + hi) / 2) _ _ _ ha (hm (by assumption)) (by omega) (by omega) (by omega)).mono ?_; rintro e w1 ⟨rfl, hb1⟩)
  ·refine ⟨?_, by simp [intOf]; omega⟩
   cases f with
   | zero => omega
   | succ f =>
    refine ⟨f, lo, (lo + hi) / 2, by omega, by omega, rfl, by go_num, ?_, bseq hb ‹_›⟩
    rw [HG.out, soughtG, if_pos (by assumption), if_pos (by assumption)]
  ·refine ⟨?_, by simp [intOf]; omega⟩
   cases f with
   | zero => omega
   | succ f =>
    refine ⟨f, (lo + hi) / 2 + 1, hi, by omega, by omega, by go_num, rfl, ?_, bseq (bseq hb ‹_›) ‹_›⟩
    rw [HG.out, soughtG, if_pos (by assumption), if_neg (by omega), if_pos (by assumption)]
  ·cases f with
   | zero => omega
   | succ f =>
    go_ret
    refine ⟨?_, bseq (bseq (bseq hb ‹_›) ‹_›) ‹_›⟩
    rw [HG.out, soughtG, if_pos (by assumption), if_neg (by omega), if_neg (by omega)]
    show Ending.returned (.int .i64 (rowN s _ _ _)) = _
    rw [show ((lo + hi) / 2 + 1) * 11 - (lo + hi) / 2 * 11 = 11 by omega]
  ·go_ret
   refine ⟨?_, hb⟩
   rw [HG.out, soughtG_end _ _ _ _ _ (by assumption)]
   rfl
def opStr (o : Oper) : Option ByteArray :=
 match o.op with
 | .call c => c.args.findSome? fun | .const (.string s) => some s | _ => none
 | _ => none
def codeStr : Code -> Option ByteArray
 | .seq a b => (codeStr a).or (codeStr b)
 | .cond _ a b => (codeStr a).or (codeStr b)
 | .block _ a => codeStr a
 | .region _ ops _ => ops.findSome? opStr
 | _ => none
def tableOf (f : Func) : ByteArray := (f.body.bind codeStr).getD ByteArray.empty
def ascB (s : ByteArray) : Bool := s.data.toList.all fun c => c.toNat < 128
theorem asc_of {s : ByteArray} (h : ascB s = true) : Asc s := by
 intro i hi
 unfold ascB at h
 rw [List.all_eq_true] at h
 have := h (s[i]) (by rw [ByteArray.getElem_eq_getElem_data]; simp)
 simpa using this
noncomputable def classRows : ByteArray := tableOf Tryz.f167
noncomputable def conjRows : ByteArray := tableOf Tryz.f188
noncomputable def wordRows : ByteArray := tableOf Tryz.f106
theorem class_ok : ascB classRows = true /\ decide (classRows.size <= 100000) = true := by constructor <;> kernel_rfl
theorem conj_ok : ascB conjRows = true /\ decide (conjRows.size <= 100000) = true := by constructor <;> kernel_rfl
theorem sought_class (a : Int) (w : World) : Calls Tryz.prog 144 #[.string classRows, .int .i64 a] w fun e w' => e = .returned (.int .i64 (soughtF classRows a)) /\ Below w.heap.size w w' :=
 sought_any classRows a w (of_decide_eq_true class_ok.2) (asc_of class_ok.1)
theorem sought_conj (a : Int) (w : World) : Calls Tryz.prog 144 #[.string conjRows, .int .i64 a] w fun e w' => e = .returned (.int .i64 (soughtF conjRows a)) /\ Below w.heap.size w w' :=
 sought_any conjRows a w (of_decide_eq_true conj_ok.2) (asc_of conj_ok.1)
noncomputable def classF (a : Int) : Int :=
 if scalarB a = false then 3
 else if 0 <= a - 44032 /\ a - 44032 < 11172 then (if (a - 44032) % 28 = 0 then 12 else 13)
 else soughtF classRows a
theorem class_any (a : Int) (w : World) :
  Calls Tryz.prog 167 #[.int .i64 a] w fun e w' => e = .returned (.int .i64 (classF a)) /\ Below w.heap.size w w' := by
 by_cases hs : scalarB a = false
 ·go_enter Tryz.func167, Tryz.ntmps167
  go_wp2_with (go_at_call 41; refine (scalar_any _ _).mono ?_; rintro e w1 ⟨rfl, rfl⟩)
  go_ret
  exact ⟨by rw [classF, if_pos hs]; rfl, Below.refl _ _⟩
 ·have hb : 0 <= a /\ a <= 0x10FFFF := by
   have : scalarB a = true := by simpa using hs
   unfold scalarB at this
   simp at this
   omega
  have hs1 : scalarB a = true := by simpa using hs
  go_enter Tryz.func167, Tryz.ntmps167
  go_wp2_with (first | (go_at_call 41; refine (scalar_any _ _).mono ?_; rintro e w1 ⟨rfl, rfl⟩) | (go_at_call 144; refine (sought_class _ _).mono ?_; rintro e w1 ⟨rfl, hb1⟩))
  all_goals
   go_ret
   refine ⟨ret_i ?_, by first | exact Below.refl _ _ | assumption⟩
   show _ = classF a
   rw [classF, if_neg hs]
  all_goals
   (try simp only [beq_iff_eq, beq_eq_false_iff_ne, ne_eq] at *)
   (repeat' split) <;> first | rfl | omega
noncomputable def conjF (a : Int) : Int :=
 if a = 0x94D \/ a = 0x9CD \/ a = 0xACD \/ a = 0xB4D \/ a = 0xC4D \/ a = 0xD4D then 3
 else if a = 0x200C then 0
 else if classF a = 4 \/ classF a = 5 then 2
 else if classF a = 0 /\ scalarB a = true then soughtF conjRows a
 else 0
theorem conjunct_any (a : Int) (w : World) :
  Calls Tryz.prog 188 #[.int .i64 a] w fun e w' => e = .returned (.int .i64 (conjF a)) /\ Below w.heap.size w w' := by
 go_enter Tryz.func188, Tryz.ntmps188
 go_wp2_with (first | (go_at_call 41; refine (scalar_any _ _).mono ?_; rintro e w1 ⟨rfl, rfl⟩) | (go_at_call 144; refine (sought_conj _ _).mono ?_; rintro e w1 ⟨rfl, hb1⟩) | (go_at_call 167; refine (class_any _ _).mono ?_; rintro e w1 ⟨rfl, hb1⟩))
 all_goals
  go_ret
  refine ⟨ret_i ?_, by first | exact Below.refl _ _ | assumption | exact bseq ‹_› ‹_›⟩
  show _ = conjF a
  unfold conjF
  (try simp only [beq_iff_eq, beq_eq_false_iff_ne, ne_eq] at *)
  (repeat' split) <;> first | rfl | omega | simp_all
noncomputable def wordF (a : Int) : Int :=
 if scalarB a = false then 1 else if soughtF wordRows a = 2 then 2 else if soughtF wordRows a = 1 then 0 else 1
structure Scan where
 last : Int
 flags : Int
 pict : Int
 conj : Int
def Scan.cells (s : Scan) : Array Value := #[.int .i64 s.last, .int .i64 s.flags, .int .i64 s.pict, .int .i64 s.conj]
def noteF (s : Scan) (c p : Int) : Scan where
 last := c
 flags := if c = 6 then s.flags + 1 else 0
 pict := if c = 14 then 1 else if s.pict = 1 /\ c = 5 then 2 else if s.pict = 1 /\ c = 4 then s.pict else 0
 conj := if p = 1 then 1 else if 0 < s.conj /\ p = 3 then 2 else if 0 < s.conj /\ p = 2 then s.conj else 0
def note1 (s : Scan) (c : Int) : Scan := { s with last := c, flags := if c = 6 then s.flags + 1 else 0 }
def note2 (s : Scan) (c : Int) : Scan := { note1 s c with pict := if c = 14 then 1 else if s.pict = 1 /\ c = 5 then 2 else if s.pict = 1 /\ c = 4 then s.pict else 0 }
def ScanAt (w0 w : World) (g : Nat) (s : Scan) : Prop := Blk w g 245 s.cells /\ Fr (· = g) w0 w
theorem ScanAt.facts {w0 w : World} {g : Nat} {s : Scan} (h : ScanAt w0 w g s) :
  w.cell? ⟨g, 0, none⟩ = some (.int .i64 s.last) /\ w.cell? ⟨g, 1, none⟩ = some (.int .i64 s.flags) /\ w.cell? ⟨g, 2, none⟩ = some (.int .i64 s.pict) /\ w.cell? ⟨g, 3, none⟩ = some (.int .i64 s.conj) /\
  w.frozen? ⟨g, 0, none⟩ = false /\ w.frozen? ⟨g, 1, none⟩ = false /\ w.frozen? ⟨g, 2, none⟩ = false /\ w.frozen? ⟨g, 3, none⟩ = false :=
 ⟨h.1.cell 0, h.1.cell 1, h.1.cell 2, h.1.cell 3, h.1.frozen 0, h.1.frozen 1, h.1.frozen 2, h.1.frozen 3⟩
theorem ScanAt.set0 {w0 w : World} {g : Nat} {s : Scan} (h : ScanAt w0 w g s) (v : Int) : ScanAt w0 (w.setCell ⟨g, 0, none⟩ (.int .i64 v)) g { s with last := v } := ⟨h.1.set_ 0 _, h.2.set1 0 _⟩
theorem ScanAt.set1 {w0 w : World} {g : Nat} {s : Scan} (h : ScanAt w0 w g s) (v : Int) : ScanAt w0 (w.setCell ⟨g, 1, none⟩ (.int .i64 v)) g { s with flags := v } := ⟨h.1.set_ 1 _, h.2.set1 1 _⟩
theorem ScanAt.set2 {w0 w : World} {g : Nat} {s : Scan} (h : ScanAt w0 w g s) (v : Int) : ScanAt w0 (w.setCell ⟨g, 2, none⟩ (.int .i64 v)) g { s with pict := v } := ⟨h.1.set_ 2 _, h.2.set1 2 _⟩
theorem ScanAt.set3 {w0 w : World} {g : Nat} {s : Scan} (h : ScanAt w0 w g s) (v : Int) : ScanAt w0 (w.setCell ⟨g, 3, none⟩ (.int .i64 v)) g { s with conj := v } := ⟨h.1.set_ 3 _, h.2.set1 3 _⟩
theorem ScanAt.eq {w0 w : World} {g : Nat} {s s' : Scan} (h : ScanAt w0 w g s) (e : s = s') : ScanAt w0 w g s' := e ▸ h
theorem note_any (g : Nat) (s : Scan) (c p : Int) (w : World) (h : Blk w g 245 s.cells) (hf : 0 <= s.flags /\ s.flags <= 4611686018427387904) :
  Calls Tryz.prog 187 #[.pointer (some ⟨g, 0, none⟩), .int .i64 c, .int .i64 p] w fun e w' =>
   e = .returned (.tuple #[]) /\ ScanAt w w' g (noteF s c p) := by
 have hs : ScanAt w w g s := ⟨h, Fr.refl _ _⟩
 obtain ⟨c0, c1, c2, c3, f0, f1, f2, f3⟩ := hs.facts
 obtain ⟨hf1, hf2⟩ := hf
 go_enter Tryz.func187, Tryz.ntmps187
 go_upto_if 11 with fail
 go_cut [] (fun wx => ScanAt w wx g (note1 s c))
 case first =>
  go_wp2
  all_goals
   go_light
   go_meet
   simp only [beq_iff_eq, beq_eq_false_iff_ne, ne_eq] at *
   exact ((hs.set0 _).set1 _).eq (by simp only [noteF, note2, note1, Scan.mk.injEq]; refine ⟨?_, ?_, ?_, ?_⟩ <;> (repeat' split) <;> first | trivial | omega)
 case rest =>
  have hA := hcut
  clear c0 c1 c2 c3 f0 f1 f2 f3 hcut hs
  obtain ⟨c0, c1, c2, c3, f0, f1, f2, f3⟩ := hA.facts
  simp only [note1] at c0 c1 c2 c3
  go_upto_block 0 with fail
  go_cut [] (fun wx => ScanAt w wx g (note2 s c))
  case first =>
   go_wp2
   all_goals
    go_light
    go_meet
    simp only [beq_iff_eq, beq_eq_false_iff_ne, ne_eq] at *
    first
     | exact (hA.set2 _).eq (by simp only [noteF, note2, note1, Scan.mk.injEq]; refine ⟨?_, ?_, ?_, ?_⟩ <;> (repeat' split) <;> first | trivial | omega)
     | exact hA.eq (by simp only [noteF, note2, note1, Scan.mk.injEq]; refine ⟨?_, ?_, ?_, ?_⟩ <;> (repeat' split) <;> first | trivial | omega)
  case rest =>
   clear c0 c1 c2 c3 f0 f1 f2 f3 hA
   have hA := hcut
   clear hcut
   obtain ⟨c0, c1, c2, c3, f0, f1, f2, f3⟩ := hA.facts
   simp only [note1, note2] at c0 c1 c2 c3
   go_wp2
   all_goals
    go_light
    go_end0
    refine ⟨rfl, ?_⟩
    simp only [beq_iff_eq, beq_eq_false_iff_ne, ne_eq] at *
    first
     | exact (hA.set3 _).eq (by simp only [noteF, note2, note1, Scan.mk.injEq]; refine ⟨?_, ?_, ?_, ?_⟩ <;> (repeat' split) <;> first | trivial | omega)
     | exact hA.eq (by simp only [noteF, note2, note1, Scan.mk.injEq]; refine ⟨?_, ?_, ?_, ?_⟩ <;> (repeat' split) <;> first | trivial | omega)
def apartB (c : Int) : Bool := decide (c = 1 \/ c = 2 \/ c = 3)
theorem apart_any (c : Int) (w : World) : Calls Tryz.prog 168 #[.int .i64 c] w fun e w' => e = .returned (.bool (apartB c)) /\ w = w' := by
 go_enter Tryz.func168, Tryz.ntmps168
 go_wp2
 all_goals
  go_light
  go_ret
  refine ⟨ret_b ?_, rfl⟩
  show _ = apartB c
  (try simp only [beq_iff_eq, beq_eq_false_iff_ne, ne_eq] at *)
  unfold apartB
  rw [Bool.eq_iff_iff]
  simp
  omega
def hangulB (l r : Int) : Bool :=
 decide (((r = 9 \/ r = 12 \/ r = 13) /\ l = 9) \/ (r = 10 /\ (l = 9 \/ l = 12 \/ l = 10)) \/ (r = 11 /\ (l = 12 \/ l = 10 \/ l = 13 \/ l = 11)))
theorem hangul_any (l r : Int) (w : World) : Calls Tryz.prog 189 #[.int .i64 l, .int .i64 r] w fun e w' => e = .returned (.bool (hangulB l r)) /\ w = w' := by
 go_enter Tryz.func189, Tryz.ntmps189
 go_wp2
 all_goals
  go_light
  go_ret
  refine ⟨ret_b ?_, rfl⟩
  show _ = hangulB l r
  (try simp only [beq_iff_eq, beq_eq_false_iff_ne, ne_eq] at *)
  unfold hangulB
  rw [Bool.eq_iff_iff]
  simp
  omega
end Go.Proofs.YtkoakanpaehkmaaGreatDoor
