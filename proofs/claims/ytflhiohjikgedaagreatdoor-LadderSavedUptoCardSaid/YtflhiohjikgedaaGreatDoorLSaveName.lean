/-
  Package disk: the disk, its files and its directory in memory; the smallest functions. Package save: the names; number at nil; errors.Is at nil.
-/
import Derived.Test.YtflhiohjikgedaaGreatDoorLStrMap
import Derived.Test.YtflhiohjikgedaaGreatDoorLSums
import Derived.Laws.IdiomStrings
import Derived.Laws.RangeString
set_option linter.unusedSimpArgs false
set_option linter.unusedVariables false
set_option maxRecDepth 100000
set_option maxHeartbeats 32000000
namespace Go.Proofs.YtflhiohjikgedaaGreatDoor
open Go.RowKit
def dkC (sb : Nat) (ls ac : Value) (last st : Int) : Array Value := #[.int .i64 1048576, .map (some sb), ls, ac, .int .i64 last, .bool false, .map none, .int .i64 st]
def DkAt (w : World) (d sb : Nat) (ls ac : Value) (last st : Int) : Prop := Blk w d 63 (dkC sb ls ac last st)
def FlAt (w : World) (f : Nat) (num : Int) (v : Value) (sy ct : Int) : Prop := Blk w f 66 #[.int .i64 num, v, .int .i64 sy, .int .i64 ct]
structure NameOk (s : ByteArray) : Prop where
 pos : 0 < s.size
 le : s.size <= 31
 ch : ∀ i (h : i < s.size), (97 <= (s[i].toNat : Int) /\ (s[i].toNat : Int) <= 122) \/ (s[i].toNat : Int) = 126
theorem bytesRow_get (s : ByteArray) (cap : Nat) (i : Nat) (h : i < s.size) : (bytesRow s cap)[i]? = some (.int .u8 (s[i].toNat : Int)) := bytesRow_at s cap i h
def NmR (s : ByteArray) (W : World) (k : Nat) (q16 : Value) (wr : World) : Prop := ∃ i : Nat, q16 = .int .i64 (i : Int) /\ i <= s.size /\ k = s.size - i /\ wr = W
theorem isName_any (s : ByteArray) (hs : NameOk s) (w : World) :
  Calls Tryz.prog 19 #[.string s] w fun e w' => e = .returned (.bool true) /\ Below w.heap.size w w' := by
 obtain ⟨h1, h2, h3⟩ := hs
 have hcv := run_bytes_of_string (P := Tryz.prog) w 9 22 5 s Tryz.underlying9 Tryz.underlying22 Tryz.underlying5
 obtain ⟨cap, hcap⟩ : ∃ cap, grownCap w s.size 0 5 = cap := ⟨_, rfl⟩
 rw [hcap] at hcv
 obtain ⟨W, hW⟩ : ∃ W, (w.drew.alloc (.cells (bytesRow s cap) 5 ((bytesRow s cap).size, (bytesRow s cap).size + 1))) = W := ⟨_, rfl⟩
 have hb : Below w.heap.size w W := by rw [<- hW]; exact ((Fr.refl (fun _ => False) w).drew.alloc _).below (fun _ _ h => h)
 have hcell : ∀ i (h : i < s.size), W.cell? ⟨w.heap.size, i, none⟩ = some (.int .u8 (s[i].toNat : Int)) := by
  intro i h
  rw [<- hW]
  have := cell_of_row (w.drew.alloc (.cells (bytesRow s cap) 5 ((bytesRow s cap).size, (bytesRow s cap).size + 1))) w.heap.size i (bytesRow s cap) 5 ((bytesRow s cap).size, (bytesRow s cap).size + 1) (heap_alloc_new w.drew _)
  rw [this, bytesRow_get s cap i h]
 rw [hW] at hcv
 have HC := Lib.hid hcell
 have H3 := Lib.hid h3
 have HS := Lib.hid (rfl : s.size = s.size)
 clear hW hcap hcell h3
 have q0 : ((s.size : Int) == 0) = false := by rw [beq_eq_false_iff_ne]; omega
 have q1 : ((32 : Int) < (s.size : Int)) = False := by simp; omega
 have q2 : (s.size = 0) = False := eq_false (by omega)
 go_enter Tryz.func19, Tryz.ntmps19
 go_wp2_with fail
 go_loopg [16] s.size (fun k q16 wr => NmR s W k q16 wr)
 case atStart => exact ⟨0, rfl, by omega, by omega, rfl⟩
 case round =>
  obtain ⟨i, rfl, hi, hk, rfl⟩ := hrel
  by_cases hlt : i < s.size
  ·have hc := HC.out i hlt
   have hch := H3.out i hlt
   obtain ⟨x, hx⟩ : ∃ x : Int, (s[i].toNat : Int) = x := ⟨_, rfl⟩
   rw [hx] at hc hch
   clear hx
   have e0 : (x == 46) = false := by rw [beq_eq_false_iff_ne]; omega
   have e1 : (x == 95) = false := by rw [beq_eq_false_iff_ne]; omega
   have e2 : (x == 45) = false := by rw [beq_eq_false_iff_ne]; omega
   by_cases h97 : x = 126
   ·subst h97
    go_wp2_with fail
    go_roundg (s.size - (i + 1))
    case measure => omega
    case rel => exact ⟨i + 1, by go_num, by omega, rfl, rfl⟩
   ·have g1 : 97 <= x := by omega
    have g2 : x <= 122 := by omega
    go_wp2_with fail
    go_roundg (s.size - (i + 1))
    case measure => omega
    case rel => exact ⟨i + 1, by go_num, by omega, rfl, rfl⟩
  ·go_wp2_with fail
   go_ret
   exact ⟨rfl, hb⟩
theorem dfresh_any (d sb : Nat) (ls ac : Value) (last st : Int) (w : World) (h : DkAt w d sb ls ac last st) (hl : 0 <= last /\ last <= 1073741824) :
  Calls Tryz.prog 20 #[.pointer (some ⟨d, 0, none⟩)] w fun e w' => e = .returned (.pointer (some ⟨w.heap.size, 0, none⟩)) /\ DkAt w' d sb ls ac (last + 1) st /\ FlAt w' w.heap.size (last + 1) (.slice none 0 0) 0 0 /\ Fr (· = d) w w' := by
 have c4 := h.cell 4
 have f4 := h.frozen 4
 have hlt := h.lt
 simp [dkC] at c4
 have e1 : IntKind.i64.wrap (last + 1) = last + 1 := IntWalk.i64_in _ (by omega)
 go_enter Tryz.func20, Tryz.ntmps20
 go_wp2_with fail
 go_ret
 have hd : Blk (w.setCell ⟨d, 4, none⟩ (.int .i64 (last + 1))) d 63 (dkC sb ls ac (last + 1) st) := h.set_ 4 _
 refine ⟨by simp, hd.alloc _, ?_, ((Fr.refl _ w).set1 4 _).alloc _⟩
 have := Blk.new (w.setCell ⟨d, 4, none⟩ (.int .i64 (last + 1))) 66 #[.int .i64 (last + 1), .slice none 0 0, .int .i64 0, .int .i64 0]
 rw [World.size_setCell] at this
 exact this
theorem sync_any (f : Nat) (num : Int) (A : Option Addr) (n c : Nat) (sy ct : Int) (w : World) (h : FlAt w f num (.slice A n c) sy ct) :
  Calls Tryz.prog 23 #[.pointer (some ⟨f, 0, none⟩)] w fun e w' => e = .returned (.tuple #[]) /\ FlAt w' f num (.slice A n c) n ct /\ Fr (· = f) w w' := by
 have c1 := h.cell 1
 have f2 := h.frozen 2
 simp at c1
 have hlt := h.lt
 have c2 := h.cell 2
 simp at c2
 go_enter Tryz.func23, Tryz.ntmps23
 go_wp2_with fail
 go_end0
 exact ⟨rfl, Blk.set_ h 2 _, (Fr.refl _ w).set1 2 _⟩
def sA : ByteArray := ⟨#[97]⟩
def sT : ByteArray := ⟨#[97, 126]⟩
theorem sA_ok : NameOk sA := ⟨by decide, by decide, fun i h => by
 have : i = 0 := by have e : sA.size = 1 := rfl; omega
 subst this
 exact .inl ⟨by change (97 : Int) <= 97; decide, by change (97 : Int) <= 122; decide⟩⟩
theorem sT_ok : NameOk sT := ⟨by decide, by decide, fun i h => by
 have e : sT.size = 2 := rfl
 rcases Nat.eq_zero_or_pos i with h0 | h0
 ·subst h0
  exact .inl ⟨by change (97 : Int) <= 97; decide, by change (97 : Int) <= 122; decide⟩
 ·have : i = 1 := by omega
  subst this
  exact .inr (by change (126 : Int) = 126; rfl)⟩
theorem strange_a (w : World) : Calls Tryz.prog 50 #[.int .i32 97] w fun e w' => e = .returned (.bool false) /\ w = w' := by
 go_enter Tryz.func50, Tryz.ntmps50
 go_wp2_with fail
 go_ret
 exact ⟨rfl, rfl⟩
theorem suffix1_a (w : World) : Calls Tryz.prog 77 #[.string sA, .string ⟨#[126]⟩] w fun e w' => e = .returned (.bool false) /\ w = w' := by
 have e1 : sA.size = 1 := rfl
 have e2 : ((sA.extract 0 1).toList == [126]) = false := by kernel_rfl
 go_enter Tryz.func77, Tryz.ntmps77
 go_wp2_with fail
 go_ret
 exact ⟨rfl, rfl⟩
theorem suffix_a (w : World) : Calls Tryz.prog 48 #[.string sA, .string ⟨#[126]⟩] w fun e w' => e = .returned (.bool false) /\ w = w' := by
 have HC := Lib.hid (suffix1_a w)
 go_enter Tryz.func48, Tryz.ntmps48
 go_wp2_with fail
 refine (HC.out).mono ?_
 rintro e w1 ⟨rfl, rfl⟩
 go_wp2_with fail
 go_ret
 exact ⟨rfl, rfl⟩
def IdxR (w : World) (k : Nat) (wr : World) : Prop := (k = 1 /\ wr = w.iter sA 0) \/ (k = 0 /\ wr = w.iter sA 1)
theorem index1_a (w : World) : Calls Tryz.prog 78 #[.string sA, .func (.func 50) #[] #[], .bool true] w fun e w' => e = .returned (.int .i64 (-1)) /\ Below w.heap.size w w' := by
 have hr := run_range_string (P := Tryz.prog) w 9 sA Tryz.underlying9
 have hn := run_next_ascii (P := Tryz.prog) w sA 0 3 (by decide) (by decide)
 have he := Tryz.call50
 have HS := Lib.hid strange_a
 go_enter Tryz.func78, Tryz.ntmps78
 go_wp2_with fail
 go_loopg [] 1 (fun k wr => IdxR w k wr)
 case atStart => exact .inl ⟨rfl, rfl⟩
 case round =>
  rcases hrel with ⟨rfl, rfl⟩ | ⟨rfl, rfl⟩
  ·have hn := fun ty => run_next_ascii (P := Tryz.prog) w sA 0 ty (by decide) (by decide)
   simp only [show (sA[0]'(by decide)).toNat = 97 from rfl] at hn
   go_wp2_with fail
   refine (HS.out _).mono ?_
   rintro e w1 ⟨rfl, rfl⟩
   go_wp2_with fail
   go_roundg 0
   case measure => omega
   case rel => exact .inr ⟨rfl, rfl⟩
  ·have hn := fun ty => run_next_end (P := Tryz.prog) w sA 1 ty (by decide)
   go_wp2_with fail
   go_ret
   exact ⟨rfl, balloc (Below.refl _ _)⟩
theorem index_a (w : World) : Calls Tryz.prog 49 #[.string sA, .func (.func 50) #[] #[]] w fun e w' => e = .returned (.int .i64 (-1)) /\ Below w.heap.size w w' := by
 have HC := Lib.hid (index1_a w)
 go_enter Tryz.func49, Tryz.ntmps49
 go_wp2_with fail
 refine (HC.out).mono ?_
 rintro e w1 ⟨rfl, hb⟩
 go_wp2_with fail
 go_ret
 exact ⟨rfl, hb⟩
theorem name_a (w : World) : Calls Tryz.prog 24 #[.string sA] w fun e w' => e = .returned (.bool true) /\ Below w.heap.size w w' := by
 have HC := Lib.hid (suffix_a w)
 have HI := Lib.hid (index_a w)
 have e1 : sA.size = 1 := rfl
 go_enter Tryz.func24, Tryz.ntmps24
 go_wp2_with fail
 refine (HC.out).mono ?_
 rintro e w1 ⟨rfl, rfl⟩
 go_wp2_with fail
 refine (HI.out).mono ?_
 rintro e w1 ⟨rfl, hb⟩
 go_wp2_with fail
 go_ret
 exact ⟨rfl, hb⟩
theorem number_nil (w : World) : Calls Tryz.prog 27 #[.nilIface] w fun e w' => e = .returned (.int .i64 0) /\ Below w.heap.size w w' := by
 go_enter Tryz.func27, Tryz.ntmps27
 go_wp2_with fail
 go_ret
 exact ⟨rfl, balloc (balloc (Below.refl _ _))⟩
theorem eq_nilIface (v : Value) (t : TypeId) (w : World) : (binOp BinOp.eql 27 .nilIface (.iface t v)).run Tryz.prog w = .ok (.bool false) w := by kernel_rfl
theorem is_nil (t : TypeId) (v : Value) (w : World) : Calls Tryz.prog 26 #[.nilIface, .iface t v] w fun e w' => e = .returned (.bool false) /\ w = w' := by
 have h1 := eq_nilIface v t
 have h2 : ∀ (w : World), (binOp BinOp.eql 27 .nilIface .nilIface).run Tryz.prog w = .ok (.bool true) w := fun w => by kernel_rfl
 go_enter Tryz.func26, Tryz.ntmps26
 go_wp2_with fail
 go_ret
 exact ⟨rfl, rfl⟩
end Go.Proofs.YtflhiohjikgedaaGreatDoor
