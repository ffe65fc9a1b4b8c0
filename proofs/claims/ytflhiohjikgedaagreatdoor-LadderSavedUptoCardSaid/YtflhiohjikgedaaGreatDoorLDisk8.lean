/-
  Package disk: Put on an empty disk.
-/
import Derived.Test.YtflhiohjikgedaaGreatDoorLDisk7
set_option linter.unusedSimpArgs false
set_option linter.unusedVariables false
set_option maxRecDepth 100000
set_option maxHeartbeats 32000000
namespace Go.Proofs.YtflhiohjikgedaaGreatDoor
open Go.RowKit
theorem own_lower {w : World} {B B' e size n : Nat} {v : Value} {xs : List Value} (h : w.ownsRow B e size v n xs) (hB : B' <= B) : w.ownsRow B' e size v n xs := by
 refine ⟨h.1, ?_⟩
 rcases h.2 with h1 | ⟨r, cap, cur, rfl, h1, h2⟩
 ·exact .inl h1
 ·exact .inr ⟨r, cap, cur, rfl, Nat.le_trans hB h1, h2⟩
def PutR (W : World) (sb it : Nat) (k : Nat) (q8 : Value) (wr : World) : Prop := q8 = .int .i64 1048576 /\ RangeS wr sb it [] [] /\ wr = W /\ k = 0
def PutQ (s : ByteArray) (d sb : Nat) (xs : List Int) (w w' : World) : Prop :=
 ∃ (f lb : Nat) (A : Option Addr) (c : Nat), DkAt w' d sb (.map (some lb)) (.slice none 0 0) 1 0 /\ MapS w' sb [(s, .pointer (some ⟨f, 0, none⟩))] /\ FlAt w' f 1 (.slice A xs.length c) xs.length 1 /\ w'.ownsRow w.heap.size 5 1 (.slice A xs.length c) xs.length (xs.map (Value.int .u8)) /\ w.heap.size <= f /\ Fr (fun b => b = d \/ b = sb) w w'
theorem put_any (s : ByteArray) (hs : NameOk s) (d sb lb : Nat) (A : Option Addr) (n c : Nat) (D : Nat -> Prop) (xs : List Int) (w : World) (h : DkAt w d sb (.map (some lb)) (.slice none 0 0) 0 0) (hm : MapS w sb []) (hx : Bts w D A n xs) (hn : n <= 1048576) (hD : ∀ b, D b -> b ≠ d /\ b ≠ sb) :
  Calls Tryz.prog 6 #[.pointer (some ⟨d, 0, none⟩), .string s, .slice A n c] w fun e w' => e = .returned .nilIface /\ PutQ s d sb xs w w' := by
 have hsd : sb ≠ d := hm.ne_blk h
 have hsl := hm.lt
 have hdl := h.lt
 have hlk0 := hm.lookup (P := Tryz.prog) Tryz.underlying59 Tryz.underlying9 s (fileZero w)
 have hlk : (Instr.lookup 59 (.map (some sb)) (.string s) false).run Tryz.prog w = .ok (.pointer none) w := hlk0
 obtain rfl : xs.length = n := hx.len
 have c0 := h.cell 0
 have c1 := h.cell 1
 simp [dkC] at c0 c1
 obtain ⟨W, hr, hR, hb, hsz⟩ := hm.range (P := Tryz.prog) Tryz.underlying59
 have hDW : DkAt W d sb (.map (some lb)) (.slice none 0 0) 0 0 := Blk.below h hb
 have hlen := (hm.below hb).len_ (P := Tryz.prog) Tryz.underlying59 3
 have HNM := Lib.hid (fun (w' : World) => isName_any s hs w')
 have HR := Lib.hid hR
 have HB := Lib.hid hb
 have HM := Lib.hid hm
 have HX := Lib.hid hx
 have HDW := Lib.hid hDW
 have c5 := hDW.cell 5
 have c1' := hDW.cell 1
 simp [dkC] at c5 c1'
 clear h hm hx hb hDW hlk0 hR
 go_enter Tryz.func6, Tryz.ntmps6
 go_wp2_with fail
 go_loopg [8] 0 (fun k q8 wr => PutR W sb w.heap.size k q8 wr)
 case atStart => exact ⟨rfl, HR.out, rfl, rfl⟩
 case round =>
  obtain ⟨rfl, hRr, rfl, -⟩ := hrel
  rcases hRr.next (P := Tryz.prog) 0 with ⟨-, hnx⟩ | ⟨p, left', w2, hperm, -⟩
  rotate_left
  ·exact absurd hperm.length_eq (by simp)
  have qn : ((1048576 : Int) < (xs.length : Int)) = False := by simp; omega
  have HLN := Lib.hid hlen
  clear hRr hlen
  go_wp2_with fail
  refine (HNM.out _).mono ?_
  rintro e w1 ⟨rfl, hb1⟩
  have hbw1 : Below w.heap.size w w1 := bseq HB.out hb1
  have hd1 : DkAt w1 d sb (.map (some lb)) (.slice none 0 0) 0 0 := Blk.below HDW.out hb1
  have hm1 := HM.out.below hbw1
  have hlen1 := hm1.len_ (P := Tryz.prog) Tryz.underlying59 3
  have cc1 := hd1.cell 1
  simp [dkC] at cc1
  have HF := Lib.hid (dfresh_any d sb (.map (some lb)) (.slice none 0 0) 0 0 w1 hd1 (by omega))
  have HM1 := Lib.hid hm1
  have HB1 := Lib.hid hbw1
  simp at hlen1
  clear hb1 hbw1 hd1 hm1
  go_wp2_with fail
  refine (HF.out).mono ?_
  rintro e w2 ⟨rfl, hd2, hfl2, hfr2⟩
  have hm2 : MapS w2 sb [] := HM1.out.fr hfr2 hsd
  obtain ⟨f, hf⟩ : ∃ f, w1.heap.size = f := ⟨_, rfl⟩
  have hge : w.heap.size <= f := by rw [<- hf]; exact HB1.out.size
  rw [hf] at hfl2 ⊢
  obtain ⟨w3, hr3, hm3, hf3⟩ := hm2.update (P := Tryz.prog) Tryz.underlying59 Tryz.underlying9 s (.pointer (some ⟨f, 0, none⟩))
  have x1 := hd2.cell 1
  simp [dkC] at x1
  have hd3 := Blk.fr hd2 hf3 (fun e => hsd e.symm)
  have hfl3 := Blk.fr hfl2 hf3 (by omega)
  have HS := Lib.hid (settle_any d sb _ _ _ _ _ w3 hd3 hm3)
  have hfr3 : Fr (fun b => b = d \/ b = sb) w w3 := ((Fr.of_below HB1.out).trans (hfr2.more (S' := fun b => b = d \/ b = sb) (fun _ _ h => .inl h))).trans (hf3.more (fun _ _ h => .inr h))
  have HFL3 := Lib.hid hfl3
  have HM3 := Lib.hid hm3
  have HFR3 := Lib.hid hfr3
  clear hm2 hd2 hfl2 hfr2 hd3 hfl3 hm3 hfr3 hf hf3
  go_wp2_with fail
  refine (HS.out).mono ?_
  rintro e w4 ⟨rfl, lb4, hd4, hfr4⟩
  have hfr : Fr (fun b => b = d \/ b = sb) w w4 := HFR3.out.trans (hfr4.more (fun _ _ h => .inl h))
  have hfl4 := Blk.fr HFL3.out hfr4 (by omega)
  have hm4 := HM3.out.fr hfr4 hsd
  have hx4 : Bts w4 (fun b => D b /\ b < w.heap.size) A xs.length xs := Reads.fr (Reads.more HX.out (fun b h1 h2 => ⟨h1, h2⟩) (by decide)) hfr (fun b h _ hs => by
   rcases hs with hs | hs
   ·exact (hD b h.1).1 hs
   ·exact (hD b h.1).2 hs)
  have HC := Lib.hid (sclone_any _ A xs.length c xs w4 hx4 (by omega))
  have HFL4 := Lib.hid hfl4
  have HM4 := Lib.hid hm4
  have HD4 := Lib.hid hd4
  have HFR := Lib.hid hfr
  clear hfr hfl4 hm4 hx4 hd4 hfr4
  go_wp2_with fail
  refine (HC.out).mono ?_
  rintro e w5 ⟨v, rfl, ho5, hb5⟩
  obtain ⟨A5, c5', rfl, -⟩ := own_slice ho5
  have hfl5 := Blk.below HFL4.out hb5
  have g1 := hfl5.frozen 1
  have y1 := hfl5.cell 1
  simp at y1
  have hfl6 := Blk.set_ hfl5 1 (.slice A5 xs.length c5')
  have HSY := Lib.hid (sync_any f 1 A5 xs.length c5' 0 0 _ hfl6)
  have hnv : (Value.slice A5 xs.length c5').ownBlock ≠ some f := own_blk_ne ho5 hfl5 (by decide)
  have ho6 := ownsRow_setCell_other ho5 (a := ⟨f, 1, none⟩) hnv (.slice A5 xs.length c5')
  have hm6 := (HM4.out.below hb5).fr (S := (· = f)) ((Fr.refl _ _).set1 1 (.slice A5 xs.length c5')) (by omega)
  have hd6 := Blk.far (Blk.below HD4.out hb5) (p := ⟨f, 1, none⟩) (show d ≠ f by omega) (.slice A5 xs.length c5')
  have hfr6 : Fr (fun b => b = d \/ b = sb) w (w5.setCell ⟨f, 1, none⟩ (.slice A5 xs.length c5')) := (HFR.out.trans (Fr.of_below hb5)).setCell (.inr hge) _
  have hge4 : w.heap.size <= w4.heap.size := HFR.out.size
  have HO6 := Lib.hid ho6
  have HM6 := Lib.hid hm6
  have HD6 := Lib.hid hd6
  have HFR6 := Lib.hid hfr6
  clear ho5 hb5 hfl5 hfl6 ho6 hm6 hd6 hfr6
  go_wp2_with fail
  refine (HSY.out).mono ?_
  rintro e w7 ⟨rfl, hfl7, hfr7⟩
  have y3 := hfl7.cell 3
  have g3 := hfl7.frozen 3
  simp at y3
  have e1 : IntKind.i64.wrap ((0 : Int) + 1) = 1 := rfl
  have HFL7 := Lib.hid hfl7
  have HFR7 := Lib.hid hfr7
  clear hfl7 hfr7
  go_wp2_with fail
  go_ret
  have hd7 := Blk.fr HD6.out HFR7.out (show d ≠ f by omega)
  have hm7 := HM6.out.fr HFR7.out (show sb ≠ f by omega)
  have ho7 := ownsRow_fr HO6.out HFR7.out (fun b hb e => hnv (by rw [<- e]; exact hb))
  refine ⟨rfl, f, lb4, A5, c5', Blk.far hd7 (p := ⟨f, 3, none⟩) (show d ≠ f by omega) _, hm7.fr (S := (· = f)) ((Fr.refl _ _).set1 3 _) (by omega), Blk.set_ HFL7.out 3 _, ?_, hge, ?_⟩
  ·exact own_lower (ownsRow_setCell_other ho7 (a := ⟨f, 3, none⟩) hnv _) hge4
  ·exact (HFR6.out.call HFR7.out (fun i hi h => by omega)).setCell (.inr hge) _
end Go.Proofs.YtflhiohjikgedaaGreatDoor
