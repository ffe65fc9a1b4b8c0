/-
  Package disk: Stamp, Read, Sync, SyncDir.
-/
import Derived.Test.YtflhiohjikgedaaGreatDoorLSaveName
import Derived.Test.YtflhiohjikgedaaGreatDoorLHeavy
import Derived.Laws.AppendOwnNone
import Derived.Maps.AppendAt
import Derived.Shelf.SlMaps.Clone
set_option linter.unusedSimpArgs false
set_option linter.unusedVariables false
set_option maxRecDepth 100000
set_option maxHeartbeats 32000000
namespace Go.Proofs.YtflhiohjikgedaaGreatDoor
open Go.RowKit
theorem new_any (w : World) : Calls Tryz.prog 5 #[.int .i64 1048576] w fun e w' => ∃ d sb lb, e = .returned (.tuple #[.pointer (some ⟨d, 0, none⟩), .nilIface]) /\ DkAt w' d sb (.map (some lb)) (.slice none 0 0) 0 0 /\ MapS w' sb [] /\ w.heap.size <= sb /\ w.heap.size <= d /\ sb ≠ d /\ Below w.heap.size w w' := by
 have hmm := @run_makeMap Tryz.prog
 go_enter Tryz.func5, Tryz.ntmps5
 go_wp2_with fail
 refine bodyPost_ret (v := .tuple #[.pointer (some ⟨w.heap.size + 2, 0, none⟩), .nilIface]) (by simp [results, Tryz.results5, go_sem]) rfl ⟨w.heap.size + 2, w.heap.size, w.heap.size + 1, rfl, ?_, ?_, Nat.le_refl _, by omega, by omega, ?_⟩
 ·have := Blk.new ((w.alloc (.map #[] 0)).alloc (.map #[] 0)) 63 (dkC w.heap.size (.map (some (w.heap.size + 1))) (.slice none 0 0) 0 0)
  rw [World.size_alloc, World.size_alloc] at this
  exact this
 ·exact ((MapS.new w).below (balloc (Below.refl _ _))).below (balloc (Below.refl _ _))
 ·exact balloc (balloc (balloc (Below.refl _ _)))
theorem u8_infoB : (Tryz.prog.info? 5).map (fun i => (i.zero, i.size, i.bytes)) = some (some (.int .u8 0), 1, 1) := by kernel_rfl
theorem below_grown3 {B : Nat} {w w1 w2 : World} {row : Option Nat} (hb : Below B w w1) (hg : w1.grownBy w2 row) (hr : ∀ k, row = some k -> B <= k) (hB : B <= w1.heap.size) : Below B w w2 :=
 ⟨hg.os.trans hb.os, hg.tape.trans hb.tape, hg.output.trans hb.output, Nat.le_trans hb.size hg.size, fun k hk => (hg.block k (by omega) (fun e => by have := hr k e.symm; omega)).trans (hb.block k hk)⟩
def NewB (l : List Int) (w : World) (e : Ending) (w' : World) : Prop := ∃ v, e = .returned v /\ w'.ownsRow w.heap.size 5 1 v l.length (l.map (Value.int .u8)) /\ Below w.heap.size w w'
theorem own_emptyB (w : World) : (w.alloc (.cells #[] 5)).ownsRow w.heap.size 5 1 (.slice (some ⟨w.heap.size, 0, none⟩) 0 0) 0 [] :=
 ⟨rfl, .inr ⟨w.heap.size, 0, #[], rfl, Nat.le_refl _, heap_alloc_new w _, Nat.le_refl _, Nat.zero_le _, rfl, rfl⟩⟩
theorem bytes_nil (A : Option Addr) (n c : Nat) (w : World) : (binOp BinOp.eql 22 (.slice A n c) (.slice none 0 0)).run Tryz.prog w = .ok (.bool A.isNone) w := by
 cases A <;> kernel_rfl
theorem bts_cells {w : World} {D : Nat -> Prop} {ad : Addr} {n : Nat} {l : List Int} (h : Bts w D (some ad) n l) : ∀ j u, (l.map (Value.int .u8))[j]? = some u -> w.cell? (ad.add j) = some u := by
 intro j u hu
 have hlt : j < n := by
  have := (List.getElem?_eq_some_iff.1 hu).1
  rw [List.length_map, h.len] at this
  exact this
 obtain ⟨ad', e, _, hc⟩ := h.2 (by omega)
 have : ad' = ad := by injection e with e; exact e.symm
 subst this
 exact hc j u hu
theorem sclone_any (D : Nat -> Prop) (A : Option Addr) (n c : Nat) (l : List Int) (w : World) (hl : Bts w D A n l) (hn : n <= 268435456) :
  Calls Tryz.prog 22 #[.slice A n c] w (NewB l w) := by
 have hln := hl.len
 cases A with
 | none =>
  have hn0 : n = 0 := by
   rcases Nat.eq_zero_or_pos n with h | h
   ·exact h
   ·obtain ⟨ad, h1, _⟩ := hl.2 h
    cases h1
  subst hn0
  have HL := Lib.hid hl
  have hnil := bytes_nil none 0 c w
  clear hl hln
  go_enter Tryz.func22, Tryz.ntmps22
  go_wp2_with fail
  go_ret
  have hl0 : l = [] := List.eq_nil_of_length_eq_zero HL.out.len
  subst hl0
  exact ⟨_, rfl, World.ownsRow_nil _ _ _ _, Below.refl _ _⟩
 | some ad =>
  obtain ⟨i0, hi0, hz0, hz1, hz2⟩ := info_parts u8_infoB
  have HII := Lib.hid hi0
  have HL := Lib.hid hl
  have HLN := Lib.hid hln
  have hnil := bytes_nil (some ad) n c w
  clear hl hln hi0
  go_enter Tryz.func22, Tryz.ntmps22
  go_wp2_with (at_builtin; refine wpList_append_own_at _ rfl (.tmp 5) (.tmp 6) 22 rfl w.heap.size 5 i0 (.int .u8 0) 1 1 Tryz.underlying22 HII.out hz0 hz1 hz2 rfl (by decide) (.slice (some ⟨w.heap.size, 0, none⟩) 0 0) 0 [] rfl (own_emptyB w) ad n c (l.map (Value.int .u8)) rfl ?c1 ?c2 ?c3 ?c4 ?c5 ?c6 ?_)
  case c1 => simp [HLN.out]
  case c2 => exact bts_cells (Reads.below HL.out (balloc (Below.refl _ _)))
  case c3 =>
   intro u hu
   obtain ⟨x, _, rfl⟩ := List.mem_map.1 hu
   rfl
  case c4 => unfold maxLen; omega
  case c5 => omega
  case c6 => simp
  intro v1 w2 ho2 hg2 _ _
  have hb2 : Below w.heap.size w w2 := below_grown3 (balloc (Below.refl _ _)) hg2 (fun k hk => own_ge (own_emptyB w) hk) (by simp)
  have ho3 : w2.ownsRow w.heap.size 5 1 v1 n (l.map (Value.int .u8)) := by simpa using ho2
  have HO := Lib.hid ho3
  clear ho2 ho3 hg2
  go_wp2_with fail
  go_ret
  exact ⟨_, rfl, by rw [HLN.out]; exact HO.out, hb2⟩
theorem bclone_any (D : Nat -> Prop) (A : Option Addr) (n c : Nat) (l : List Int) (w : World) (hl : Bts w D A n l) (hn : n <= 268435456) :
  Calls Tryz.prog 32 #[.slice A n c] w (NewB l w) := by
 have hln := hl.len
 cases A with
 | none =>
  have hn0 : n = 0 := by
   rcases Nat.eq_zero_or_pos n with h | h
   ·exact h
   ·obtain ⟨ad, h1, _⟩ := hl.2 h
    cases h1
  subst hn0
  have HL := Lib.hid hl
  have hnil := bytes_nil none 0 c w
  clear hl hln
  go_enter Tryz.func32, Tryz.ntmps32
  go_wp2_with fail
  go_ret
  have hl0 : l = [] := List.eq_nil_of_length_eq_zero HL.out.len
  subst hl0
  exact ⟨_, rfl, World.ownsRow_nil _ _ _ _, Below.refl _ _⟩
 | some ad =>
  obtain ⟨i0, hi0, hz0, hz1, hz2⟩ := info_parts u8_infoB
  have HII := Lib.hid hi0
  have HL := Lib.hid hl
  have HLN := Lib.hid hln
  have hnil := bytes_nil (some ad) n c w
  clear hl hln hi0
  go_enter Tryz.func32, Tryz.ntmps32
  go_wp2_with (at_builtin; refine wpList_append_own_at _ rfl (.tmp 5) (.tmp 6) 22 rfl w.heap.size 5 i0 (.int .u8 0) 1 1 Tryz.underlying22 HII.out hz0 hz1 hz2 rfl (by decide) (.slice (some ⟨w.heap.size, 0, none⟩) 0 0) 0 [] rfl (own_emptyB w) ad n c (l.map (Value.int .u8)) rfl ?c1 ?c2 ?c3 ?c4 ?c5 ?c6 ?_)
  case c1 => simp [HLN.out]
  case c2 => exact bts_cells (Reads.below HL.out (balloc (Below.refl _ _)))
  case c3 =>
   intro u hu
   obtain ⟨x, _, rfl⟩ := List.mem_map.1 hu
   rfl
  case c4 => unfold maxLen; omega
  case c5 => omega
  case c6 => simp
  intro v1 w2 ho2 hg2 _ _
  have hb2 : Below w.heap.size w w2 := below_grown3 (balloc (Below.refl _ _)) hg2 (fun k hk => own_ge (own_emptyB w) hk) (by simp)
  have ho3 : w2.ownsRow w.heap.size 5 1 v1 n (l.map (Value.int .u8)) := by simpa using ho2
  have HO := Lib.hid ho3
  clear ho2 ho3 hg2
  go_wp2_with fail
  go_ret
  exact ⟨_, rfl, by rw [HLN.out]; exact HO.out, hb2⟩
theorem mclone_any (r : Nat) (l : List (ByteArray × Value)) (w : World) (h : MapS w r l) :
  Calls Tryz.prog 47 #[.map (some r)] w fun e w' => ∃ r', e = .returned (.map (some r')) /\ MapS w' r' l /\ w.heap.size <= r' /\ Below w.heap.size w w' := by
 have hq := run_eql_map_nil_sl (P := Tryz.prog) w 59 _ _ (some r) Tryz.underlying59
 obtain ⟨hc1, hc2⟩ := h.clone (P := Tryz.prog) 59
 obtain ⟨W, hW⟩ : ∃ W, w.alloc (.map (Classical.choose h) (Classical.choose (Classical.choose_spec h))) = W := ⟨_, rfl⟩
 have hb : Below w.heap.size w W := by rw [<- hW]; exact balloc (Below.refl _ _)
 rw [hW] at hc1 hc2
 clear hW
 go_enter Tryz.func47, Tryz.ntmps47
 go_wp2
 rw [run_callFunc_extern Tryz.func76 (by kernel_rfl) (by kernel_rfl) (by kernel_rfl) (e := Extern.MapsClone.clone) (by kernel_rfl), hc1]
 simp only [Result.andThen]
 rw [Oper.upon_value]
 go_wp2
 rw [run_typeAssert_map_sl _ 59 20 _ _ _ Tryz.underlying59]
 simp only [Result.andThen]
 rw [Oper.upon_value]
 go_wp2
 go_ret
 exact ⟨_, rfl, hc2, Nat.le_refl _, hb⟩
theorem settle_any (d sb : Nat) (ls ac : Value) (last st : Int) (l : List (ByteArray × Value)) (w : World) (h : DkAt w d sb ls ac last st) (hm : MapS w sb l) :
  Calls Tryz.prog 21 #[.pointer (some ⟨d, 0, none⟩)] w fun e w' => e = .returned (.tuple #[]) /\ ∃ lb, DkAt w' d sb (.map (some lb)) (.slice none 0 0) last st /\ Fr (· = d) w w' := by
 have c1 := h.cell 1
 simp [dkC] at c1
 have HC := Lib.hid (mclone_any sb l w hm)
 have H := Lib.hid h
 clear h
 go_enter Tryz.func21, Tryz.ntmps21
 go_wp2_with fail
 refine (HC.out).mono ?_
 rintro e w1 ⟨lb, rfl, hm1, hlb, hb1⟩
 have h1 : DkAt w1 d sb ls ac last st := Blk.below H.out hb1
 have c2 := h1.cell 2
 have f2 := h1.frozen 2
 have c3 := h1.cell 3
 have f3 := h1.frozen 3
 simp [dkC] at c2 c3
 have H1 := Lib.hid h1
 clear h1
 go_wp2_with fail
 go_end0
 have h2 := Blk.set_ (Blk.set_ H1.out 2 (.map (some lb))) 3 (.slice none 0 0)
 exact ⟨rfl, lb, h2, ((Fr.of_below hb1).set1 2 _).set1 3 _⟩
theorem fileZero (w : World) : (zeroValue 64).run Tryz.prog w = .ok (.pointer none) w := by kernel_rfl
theorem faultZero (w : World) : (zeroValue 150).run Tryz.prog w = .ok (.agg #[.int .i64 0, .int .i64 0, .int .i64 0, .int .i64 0, .slice none 0 0]) w := by kernel_rfl
theorem find_some (s : ByteArray) (hs : NameOk s) (d sb f : Nat) (ls ac : Value) (last st : Int) (l : List (ByteArray × Value)) (w : World) (h : DkAt w d sb ls ac last st) (hm : MapS w sb l) (hg : getS l s = some (.pointer (some ⟨f, 0, none⟩))) :
  Calls Tryz.prog 42 #[.pointer (some ⟨d, 0, none⟩), .string s] w fun e w' => e = .returned (.tuple #[.agg #[.pointer (some ⟨f, 0, none⟩), .string s], .int .i64 0]) /\ Below w.heap.size w w' := by
 have hK := fun (w' : World) => isName_any s hs w'
 have hlk : ∀ w', Below w.heap.size w w' -> (Instr.lookup 59 (.map (some sb)) (.string s) false).run Tryz.prog w' = .ok (.pointer (some ⟨f, 0, none⟩)) w' := fun w' hb => by
  have := (hm.below hb).lookup Tryz.underlying59 Tryz.underlying9 s (fileZero w')
  rw [hg] at this
  exact this
 have HK := Lib.hid hK
 have HLK := Lib.hid hlk
 have H := Lib.hid h
 clear hK hlk h hg hm
 go_enter Tryz.func42, Tryz.ntmps42
 go_wp2_with fail
 refine (HK.out _).mono ?_
 rintro e w1 ⟨rfl, hb1⟩
 have hb : Below w.heap.size w w1 := bseq (balloc (Below.refl _ _)) hb1
 have h1 : DkAt w1 d sb ls ac last st := Blk.below H.out hb
 have c1 := h1.cell 1
 simp [dkC] at c1
 have hl1 := HLK.out w1 hb
 have b4 := (Blk.new w 103 #[.pointer none, .string ⟨#[]⟩]).below hb1
 have z0 := b4.cell 0
 have z1 := b4.cell 1
 have g0 := b4.frozen 0
 have g1 := b4.frozen 1
 simp at z0 z1
 have HB1 := Lib.hid hb
 have b5 := (b4.set_ 0 (.pointer (some ⟨f, 0, none⟩))).set_ 1 (.string s)
 have y0 := b5.cell 0
 have y1 := b5.cell 1
 simp at y0 y1
 clear hb1 h1 b4 b5
 go_wp2_with fail
 refine bodyPost_ret (v := .tuple #[.agg #[.pointer (some ⟨f, 0, none⟩), .string s], .int .i64 0]) (by simp [results, Tryz.results42, go_sem, y0, y1]) rfl ⟨rfl, ?_⟩
 exact (HB1.out.setCell (Nat.le_refl _) _).setCell (Nat.le_refl _) _
theorem find_none (s : ByteArray) (hs : NameOk s) (d sb : Nat) (ls ac : Value) (last st : Int) (l : List (ByteArray × Value)) (w : World) (h : DkAt w d sb ls ac last st) (hm : MapS w sb l) (hg : getS l s = none) :
  Calls Tryz.prog 42 #[.pointer (some ⟨d, 0, none⟩), .string s] w fun e w' => e = .returned (.tuple #[.agg #[.pointer none, .string ⟨#[]⟩], .int .i64 162]) /\ Below w.heap.size w w' := by
 have hK := fun (w' : World) => isName_any s hs w'
 have hlk : ∀ w', Below w.heap.size w w' -> (Instr.lookup 59 (.map (some sb)) (.string s) false).run Tryz.prog w' = .ok (.pointer none) w' := fun w' hb => by
  have := (hm.below hb).lookup Tryz.underlying59 Tryz.underlying9 s (fileZero w')
  rw [hg] at this
  exact this
 have HK := Lib.hid hK
 have HLK := Lib.hid hlk
 have H := Lib.hid h
 clear hK hlk h hg hm
 go_enter Tryz.func42, Tryz.ntmps42
 go_wp2_with fail
 refine (HK.out _).mono ?_
 rintro e w1 ⟨rfl, hb1⟩
 have hb : Below w.heap.size w w1 := bseq (balloc (Below.refl _ _)) hb1
 have h1 : DkAt w1 d sb ls ac last st := Blk.below H.out hb
 have c1 := h1.cell 1
 simp [dkC] at c1
 have hl1 := HLK.out w1 hb
 have b4 := (Blk.new w 103 #[.pointer none, .string ⟨#[]⟩]).below hb1
 have z0 := b4.cell 0
 have z1 := b4.cell 1
 have g0 := b4.frozen 0
 have g1 := b4.frozen 1
 simp at z0 z1
 have HB1 := Lib.hid hb
 have b5 := (b4.set_ 0 (.pointer none)).set_ 1 (.string ⟨#[]⟩)
 have y0 := b5.cell 0
 have y1 := b5.cell 1
 simp at y0 y1
 clear hb1 h1 b4 b5
 go_wp2_with fail
 refine bodyPost_ret (v := .tuple #[.agg #[.pointer none, .string ⟨#[]⟩], .int .i64 162]) (by simp [results, Tryz.results42, go_sem, y0, y1]) rfl ⟨rfl, ?_⟩
 exact (HB1.out.setCell (Nat.le_refl _) _).setCell (Nat.le_refl _) _
section
variable {P : Program} {w : World} {kt : TypeId} {kd : IntKind}
theorem checkKey_intN (n : Nat) (k : Int) (hk : P.underlying kt = some (.int kd)) : (Instr.checkKey true (n + 1) kt (.int .i64 k)).run P w = .ok () w := by
 simp [Instr.checkKey, run_underlying hk]
theorem findKey_intN (k : Int) (hk : P.underlying kt = some (.int kd)) : (Instr.findKey kt (.int .i64 k) []).run P w = .ok none w := by
 simp [Instr.findKey, run_underlying hk, Instr.findNow]
end
def stW (w : World) (d : Nat) (st : Int) : World := (w.setCell ⟨d, 7, none⟩ (.int .i64 (st + 1))).alloc (.cells #[.int .i64 0, .int .i64 0, .int .i64 0, .int .i64 0, .slice none 0 0] 150)
theorem stW_at {w : World} {d sb : Nat} {ls ac : Value} {last st : Int} (h : DkAt w d sb ls ac last st) : DkAt (stW w d st) d sb ls ac last (st + 1) := (Blk.set_ h 7 (.int .i64 (st + 1))).alloc _
theorem stW_fr (w : World) (d : Nat) (st : Int) : Fr (· = d) w (stW w d st) := ((Fr.refl _ w).set1 7 _).alloc _
theorem step_any (op nm : ByteArray) (F : FuncId) (caps : Array Value) (part : Value) (d sb : Nat) (ls ac : Value) (last st : Int) (w : World) (h : DkAt w d sb ls ac last st) (hst : 0 <= st /\ st <= 1073741824) (hen : ∀ args w, (callFunc F args).run Tryz.prog w = .ok (.enter F args) w)
  (Q : World -> Prop) (hdo : Calls Tryz.prog F caps (stW w d st) fun e w' => e = .returned (.int .i64 0) /\ Q w') :
  Calls Tryz.prog 40 #[.pointer (some ⟨d, 0, none⟩), .string op, .string nm, .func (.func F) #[] caps, part] w fun e w' => e = .returned .nilIface /\ Q w' := by
 have c5 := h.cell 5
 have c6 := h.cell 6
 have c7 := h.cell 7
 have f7 := h.frozen 7
 simp [dkC] at c5 c6 c7
 have e1 : IntKind.i64.wrap (st + 1) = st + 1 := IntWalk.i64_in _ (by omega)
 have hlt := h.lt
 have hz := faultZero
 have hlk : ∀ w', (Instr.lookup 61 (.map none) (.int .i64 (st + 1)) false).run Tryz.prog w' = .ok (.agg #[.int .i64 0, .int .i64 0, .int .i64 0, .int .i64 0, .slice none 0 0]) w' := fun w' => by
  have hck := checkKey_intN (P := Tryz.prog) (w := w') (kt := 3) 9999 (st + 1) Tryz.underlying3
  have hf := findKey_intN (P := Tryz.prog) (w := w') (kt := 3) (st + 1) Tryz.underlying3
  simp only [Instr.lookup, Sem.run_bind, run_underlying Tryz.underlying61, Result.andThen, Sem.run_pure, Array.isEmpty_empty, hck, hf, hz, Bool.false_eq_true, if_false]
 have HDO := Lib.hid hdo
 have HH := Lib.hid h
 clear h hdo
 go_enter Tryz.func40, Tryz.ntmps40
 go_wp2_with fail
 refine (HDO.out).mono ?_
 rintro e w1 ⟨rfl, hq⟩
 have HQ := Lib.hid hq
 clear hq
 go_wp2_with fail
 go_ret
 exact ⟨rfl, HQ.out⟩
def StpS (W : World) (b : Nat) (x y z : Int) (w' : World) : Prop := Fr (· = b) W w' /\ Blk w' b 70 #[.int .i64 x, .int .i64 y, .int .i64 z]
theorem StpS.facts {W : World} {b : Nat} {x y z : Int} {w' : World} (h : StpS W b x y z w') : w'.cell? ⟨b, 0, none⟩ = some (.int .i64 x) /\ w'.cell? ⟨b, 1, none⟩ = some (.int .i64 y) /\ w'.cell? ⟨b, 2, none⟩ = some (.int .i64 z) /\ w'.frozen? ⟨b, 0, none⟩ = false /\ w'.frozen? ⟨b, 1, none⟩ = false /\ w'.frozen? ⟨b, 2, none⟩ = false :=
 ⟨h.2.cell 0, h.2.cell 1, h.2.cell 2, h.2.frozen 0, h.2.frozen 1, h.2.frozen 2⟩
theorem StpS.set0 {W : World} {b : Nat} {x y z u : Int} {w' : World} (h : StpS W b x y z w') : StpS W b u y z (w'.setCell ⟨b, 0, none⟩ (.int .i64 u)) := ⟨h.1.set1 0 _, h.2.set_ 0 _⟩
theorem StpS.set1 {W : World} {b : Nat} {x y z u : Int} {w' : World} (h : StpS W b x y z w') : StpS W b x u z (w'.setCell ⟨b, 1, none⟩ (.int .i64 u)) := ⟨h.1.set1 1 _, h.2.set_ 1 _⟩
theorem StpS.set2 {W : World} {b : Nat} {x y z u : Int} {w' : World} (h : StpS W b x y z w') : StpS W b x y u (w'.setCell ⟨b, 2, none⟩ (.int .i64 u)) := ⟨h.1.set1 2 _, h.2.set_ 2 _⟩
theorem stamp1_any (s : ByteArray) (hs : NameOk s) (d sb f b2 b3 b6 : Nat) (ls ac : Value) (last st num sy ct : Int) (A : Option Addr) (n c : Nat) (l : List (ByteArray × Value)) (w : World) (h : DkAt w d sb ls ac last st) (hm : MapS w sb l) (hg : getS l s = some (.pointer (some ⟨f, 0, none⟩)))
  (hf : FlAt w f num (.slice A n c) sy ct) (h2 : w.cell? ⟨b2, 0, none⟩ = some (.pointer (some ⟨d, 0, none⟩))) (h3 : w.cell? ⟨b3, 0, none⟩ = some (.string s)) (h6 : Blk w b6 70 #[.int .i64 0, .int .i64 0, .int .i64 0]) :
  Calls Tryz.prog 51 #[.pointer (some ⟨b2, 0, none⟩), .pointer (some ⟨b3, 0, none⟩), .pointer (some ⟨b6, 0, none⟩)] w fun e w' => e = .returned (.int .i64 0) /\ Blk w' b6 70 #[.int .i64 num, .int .i64 (n : Int), .int .i64 ct] /\ Fr (· = b6) w w' := by
 have HK := Lib.hid (find_some s hs d sb f ls ac last st l w h hm hg)
 have HF := Lib.hid hf
 have H6 := Lib.hid h6
 have hl := h6.lt
 clear h hm hg hf h6
 go_enter Tryz.func51, Tryz.ntmps51
 go_wp2_with fail
 refine (HK.out).mono ?_
 rintro e w1 ⟨rfl, hb1⟩
 have f1 : FlAt w1 f num (.slice A n c) sy ct := Blk.below HF.out hb1
 have s1 := H6.out.below hb1
 have hl1 := hb1.size
 obtain ⟨W, hW⟩ : ∃ W, w1.alloc (.cells #[.pointer (some ⟨f, 0, none⟩), .string s] 103) = W := ⟨_, rfl⟩
 have f2 : FlAt W f num (.slice A n c) sy ct := by rw [<- hW]; exact Blk.alloc f1 _
 have s2 : Blk W b6 70 #[.int .i64 0, .int .i64 0, .int .i64 0] := by rw [<- hW]; exact Blk.alloc s1 _
 have k2 : Blk W w1.heap.size 103 #[.pointer (some ⟨f, 0, none⟩), .string s] := by rw [<- hW]; exact Blk.new _ _ _
 have hfb : f ≠ b6 := Blk.ne_ f2 s2 (by decide)
 have hkb : w1.heap.size ≠ b6 := by omega
 have HFF : Hid (∀ w', Fr (· = b6) W w' -> w'.cell? ⟨f, 0, none⟩ = some (.int .i64 num) /\ w'.cell? ⟨f, 1, none⟩ = some (.slice A n c) /\ w'.cell? ⟨f, 3, none⟩ = some (.int .i64 ct) /\ w'.cell? ⟨w1.heap.size, 0, none⟩ = some (.pointer (some ⟨f, 0, none⟩))) := Lib.hid (fun w' h => by
  have f3 := Blk.fr f2 h hfb
  have k3 := Blk.fr k2 h hkb
  exact ⟨f3.cell 0, f3.cell 1, f3.cell 3, k3.cell 0⟩)
 have HS0 : Hid (StpS W b6 0 0 0 W.drew) := Lib.hid ⟨(Fr.refl _ W).drew, s2.drew⟩
 have HFW : Hid (Fr (· = b6) w W) := Lib.hid (by rw [<- hW]; exact (Fr.of_below hb1).alloc _)
 clear f1 f2 s1 s2 k2 hb1
 go_upto_region 3 with fail
 refine wp_region_lin (fun w' => Fr (· = b6) W w') (StpS W b6 0 0 0) (fun k => k == 16 || k == 18 || k == 20 || k == 22) (fun k => k == 22) (fun _ => false) (by kernel_rfl) (by kernel_rfl) (HS0.out) (fun _ h => h.1) ?_
 repeat ((first
  | (refine wpL_read (v := ?_) (by rfl) (by rfl) (fun w6 hSw => ?_) ?_; rotate_left; (· (obtain ⟨y0, y1, y2, y3⟩ := HFF.out _ hSw; go_simp; try with_reducible rfl)))
  | (refine wpL_free (v := ?_) (by rfl) (fun w6 => ?_) ?_; rotate_left; (· (go_simp; try with_reducible rfl)))
  | refine wpL_not (by rfl) ?_); (try simp only [Act.put, pA, pB, pC]))
 refine wpL_heavy (fun _ w' => StpS W b6 0 0 0 w') (by rfl) (by rfl) (fun w6 hSw => ?_) (.inr (fun v6 w6 hT6 => ?_)) (fun v6 hv6 => ?_)
 ·(obtain ⟨y0, y1, y2, y3, y4, y5⟩ := hSw.facts; go_simp; exact hSw.set0.set1.set2)
 ·(exact hT6.1)
 skip
 (try simp only [Act.put, pA, pB, pC])
 iterate 1 ((first
  | (refine wpL_read (v := ?_) (by rfl) (by rfl) (fun w6 hSw => ?_) ?_; rotate_left; (· (skip; go_simp; try with_reducible rfl)))
  | (refine wpL_free (v := ?_) (by rfl) (fun w6 => ?_) ?_; rotate_left; (· (go_simp; try with_reducible rfl)))
  | refine wpL_not (by rfl) ?_); (try simp only [Act.put, pA, pB, pC]))
 refine wpL_heavy (fun _ w' => StpS W b6 num 0 0 w') (by rfl) (by rfl) (fun w6 hSw => ?_) (.inr (fun v6 w6 hT6 => ?_)) (fun v6 hv6 => ?_)
 ·(obtain ⟨y0, y1, y2, y3, y4, y5⟩ := hSw.facts; go_simp; exact hSw.set0)
 ·(exact hT6.1)
 skip
 (try simp only [Act.put, pA, pB, pC])
 iterate 1 ((first
  | (refine wpL_read (v := ?_) (by rfl) (by rfl) (fun w6 hSw => ?_) ?_; rotate_left; (· (skip; go_simp; try with_reducible rfl)))
  | (refine wpL_free (v := ?_) (by rfl) (fun w6 => ?_) ?_; rotate_left; (· (go_simp; try with_reducible rfl)))
  | refine wpL_not (by rfl) ?_); (try simp only [Act.put, pA, pB, pC]))
 refine wpL_heavy (fun _ w' => StpS W b6 num n 0 w') (by rfl) (by rfl) (fun w6 hSw => ?_) (.inr (fun v6 w6 hT6 => ?_)) (fun v6 hv6 => ?_)
 ·(obtain ⟨y0, y1, y2, y3, y4, y5⟩ := hSw.facts; go_simp; exact hSw.set1)
 ·(exact hT6.1)
 skip
 (try simp only [Act.put, pA, pB, pC])
 iterate 1 ((first
  | (refine wpL_read (v := ?_) (by rfl) (by rfl) (fun w6 hSw => ?_) ?_; rotate_left; (· (skip; go_simp; try with_reducible rfl)))
  | (refine wpL_free (v := ?_) (by rfl) (fun w6 => ?_) ?_; rotate_left; (· (go_simp; try with_reducible rfl)))
  | refine wpL_not (by rfl) ?_); (try simp only [Act.put, pA, pB, pC]))
 refine wpL_heavy (fun _ w' => StpS W b6 num n ct w') (by rfl) (by rfl) (fun w6 hSw => ?_) (.inl (by rfl)) (fun v6 hv6 => ?_)
 ·(obtain ⟨y0, y1, y2, y3, y4, y5⟩ := hSw.facts; go_simp; exact hSw.set2)
 skip
 (try simp only [Act.put, pA, pB, pC])
 refine wpL_nil ?_
 intro w9 hw9
 clear hv6
 go_wp2_with fail
 go_ret
 exact ⟨rfl, hw9.2, HFW.out.trans hw9.1⟩
theorem MapS.st {w : World} {d sb : Nat} {st : Int} {l : List (ByteArray × Value)} (h : MapS w sb l) (hne : sb ≠ d) : MapS (stW w d st) sb l := h.fr (stW_fr w d st) hne
theorem Blk.st {w : World} {d b : Nat} {T : TypeId} {cs : Array Value} {st : Int} (h : Blk w b T cs) (hne : b ≠ d) : Blk (stW w d st) b T cs := h.fr (stW_fr w d st) hne
theorem stamp_any (s : ByteArray) (hs : NameOk s) (d sb f : Nat) (ls ac : Value) (last st num sy ct : Int) (A : Option Addr) (n c : Nat) (l : List (ByteArray × Value)) (w : World) (h : DkAt w d sb ls ac last st) (hst : 0 <= st /\ st <= 1073741824) (hm : MapS w sb l) (hg : getS l s = some (.pointer (some ⟨f, 0, none⟩)))
  (hf : FlAt w f num (.slice A n c) sy ct) :
  Calls Tryz.prog 25 #[.pointer (some ⟨d, 0, none⟩), .string s] w fun e w' => e = .returned (.tuple #[.agg #[.int .i64 num, .int .i64 (n : Int), .int .i64 ct], .nilIface]) /\ DkAt w' d sb ls ac last (st + 1) /\ Fr (· = d) w w' := by
 obtain ⟨W, hW⟩ : ∃ W, (((w.alloc (.cells #[.pointer (some ⟨d, 0, none⟩)] 25)).alloc (.cells #[.string s] 9)).alloc (.cells #[.int .i64 0, .int .i64 0, .int .i64 0] 70)).alloc (.cells #[.int .i64 0, .int .i64 0, .int .i64 0] 70) = W := ⟨_, rfl⟩
 have hdl := h.lt
 have hsd : sb ≠ d := hm.ne_blk h
 have hfd : f ≠ d := Blk.ne_ hf h (by decide)
 have hb : Below w.heap.size w W := by rw [<- hW]; exact balloc (balloc (balloc (balloc (Below.refl _ _))))
 have k2 : Blk W w.heap.size 25 #[.pointer (some ⟨d, 0, none⟩)] := by rw [<- hW]; exact (((Blk.new w _ _).alloc _).alloc _).alloc _
 have k3 : Blk W (w.heap.size + 1) 9 #[.string s] := by
  rw [<- hW]
  have := Blk.new (w.alloc (.cells #[.pointer (some ⟨d, 0, none⟩)] 25)) 9 #[.string s]
  rw [World.size_alloc] at this
  exact (this.alloc _).alloc _
 have k4 : Blk W (w.heap.size + 1 + 1) 70 #[.int .i64 0, .int .i64 0, .int .i64 0] := by
  rw [<- hW]
  have := Blk.new ((w.alloc (.cells #[.pointer (some ⟨d, 0, none⟩)] 25)).alloc (.cells #[.string s] 9)) 70 #[.int .i64 0, .int .i64 0, .int .i64 0]
  rw [World.size_alloc, World.size_alloc] at this
  exact this.alloc _
 have k6 : Blk W (w.heap.size + 1 + 1 + 1) 70 #[.int .i64 0, .int .i64 0, .int .i64 0] := by
  rw [<- hW]
  have := Blk.new (((w.alloc (.cells #[.pointer (some ⟨d, 0, none⟩)] 25)).alloc (.cells #[.string s] 9)).alloc (.cells #[.int .i64 0, .int .i64 0, .int .i64 0] 70)) 70 #[.int .i64 0, .int .i64 0, .int .i64 0]
  rw [World.size_alloc, World.size_alloc, World.size_alloc] at this
  exact this
 have hD : DkAt W d sb ls ac last st := Blk.below h hb
 have HC := stamp1_any s hs d sb f w.heap.size (w.heap.size + 1) (w.heap.size + 1 + 1 + 1) ls ac last (st + 1) num sy ct A n c l (stW W d st) (stW_at hD) ((hm.below hb).st hsd) hg (Blk.st (Blk.below hf hb) hfd) ((k2.st (by omega)).cell 0) ((k3.st (by omega)).cell 0) (k6.st (by omega))
 have HS := Lib.hid (fun (op : ByteArray) => step_any op s 51 #[.pointer (some ⟨w.heap.size, 0, none⟩), .pointer (some ⟨w.heap.size + 1, 0, none⟩), .pointer (some ⟨w.heap.size + 1 + 1 + 1, 0, none⟩)] .nilFunc d sb ls ac last st W hD hst (fun _ _ => rfl) _ HC)
 have c2 := k2.cell 0
 have c3 := k3.cell 0
 simp at c2 c3
 have HK4 := Lib.hid k4
 have HDD := Lib.hid hD
 have HB := Lib.hid hb
 clear h hf hm hD hb k4 k6 HC
 have e1 := hW
 have HWW := Lib.hid hW
 clear hW
 go_enter Tryz.func25, Tryz.ntmps25
 go_wp2_with fail
 refine (HS.out _).mono ?_
 rintro e w1 ⟨rfl, hk6, hfr⟩
 have hf0 : Fr (fun b => b = d \/ b = w.heap.size + 1 + 1 + 1) W w1 := ((stW_fr W d st).more (S' := fun b => b = d \/ b = w.heap.size + 1 + 1 + 1) (fun _ _ h => .inl h)).trans (hfr.more (fun _ _ h => .inr h))
 have k4 := HK4.out.fr hf0 (by rintro (h | h) <;> omega)
 have hd1 : DkAt w1 d sb ls ac last (st + 1) := Blk.fr (stW_at HDD.out) hfr (by omega)
 have x0 := hk6.cell 0
 have x1 := hk6.cell 1
 have x2 := hk6.cell 2
 obtain ⟨y0, y1, y2, y3, y4, y5⟩ := StpS.facts (W := w1) ⟨Fr.refl _ _, k4⟩
 have k5 := ((k4.set_ 0 (.int .i64 num)).set_ 1 (.int .i64 (n : Int))).set_ 2 (.int .i64 ct)
 have v0 := k5.cell 0
 have v1 := k5.cell 1
 have v2 := k5.cell 2
 simp at x0 x1 x2 v0 v1 v2
 have HD1 := Lib.hid hd1
 have HF0 := Lib.hid hf0
 clear hk6 hfr k4 k5 hd1 hf0 c2 c3 k2 k3 e1
 go_wp2_with fail
 refine bodyPost_ret (v := .tuple #[.agg #[.int .i64 num, .int .i64 (n : Int), .int .i64 ct], .nilIface]) (by simp [results, Tryz.results25, go_sem, v0, v1, v2]) rfl ⟨rfl, ?_, ?_⟩
 ·have q : d ≠ w.heap.size + 1 + 1 := by omega
  exact ((Blk.far HD1.out (p := ⟨w.heap.size + 1 + 1, 0, none⟩) q _).far (p := ⟨w.heap.size + 1 + 1, 1, none⟩) q _).far (p := ⟨w.heap.size + 1 + 1, 2, none⟩) q _
 ·have q : w.heap.size <= w.heap.size + 1 + 1 := by omega
  have hx : Fr (· = d) w w1 := (Fr.of_below HB.out).call HF0.out (fun k hk h => by
   rcases h with h | h
   ·exact h
   ·omega)
  exact ((hx.setCell (p := ⟨w.heap.size + 1 + 1, 0, none⟩) (.inr q) _).setCell (p := ⟨w.heap.size + 1 + 1, 1, none⟩) (.inr q) _).setCell (p := ⟨w.heap.size + 1 + 1, 2, none⟩) (.inr q) _
end Go.Proofs.YtflhiohjikgedaaGreatDoor
