/-
  The walk of piece.Open.
-/
import Derived.Test.YtflhiohjikgedaaGreatDoorLOpenLaw
set_option linter.unusedSimpArgs false
set_option linter.unusedVariables false
set_option maxRecDepth 100000
set_option maxHeartbeats 32000000
namespace Go.Proofs.YtflhiohjikgedaaGreatDoor
open Go.RowKit
theorem byte_info : (Tryz.prog.info? 5).map (fun i => (i.zero, i.size, i.bytes)) = some (some (.int .u8 0), 1, 1) := by kernel_rfl
def partZ : Value := .agg #[.slice none 0 0, .int .i64 0, .int .i64 0, .int .i64 0, .int .i64 0, .bool false, .bool false]
theorem part_info : (Tryz.prog.info? 94).map (fun i => (i.zero, i.size, i.bytes)) = some (some partZ, 7, 64) := by kernel_rfl
theorem part_row : ∃ i z, Tryz.prog.info? 94 = some i /\ i.zero = some z /\ i.size = 7 /\ i.bytes = 64 /\ z.cells.size = 7 := by
 obtain ⟨i, h1, h2, h3, h4⟩ := info_parts part_info
 exact ⟨i, partZ, h1, h2, h3, h4, rfl⟩
theorem ownsRow_below {w w' : World} {B e size n : Nat} {v : Value} {xs : List Value} (h : w.ownsRow B e size v n xs) (hb : Below w.heap.size w w') : w'.ownsRow B e size v n xs := by
 refine ⟨h.1, ?_⟩
 rcases h.2 with hn | ⟨g, cap, cur, rfl, hg, hgg, rest⟩
 ·exact .inl hn
 ·exact .inr ⟨g, cap, cur, rfl, hg, by rw [hb.block g (Array.getElem?_eq_some_iff.1 hgg).1]; exact hgg, rest⟩
theorem part_one (A : Option Addr) (n c : Nat) (t a b d : Int) (x y : Bool) : ∀ u ∈ [Value.slice A n c, .int .i64 t, .int .i64 a, .int .i64 b, .int .i64 d, .bool x, .bool y], u.oneCell' = true := by
 intro u hu
 simp at hu
 rcases hu with rfl | rfl | rfl | rfl | rfl | rfl | rfl <;> rfl
theorem below_grown2 {B : Nat} {w w1 w2 : World} {row : Option Nat} (hb : Below B w w1) (hg : w1.grownBy w2 row) (hr : ∀ k, row = some k -> B <= k) (hB : B <= w.heap.size := by omega) : Below B w w2 :=
 ⟨hg.os.trans hb.os, hg.tape.trans hb.tape, hg.output.trans hb.output, Nat.le_trans hb.size hg.size, fun k hk => (hg.block k (Nat.lt_of_lt_of_le hk (Nat.le_trans hB hb.size)) (fun e => by have := hr k e.symm; omega)).trans (hb.block k hk)⟩
theorem own_slice {w : World} {B e size n : Nat} {v : Value} {xs : List Value} (h : w.ownsRow B e size v n xs) : ∃ A c, v = .slice A n c /\ n <= c := by
 rcases h.2 with ⟨rfl, h0⟩ | ⟨g, cap, cur, rfl, _, _, hc, _⟩
 ·exact ⟨none, 0, by rw [h0], by omega⟩
 ·exact ⟨_, cap, rfl, hc⟩
theorem own_full {w : World} {g n : Nat} {e : TypeId} {xs : List Value} (h : w.ownsRow g e 1 (.slice (some ⟨g, 0, none⟩) n n) n xs) : Blk w g e xs.toArray := by
 rcases h.2 with ⟨e0, _⟩ | ⟨g', cap, cur, e1, _, e3, _, _, e5, e6⟩
 ·cases e0
 ·injection e1 with e1 e1' e1''
  injection e1 with e1
  injection e1 with e1
  subst e1
  have hl := h.1
  unfold Blk
  rw [e3, <- e6, List.take_of_length_le (by simp [e5]; omega)]
theorem below_grown {w w' : World} (h : w.grownBy w' none) : Below w.heap.size w w' := ⟨h.os, h.tape, h.output, h.size, fun k hk => h.block k hk (by simp)⟩
theorem copy_all {D : Nat -> Prop} (A : Option Addr) (n c : Nat) (l : List Int) (w w1 : World) (xs : List Value) (hle : l.length = n) (hxl : xs.length = n) (hB1 : Blk w1 w.heap.size 5 xs.toArray) (hW1 : Below w.heap.size w w1) (hl1 : Reads w1 D 1 A n (l.map (Value.int .u8))) :
  ∃ w2, (Builtin.copy_ #[22, 22] 3 #[.slice (some ⟨w.heap.size, 0, none⟩) n n, .slice A n c]).run Tryz.prog w1 = .ok (.int .i64 (n : Int)) w2 /\ Blk w2 w.heap.size 5 (l.map (Value.int .u8)).toArray /\ Below w.heap.size w w2 := by
 have hsz : (Tryz.prog.info? 5).map (·.size) = some 1 := by kernel_rfl
 by_cases h0 : n = 0
 ·subst h0
  have e1 : l = [] := List.eq_nil_of_length_eq_zero hle
  have e2 : xs = [] := List.eq_nil_of_length_eq_zero hxl
  subst e1
  subst e2
  exact ⟨w1, run_copy_none (P := Tryz.prog) w1 22 22 3 5 _ _ 0 0 0 c Tryz.underlying22 hsz rfl, hB1, hW1⟩
 ·obtain ⟨ad, rfl, _, hc⟩ := hl1.2 (by omega)
  have hd : xs.drop n = [] := List.drop_eq_nil_of_le (by omega)
  have hrun := run_copy_row (P := Tryz.prog) w1 22 22 3 5 w.heap.size 0 n n ad n c xs.toArray 5 (l.map (Value.int .u8)) Tryz.underlying22 hsz hB1 (by simp [hle]) hc (by simp [hle, hxl]) (by
   intro v hv
   obtain ⟨x, _, rfl⟩ := List.mem_map.1 hv
   rfl)
  rw [show (l.map (Value.int .u8)).length = n by simp [hle]] at hrun
  refine ⟨_, hrun, ?_, below_setRow hW1 (Nat.le_refl _) _⟩
  have := setRow_heap w1 w.heap.size xs.toArray (xs.toArray.toList.take 0 ++ (l.map (Value.int .u8) ++ xs.toArray.toList.drop (0 + n))).toArray 5 _ hB1
  simp only [List.take_zero, List.nil_append, Nat.zero_add] at this
  rw [hd, List.append_nil] at this
  simp only [List.take_zero, List.nil_append, Nat.zero_add]
  rw [hd, List.append_nil]
  exact this
theorem bts_blk {w : World} {g n : Nat} {T : TypeId} {l : List Int} (hb : Blk w g T (l.map (Value.int .u8)).toArray) (hn : l.length = n) : Bts w (· = g) (some ⟨g, 0, none⟩) n l := by
 have := PcIn.bts (p := ⟨some ⟨g, 0, none⟩, n, n, 0, zeroS, l⟩) (w := w) (T := T) (g := g) (l := l) ⟨0, rfl, by rw [List.drop_zero, List.take_of_length_le (by show l.length <= n; omega)], by show 0 + n <= _; omega⟩ hb
 exact this
def textC (enc lim : Int) (a : Option Addr) : Array Value := #[.int .i64 enc, .int .i64 lim, .pointer a, .slice none 0 0]
def OpenR (enc lim : Int) (l : List Int) (w w2 : World) (n k : Nat) (q10 q11 : Value) (wr : World) : Prop :=
 ∃ (p : Nat) (ps : List Pc) (v : Value), q10 = v /\ q11 = .int .i64 (p : Int) /\ OpenOk enc l w.heap.size p ps /\ wr.ownsRow (w2.heap.size + 1) 94 7 v ps.length (ps.flatMap fun p => p.cells.toList) /\
  Blk wr w.heap.size 5 (l.map (Value.int .u8)).toArray /\ Blk wr w2.heap.size 88 (textC enc lim none) /\ Below w.heap.size w wr /\ n - p <= k /\ w2.heap.size + 1 <= wr.heap.size
def OpenI (enc : Int) (l : List Int) (p n : Nat) (w0 : World) (k : Nat) (q12 q13 : Value) (wr : World) : Prop :=
 ∃ m j : Nat, q12 = .int .i64 ((p + m : Nat) : Int) /\ q13 = .int .i64 (j : Int) /\ Hid ((m : Int) = szs enc (l.drop p) j) /\ p + m <= n /\ j <= 128 /\ Hid (0 < j -> 0 < m) /\ Below w0.heap.size w0 wr /\ n - (p + m) <= k
def OpenPost (enc lim : Int) (l : List Int) (w : World) (e : Ending) (w' : World) : Prop :=
 ∃ g, e = .returned (.tuple #[.pointer (some ⟨g, 0, none⟩), .int .i64 0]) /\ TextL w' (fun b => w.heap.size <= b) g enc lim (dec enc l) (tagF 0 0 (dec enc l)) /\ w.heap.size <= g /\ Below w.heap.size w w'
theorem open_any (enc lim : Int) (D : Nat -> Prop) (A : Option Addr) (n c : Nat) (l : List Int) (w : World) (he : enc = 1 \/ enc = 2 \/ enc = 3 \/ enc = 4) (hl : Bts w D A n l) (hb : Byt l) (hlim : (n : Int) <= lim /\ lim <= 65536) (hcap : n <= c) :
  Calls Tryz.prog 10 #[.int .i64 enc, .slice A n c, .int .i64 lim] w fun e w' => OpenPost enc lim l w e w' := by
 have hle := hl.len
 have hn : n <= 65536 := by omega
 have q2 : (lim < 0) = False := by simp; omega
 have q3 : (65536 < lim) = False := by simp; omega
 have q4 : (lim < (n : Int)) = False := by simp; omega
 have q0 : (enc < 1) = False := by simp; omega
 have q1 : (4 < enc) = False := by simp; omega
 obtain ⟨ib, hib, hb0, hb1, hb2⟩ := info_parts byte_info
 have HE := Lib.hid he
 clear he
 go_enter Tryz.func10, Tryz.ntmps10
 go_wp2_with (at_make; refine wpList_make_full _ rfl _ _ 22 rfl w.heap.size 5 ib (.int .u8 0) 1 Tryz.underlying22 hib hb0 hb1 _ _ _ _ n rfl rfl rfl rfl (by rw [hb2]; omega) (by unfold maxLen; omega) (Nat.le_refl _) ?_)
 intro w1 ho1 hg1
 obtain ⟨xs, hxs⟩ : ∃ xs, (madeCells #[Value.int .u8 0] n).toList = xs := ⟨_, rfl⟩
 rw [hxs] at ho1
 have hxl : xs.length = n := by have := ho1.1; omega
 have hB1 : Blk w1 w.heap.size 5 xs.toArray := own_full ho1
 have hW1 : Below w.heap.size w w1 := below_grown hg1
 have hl1 := Reads.below hl hW1
 clear hxs ho1 hg1 hib hb0 hb1 hb2 ib
 obtain ⟨w2, hr, hB2, hW2⟩ := copy_all A n c l w w1 xs hle hxl hB1 hW1 hl1
 clear hB1 hW1 hxl xs
 go_wp2_with fail
 clear hr hl1 w1
 go_loopg [10, 11] n (fun k q10 q11 wr => OpenR enc lim l w w2 n k q10 q11 wr)
 case atStart =>
  refine ⟨0, [], .slice none 0 0, rfl, rfl, OpenOk.start enc l _, World.ownsRow_nil _ _ _ _, hB2.alloc _, Blk.new w2 _ _, hW2.alloc hW2.size _, by omega, by simp⟩
 case round =>
  obtain ⟨w1, hw1⟩ : ∃ x, x = wr := ⟨_, rfl⟩
  subst hw1
  obtain ⟨k1, hk1⟩ : ∃ x, x = gk := ⟨_, rfl⟩
  subst hk1
  obtain ⟨p, ps, v, rfl, rfl, hok, ho, hB, hT, hW, hk, hsz⟩ := hrel
  have HO := Lib.hid ho
  clear ho
  by_cases hlt : p < n
  ·go_wp2_with fail
   go_loopg [12, 13] (n - p) (fun k a b w' => OpenI enc l p n w1 k a b w')
   case atStart => exact ⟨0, 0, rfl, rfl, Lib.hid rfl, by omega, by omega, Lib.hid (fun h => absurd h (by omega)), Below.refl _ _, by omega⟩
   case round =>
    obtain ⟨wi, hwi⟩ : ∃ x, x = wr := ⟨_, rfl⟩
    subst hwi
    have hrel2 := hrel
    clear hrel
    obtain ⟨m, j, rfl, rfl, hm, hle2, hj, hjm, hbi, hki⟩ := hrel2
    have hBi := hB.below hbi
    have hbt := bts_blk hBi hle
    by_cases hgo : p + m < n /\ j < 128
    ·obtain ⟨hg1, hg2⟩ := hgo
     have hz := sizeAt_bd enc (l.drop (p + m)) (by rw [List.length_drop]; omega)
     have hst := szs_step enc j (l.drop p) (by rw [<- hm.out, List.length_drop]; omega)
     rw [<- hm.out, Int.toNat_natCast, List.drop_drop] at hst
     obtain ⟨a, ha⟩ : ∃ a, atomAt enc (l.drop (p + m)) = a := ⟨_, rfl⟩
     obtain ⟨z, hzz⟩ : ∃ z : Nat, sizeAt enc (l.drop (p + m)) = (z : Int) := ⟨(sizeAt enc (l.drop (p + m))).toNat, by omega⟩
     have hcn := cnext_any enc (· = w.heap.size) (some ⟨w.heap.size, 0, none⟩) n n (p + m) l wi HE.out hbt hb (by omega) (Nat.le_refl _) hg1
     rw [ha, hzz] at hcn
     rw [hzz, List.length_drop] at hz
     rw [hzz] at hst
     have HC := Lib.hid hcn
     have HS := Lib.hid hst
     clear hcn ha hzz hst
     go_wp2_with fail
     refine (HC.out).mono ?_
     rintro e w3 ⟨rfl, hb3⟩
     go_wp2_with fail
     go_roundg (n - (p + (m + z)))
     case measure => omega
     case rel =>
      refine ⟨m + z, j + 1, by go_num, by go_num, Lib.hid ?_, by omega, by omega, Lib.hid (fun _ => by omega), bseq hbi hb3, by omega⟩
      rw [HS.out]
      omega
    ·have h0 : 0 < m := by
      rcases Nat.eq_zero_or_pos m with h | h
      ·subst h
       have := hjm.out
       omega
      ·exact h
     have hx' : ((p : Int) + (m : Int) < (n : Int)) = False \/ (((p : Int) + (m : Int) < (n : Int)) = True /\ ((j : Int) < 128) = False) := by simp; omega
     have hpc : PcIn w.heap.size l (pcOf enc l w.heap.size p m) := ⟨p, rfl, rfl, Nat.le_trans hle2 (Nat.le_of_eq hle.symm)⟩
     have hpsl := hok.len
     have hpsn := hok.le
     obtain ⟨ip, zp, hip, hp0, hp1, hp2, hp3⟩ := part_row
     have hnp := newPart_any enc (· = w.heap.size) (some ⟨w.heap.size, p, none⟩) m m (p : Int) ((l.drop p).take m) wi HE.out (hpc.bts hBi) ((hb.drop _).take _) (by omega) (Nat.le_refl _)
     obtain ⟨S, hS⟩ : ∃ S, sumsOf (dec enc ((l.drop p).take m)) = S := ⟨_, rfl⟩
     rw [hS] at hnp
     have HSS := Lib.hid hS
     have HNP := Lib.hid hnp
     clear hS hnp
     rcases hx' with hx | ⟨hx0, hx⟩
     all_goals
      go_wp2_with fail
      refine (HNP.out).mono ?_
      rintro e w3 ⟨rfl, hb3⟩
      unfold partC
      have hs3 : w2.heap.size + 1 <= w3.heap.size := by have := hbi.size; have := hb3.size; omega
      have hwb : Below w.heap.size w w3 := bseq (bseq hW hbi) hb3
      have ho3 := ownsRow_below HO.out (bseq hbi hb3)
      have HO3 := Lib.hid ho3
      clear ho3
      go_wp2_with (at_builtin; go_loud (refine wpList_append_own _ rfl (.tmp 70) (.tmp 79) 89 rfl (w2.heap.size + 1) 94 ip zp 7 64 Tryz.underlying89 hip hp0 hp1 hp2 hp3 (by decide) u10 ps.length _ rfl (HO3.out.alloc _) ⟨w3.heap.size, 0, none⟩ 1 1 [.slice (some ⟨w.heap.size, p, none⟩) m m, .int .i64 (p : Int), .int .i64 S.atoms, .int .i64 S.bytes, .int .i64 S.breaks, .bool S.lf, .bool S.cr] rfl rfl (cells_new _ _ _) (part_one _ _ _ _ _ _ _ _ _) (by unfold maxLen; omega) (by omega) (by simp; omega) ?_))
      intro v1 w4 hown4 hgr _
      have hA := HO3.out.alloc (.cells #[.slice (some ⟨w.heap.size, p, none⟩) m m, .int .i64 (p : Int), .int .i64 S.atoms, .int .i64 S.bytes, .int .i64 S.breaks, .bool S.lf, .bool S.cr] 94)
      have hB4 : Blk w4 w.heap.size 5 (l.map (Value.int .u8)).toArray := ((hBi.below hb3).alloc _).grown hgr (fun e => own_blk_ne hA ((hBi.below hb3).alloc _) (by decide) e.symm)
      have hT4 : Blk w4 w2.heap.size 88 (textC enc lim none) := (((hT.below hbi).below hb3).alloc _).grown hgr (fun e => own_blk_ne hA (((hT.below hbi).below hb3).alloc _) (by decide) e.symm)
      have hW4 : Below w.heap.size w w4 := below_grown2 (hwb.alloc hwb.size _) hgr (fun k hk => by have := own_ge hA hk; have := hW2.size; omega)
      have hz4 : w2.heap.size + 1 <= w4.heap.size := by have := hgr.size; simp at this; omega
      have H4 := Lib.hid hown4
      clear hown4 hgr hA
      go_wp2_with fail
      go_roundg (n - (p + m))
      case measure => omega
      case rel =>
       have hstp := hok.step hb hm.out h0 (by omega) (by omega)
       refine ⟨p + m, _, v1, rfl, by go_num, hstp, ?_, hB4, hT4, hW4, Nat.le_refl _, hz4⟩
       have := H4.out
       rw [List.length_append, List.flatMap_append]
       simp only [pcOf, HSS.out]
       exact this
  ·have hpn : p = l.length := by have := hok.le; omega
   subst hpn
   obtain ⟨A', c', rfl, hc'⟩ := own_slice HO.out
   have hto := treeOf_any (fun b => w2.heap.size + 1 <= b) A' ps.length c' ps w1 (Reads.of_own HO.out) hok.good (by rw [hok.tot]; omega) (by have := hok.len; omega) hc'
   have HTO := Lib.hid hto
   clear hto HO
   go_wp2_with fail
   refine (HTO.out).mono ?_
   rintro e w3 ⟨a, rfl, hn3, hb3⟩
   have hT3 := hT.below hb3
   have c2 := hT3.cell 2
   have f2 := hT3.frozen 2
   simp [textC] at c2
   go_wp2_with fail
   go_ret2
   refine ⟨w2.heap.size, rfl, ?_, hW2.size, ?_⟩
   ·exact hok.text (by omega) HE.out ((hB.below hb3).far (by have := hB2.lt; simp; omega) _) (Nat.le_refl _) ((hT3.set_ 2 _).eq_ rfl) (NodeAt.keepBut (KeepBut.of_fr ((Fr.refl _ _).set1 2 _) hT3) (by decide) _ _ hn3)
   ·exact (bseq hW hb3).setCell hW2.size _
end Go.Proofs.YtflhiohjikgedaaGreatDoor
