/-
  The walk of piece.Open. The walks of the document's decoder (package copyistref1), second part: eightAt, unitAt, At, Next.
-/
import Derived.Test.YtkocknfhdojmbaaGreatLOpenLaw
import Derived.Test.YtkocknfhdojmbaaGreatLRf1
set_option linter.unusedSimpArgs false
set_option linter.unusedVariables false
set_option maxRecDepth 100000
set_option maxHeartbeats 32000000
namespace Go.Proofs.YtkocknfhdojmbaaGreat
open Go.RowKit
theorem byte_info : (Tryz.prog.info? 5).map (fun i => (i.zero, i.size, i.bytes)) = some (some (.int .u8 0), 1, 1) := by kernel_rfl
def partZ : Value := .agg #[.slice none 0 0, .int .i64 0, .int .i64 0, .int .i64 0, .int .i64 0, .bool false, .bool false]
theorem part_info : (Tryz.prog.info? 117).map (fun i => (i.zero, i.size, i.bytes)) = some (some partZ, 7, 64) := by kernel_rfl
theorem part_row : ∃ i z, Tryz.prog.info? 117 = some i /\ i.zero = some z /\ i.size = 7 /\ i.bytes = 64 /\ z.cells.size = 7 := by
 obtain ⟨i, h1, h2, h3, h4⟩ := info_parts part_info
 exact ⟨i, partZ, h1, h2, h3, h4, rfl⟩
theorem ownsRow_below {w w' : World} {B e size n : Nat} {v : Value} {xs : List Value} (h : w.ownsRow B e size v n xs) (hb : Below w.heap.size w w') : w'.ownsRow B e size v n xs := by
 refine ⟨h.1, ?_⟩
 rcases h.2 with hn | ⟨g, cap, cur, rfl, hg, hgg, rest⟩
 ·exact .inl hn
 ·exact .inr ⟨g, cap, cur, rfl, hg, by rw [hb.block g (Array.getElem?_eq_some_iff.1 hgg).1]; exact hgg, rest⟩
theorem part_one (A : Option Addr) (n c : Nat) (t a b d : Int) (x y : Bool) : ∀ u ∈ [Value.slice A n c, .int .i64 t, .int .i64 a, .int .i64 b, .int .i64 d, .bool x, .bool y], u.oneCell' = true := by
 intro u hu
 simp at hu
 rcases hu with rfl | rfl | rfl | rfl | rfl | rfl | rfl <;> rfl
theorem below_grown2 {B : Nat} {w w1 w2 : World} {row : Option Nat} (hb : Below B w w1) (hg : w1.grownBy w2 row) (hr : ∀ k, row = some k -> B <= k) (hB : B <= w.heap.size := by omega) : Below B w w2 :=
 ⟨hg.os.trans hb.os, hg.tape.trans hb.tape, hg.output.trans hb.output, Nat.le_trans hb.size hg.size, fun k hk => (hg.block k (Nat.lt_of_lt_of_le hk (Nat.le_trans hB hb.size)) (fun e => by have := hr k e.symm; omega)).trans (hb.block k hk)⟩
theorem own_slice {w : World} {B e size n : Nat} {v : Value} {xs : List Value} (h : w.ownsRow B e size v n xs) : ∃ A c, v = .slice A n c /\ n <= c := by
 rcases h.2 with ⟨rfl, h0⟩ | ⟨g, cap, cur, rfl, _, _, hc, _⟩
 ·exact ⟨none, 0, by rw [h0], by omega⟩
 ·exact ⟨_, cap, rfl, hc⟩
theorem own_full {w : World} {g n : Nat} {e : TypeId} {xs : List Value} (h : w.ownsRow g e 1 (.slice (some ⟨g, 0, none⟩) n n) n xs) : Blk w g e xs.toArray := by
 rcases h.2 with ⟨e0, _⟩ | ⟨g', cap, cur, e1, _, e3, _, _, e5, e6⟩
 ·cases e0
 ·injection e1 with e1 e1' e1''
  injection e1 with e1
  injection e1 with e1
  subst e1
  have hl := h.1
  unfold Blk
  rw [e3, <- e6, List.take_of_length_le (by simp [e5]; omega)]
theorem below_grown {w w' : World} (h : w.grownBy w' none) : Below w.heap.size w w' := ⟨h.os, h.tape, h.output, h.size, fun k hk => h.block k hk (by simp)⟩
theorem copy_all {D : Nat -> Prop} (A : Option Addr) (n c : Nat) (l : List Int) (w w1 : World) (xs : List Value) (hle : l.length = n) (hxl : xs.length = n) (hB1 : Blk w1 w.heap.size 5 xs.toArray) (hW1 : Below w.heap.size w w1) (hl1 : Reads w1 D 1 A n (l.map (Value.int .u8))) :
  ∃ w2, (Builtin.copy_ #[22, 22] 3 #[.slice (some ⟨w.heap.size, 0, none⟩) n n, .slice A n c]).run Tryz.prog w1 = .ok (.int .i64 (n : Int)) w2 /\ Blk w2 w.heap.size 5 (l.map (Value.int .u8)).toArray /\ Below w.heap.size w w2 := by
 have hsz : (Tryz.prog.info? 5).map (·.size) = some 1 := by kernel_rfl
 by_cases h0 : n = 0
 ·subst h0
  have e1 : l = [] := List.eq_nil_of_length_eq_zero hle
  have e2 : xs = [] := List.eq_nil_of_length_eq_zero hxl
  subst e1
  subst e2
  exact ⟨w1, run_copy_none (P := Tryz.prog) w1 22 22 3 5 _ _ 0 0 0 c Tryz.underlying22 hsz rfl, hB1, hW1⟩
 ·obtain ⟨ad, rfl, _, hc⟩ := hl1.2 (by omega)
  have hd : xs.drop n = [] := List.drop_eq_nil_of_le (by omega)
  have hrun := run_copy_row (P := Tryz.prog) w1 22 22 3 5 w.heap.size 0 n n ad n c xs.toArray 5 (l.map (Value.int .u8)) Tryz.underlying22 hsz hB1 (by simp [hle]) hc (by simp [hle, hxl]) (by
   intro v hv
   obtain ⟨x, _, rfl⟩ := List.mem_map.1 hv
   rfl)
  rw [show (l.map (Value.int .u8)).length = n by simp [hle]] at hrun
  refine ⟨_, hrun, ?_, below_setRow hW1 (Nat.le_refl _) _⟩
  have := setRow_heap w1 w.heap.size xs.toArray (xs.toArray.toList.take 0 ++ (l.map (Value.int .u8) ++ xs.toArray.toList.drop (0 + n))).toArray 5 _ hB1
  simp only [List.take_zero, List.nil_append, Nat.zero_add] at this
  rw [hd, List.append_nil] at this
  simp only [List.take_zero, List.nil_append, Nat.zero_add]
  rw [hd, List.append_nil]
  exact this
theorem bts_blk {w : World} {g n : Nat} {T : TypeId} {l : List Int} (hb : Blk w g T (l.map (Value.int .u8)).toArray) (hn : l.length = n) : Bts w (· = g) (some ⟨g, 0, none⟩) n l := by
 have := PcIn.bts (p := ⟨some ⟨g, 0, none⟩, n, n, 0, zeroS, l⟩) (w := w) (T := T) (g := g) (l := l) ⟨0, rfl, by rw [List.drop_zero, List.take_of_length_le (by show l.length <= n; omega)], by show 0 + n <= _; omega⟩ hb
 exact this
def textC (enc lim : Int) (a : Option Addr) : Array Value := #[.int .i64 enc, .int .i64 lim, .pointer a, .slice none 0 0]
def OpenR (enc lim : Int) (l : List Int) (w w2 : World) (n k : Nat) (q10 q11 : Value) (wr : World) : Prop :=
 ∃ (p : Nat) (ps : List Pc) (v : Value), q10 = v /\ q11 = .int .i64 (p : Int) /\ OpenOk enc l w.heap.size p ps /\ wr.ownsRow (w2.heap.size + 1) 117 7 v ps.length (ps.flatMap fun p => p.cells.toList) /\
  Blk wr w.heap.size 5 (l.map (Value.int .u8)).toArray /\ Blk wr w2.heap.size 114 (textC enc lim none) /\ Below w.heap.size w wr /\ n - p <= k /\ w2.heap.size + 1 <= wr.heap.size
def OpenI (enc : Int) (l : List Int) (p n : Nat) (w0 : World) (k : Nat) (q12 q13 : Value) (wr : World) : Prop :=
 ∃ m j : Nat, q12 = .int .i64 ((p + m : Nat) : Int) /\ q13 = .int .i64 (j : Int) /\ Hid ((m : Int) = szs enc (l.drop p) j) /\ p + m <= n /\ j <= 128 /\ Hid (0 < j -> 0 < m) /\ Below w0.heap.size w0 wr /\ n - (p + m) <= k
def OpenPost (enc lim : Int) (l : List Int) (w : World) (e : Ending) (w' : World) : Prop :=
 ∃ g, e = .returned (.tuple #[.pointer (some ⟨g, 0, none⟩), .int .i64 0]) /\ TextL w' (fun b => w.heap.size <= b) g enc lim (dec enc l) (tagF 0 0 (dec enc l)) /\ w.heap.size <= g /\ Below w.heap.size w w'
theorem open_any (enc lim : Int) (D : Nat -> Prop) (A : Option Addr) (n c : Nat) (l : List Int) (w : World) (he : enc = 1 \/ enc = 2 \/ enc = 3 \/ enc = 4) (hl : Bts w D A n l) (hb : Byt l) (hlim : (n : Int) <= lim /\ lim <= 65536) (hcap : n <= c) :
  Calls Tryz.prog 124 #[.int .i64 enc, .slice A n c, .int .i64 lim] w fun e w' => OpenPost enc lim l w e w' := by
 have hle := hl.len
 have hn : n <= 65536 := by omega
 have q2 : (lim < 0) = False := by simp; omega
 have q3 : (65536 < lim) = False := by simp; omega
 have q4 : (lim < (n : Int)) = False := by simp; omega
 have q0 : (enc < 1) = False := by simp; omega
 have q1 : (4 < enc) = False := by simp; omega
 obtain ⟨ib, hib, hb0, hb1, hb2⟩ := info_parts byte_info
 have HE := Lib.hid he
 clear he
 go_enter Tryz.func124, Tryz.ntmps124
 go_wp2_with (at_make; refine wpList_make_full _ rfl _ _ 22 rfl w.heap.size 5 ib (.int .u8 0) 1 Tryz.underlying22 hib hb0 hb1 _ _ _ _ n rfl rfl rfl rfl (by rw [hb2]; omega) (by unfold maxLen; omega) (Nat.le_refl _) ?_)
 intro w1 ho1 hg1
 obtain ⟨xs, hxs⟩ : ∃ xs, (madeCells #[Value.int .u8 0] n).toList = xs := ⟨_, rfl⟩
 rw [hxs] at ho1
 have hxl : xs.length = n := by have := ho1.1; omega
 have hB1 : Blk w1 w.heap.size 5 xs.toArray := own_full ho1
 have hW1 : Below w.heap.size w w1 := below_grown hg1
 have hl1 := Reads.below hl hW1
 clear hxs ho1 hg1 hib hb0 hb1 hb2 ib
 obtain ⟨w2, hr, hB2, hW2⟩ := copy_all A n c l w w1 xs hle hxl hB1 hW1 hl1
 clear hB1 hW1 hxl xs
 go_wp2_with fail
 clear hr hl1 w1
 go_loopg [10, 11] n (fun k q10 q11 wr => OpenR enc lim l w w2 n k q10 q11 wr)
 case atStart =>
  refine ⟨0, [], .slice none 0 0, rfl, rfl, OpenOk.start enc l _, World.ownsRow_nil _ _ _ _, hB2.alloc _, Blk.new w2 _ _, hW2.alloc hW2.size _, by omega, by simp⟩
 case round =>
  obtain ⟨w1, hw1⟩ : ∃ x, x = wr := ⟨_, rfl⟩
  subst hw1
  obtain ⟨k1, hk1⟩ : ∃ x, x = gk := ⟨_, rfl⟩
  subst hk1
  obtain ⟨p, ps, v, rfl, rfl, hok, ho, hB, hT, hW, hk, hsz⟩ := hrel
  have HO := Lib.hid ho
  clear ho
  by_cases hlt : p < n
  ·go_wp2_with fail
   go_loopg [12, 13] (n - p) (fun k a b w' => OpenI enc l p n w1 k a b w')
   case atStart => exact ⟨0, 0, rfl, rfl, Lib.hid rfl, by omega, by omega, Lib.hid (fun h => absurd h (by omega)), Below.refl _ _, by omega⟩
   case round =>
    obtain ⟨wi, hwi⟩ : ∃ x, x = wr := ⟨_, rfl⟩
    subst hwi
    have hrel2 := hrel
    clear hrel
    obtain ⟨m, j, rfl, rfl, hm, hle2, hj, hjm, hbi, hki⟩ := hrel2
    have hBi := hB.below hbi
    have hbt := bts_blk hBi hle
    by_cases hgo : p + m < n /\ j < 128
    ·obtain ⟨hg1, hg2⟩ := hgo
     have hz := sizeAt_bd enc (l.drop (p + m)) (by rw [List.length_drop]; omega)
     have hst := szs_step enc j (l.drop p) (by rw [<- hm.out, List.length_drop]; omega)
     rw [<- hm.out, Int.toNat_natCast, List.drop_drop] at hst
     obtain ⟨a, ha⟩ : ∃ a, atomAt enc (l.drop (p + m)) = a := ⟨_, rfl⟩
     obtain ⟨z, hzz⟩ : ∃ z : Nat, sizeAt enc (l.drop (p + m)) = (z : Int) := ⟨(sizeAt enc (l.drop (p + m))).toNat, by omega⟩
     have hcn := cnext_any enc (· = w.heap.size) (some ⟨w.heap.size, 0, none⟩) n n (p + m) l wi HE.out hbt hb (by omega) (Nat.le_refl _) hg1
     rw [ha, hzz] at hcn
     rw [hzz, List.length_drop] at hz
     rw [hzz] at hst
     have HC := Lib.hid hcn
     have HS := Lib.hid hst
     clear hcn ha hzz hst
     go_wp2_with fail
     refine (HC.out).mono ?_
     rintro e w3 ⟨rfl, hb3⟩
     go_wp2_with fail
     go_roundg (n - (p + (m + z)))
     case measure => omega
     case rel =>
      refine ⟨m + z, j + 1, by go_num, by go_num, Lib.hid ?_, by omega, by omega, Lib.hid (fun _ => by omega), bseq hbi hb3, by omega⟩
      rw [HS.out]
      omega
    ·have h0 : 0 < m := by
      rcases Nat.eq_zero_or_pos m with h | h
      ·subst h
       have := hjm.out
       omega
      ·exact h
     have hx' : ((p : Int) + (m : Int) < (n : Int)) = False \/ (((p : Int) + (m : Int) < (n : Int)) = True /\ ((j : Int) < 128) = False) := by simp; omega
     have hpc : PcIn w.heap.size l (pcOf enc l w.heap.size p m) := ⟨p, rfl, rfl, Nat.le_trans hle2 (Nat.le_of_eq hle.symm)⟩
     have hpsl := hok.len
     have hpsn := hok.le
     obtain ⟨ip, zp, hip, hp0, hp1, hp2, hp3⟩ := part_row
     have hnp := newPart_any enc (· = w.heap.size) (some ⟨w.heap.size, p, none⟩) m m (p : Int) ((l.drop p).take m) wi HE.out (hpc.bts hBi) ((hb.drop _).take _) (by omega) (Nat.le_refl _)
     obtain ⟨S, hS⟩ : ∃ S, sumsOf (dec enc ((l.drop p).take m)) = S := ⟨_, rfl⟩
     rw [hS] at hnp
     have HSS := Lib.hid hS
     have HNP := Lib.hid hnp
     clear hS hnp
     rcases hx' with hx | ⟨hx0, hx⟩
     all_goals
      go_wp2_with fail
      refine (HNP.out).mono ?_
      rintro e w3 ⟨rfl, hb3⟩
      unfold partC
      have hs3 : w2.heap.size + 1 <= w3.heap.size := by have := hbi.size; have := hb3.size; omega
      have hwb : Below w.heap.size w w3 := bseq (bseq hW hbi) hb3
      have ho3 := ownsRow_below HO.out (bseq hbi hb3)
      have HO3 := Lib.hid ho3
      clear ho3
      go_wp2_with (at_builtin; go_loud (refine wpList_append_own _ rfl (.tmp 70) (.tmp 79) 233 rfl (w2.heap.size + 1) 117 ip zp 7 64 Tryz.underlying233 hip hp0 hp1 hp2 hp3 (by decide) u10 ps.length _ rfl (HO3.out.alloc _) ⟨w3.heap.size, 0, none⟩ 1 1 [.slice (some ⟨w.heap.size, p, none⟩) m m, .int .i64 (p : Int), .int .i64 S.atoms, .int .i64 S.bytes, .int .i64 S.breaks, .bool S.lf, .bool S.cr] rfl rfl (cells_new _ _ _) (part_one _ _ _ _ _ _ _ _ _) (by unfold maxLen; omega) (by omega) (by simp; omega) ?_))
      intro v1 w4 hown4 hgr _
      have hA := HO3.out.alloc (.cells #[.slice (some ⟨w.heap.size, p, none⟩) m m, .int .i64 (p : Int), .int .i64 S.atoms, .int .i64 S.bytes, .int .i64 S.breaks, .bool S.lf, .bool S.cr] 117)
      have hB4 : Blk w4 w.heap.size 5 (l.map (Value.int .u8)).toArray := ((hBi.below hb3).alloc _).grown hgr (fun e => own_blk_ne hA ((hBi.below hb3).alloc _) (by decide) e.symm)
      have hT4 : Blk w4 w2.heap.size 114 (textC enc lim none) := (((hT.below hbi).below hb3).alloc _).grown hgr (fun e => own_blk_ne hA (((hT.below hbi).below hb3).alloc _) (by decide) e.symm)
      have hW4 : Below w.heap.size w w4 := below_grown2 (hwb.alloc hwb.size _) hgr (fun k hk => by have := own_ge hA hk; have := hW2.size; omega)
      have hz4 : w2.heap.size + 1 <= w4.heap.size := by have := hgr.size; simp at this; omega
      have H4 := Lib.hid hown4
      clear hown4 hgr hA
      go_wp2_with fail
      go_roundg (n - (p + m))
      case measure => omega
      case rel =>
       have hstp := hok.step hb hm.out h0 (by omega) (by omega)
       refine ⟨p + m, _, v1, rfl, by go_num, hstp, ?_, hB4, hT4, hW4, Nat.le_refl _, hz4⟩
       have := H4.out
       rw [List.length_append, List.flatMap_append]
       simp only [pcOf, HSS.out]
       exact this
  ·have hpn : p = l.length := by have := hok.le; omega
   subst hpn
   obtain ⟨A', c', rfl, hc'⟩ := own_slice HO.out
   have hto := treeOf_any (fun b => w2.heap.size + 1 <= b) A' ps.length c' ps w1 (Reads.of_own HO.out) hok.good (by rw [hok.tot]; omega) (by have := hok.len; omega) hc'
   have HTO := Lib.hid hto
   clear hto HO
   go_wp2_with fail
   refine (HTO.out).mono ?_
   rintro e w3 ⟨a, rfl, hn3, hb3⟩
   have hT3 := hT.below hb3
   have c2 := hT3.cell 2
   have f2 := hT3.frozen 2
   simp [textC] at c2
   go_wp2_with fail
   go_ret2
   refine ⟨w2.heap.size, rfl, ?_, hW2.size, ?_⟩
   ·exact hok.text (by omega) HE.out ((hB.below hb3).far (by have := hB2.lt; simp; omega) _) (Nat.le_refl _) ((hT3.set_ 2 _).eq_ rfl) (NodeAt.keepBut (KeepBut.of_fr ((Fr.refl _ _).set1 2 _) hT3) (by decide) _ _ hn3)
   ·exact (bseq hW hb3).setCell hW2.size _
theorem meantF_bd {l : List Int} (hb : Byt l) {n : Nat} (h0 : 1 <= n) (h1 : n <= 4) : -134217728 <= meantF l n /\ meantF l n <= 134217728 := by
 rw [meantF_acc l h0 h1]
 have := hb.at_ 0
 exact accM_bd hb (by unfold leadN; (repeat' split) <;> omega) h1
theorem ref8_at {l : List Int} {n : Nat} (h0 : 1 <= n) (h1 : n <= 4) (hok : okR l n = true) (hno : ∀ k, 1 <= k -> k < n -> okR l k = false) : ref8 l = (meantF l n, (n : Int)) := by
 unfold ref8
 match n, h0, h1 with
 | 1, _, _ => rw [if_pos hok]; rfl
 | 2, _, _ => rw [if_neg (by rw [hno 1 (by omega) (by omega)]; decide), if_pos hok]; rfl
 | 3, _, _ => rw [if_neg (by rw [hno 1 (by omega) (by omega)]; decide), if_neg (by rw [hno 2 (by omega) (by omega)]; decide), if_pos hok]; rfl
 | 4, _, _ => rw [if_neg (by rw [hno 1 (by omega) (by omega)]; decide), if_neg (by rw [hno 2 (by omega) (by omega)]; decide), if_neg (by rw [hno 3 (by omega) (by omega)]; decide), if_pos hok]; rfl
theorem ref8_none {l : List Int} (hno : ∀ k, 1 <= k -> k <= 4 -> okR l k = false) : ref8 l = (-1 - l.getD 0 0, 1) := by
 unfold ref8
 rw [if_neg (by rw [hno 1 (by omega) (by omega)]; decide), if_neg (by rw [hno 2 (by omega) (by omega)]; decide), if_neg (by rw [hno 3 (by omega) (by omega)]; decide), if_neg (by rw [hno 4 (by omega) (by omega)]; decide)]
theorem scalarF_bd {a : Int} (h : scalarF a = true) : 0 <= a /\ a <= 1114111 := by
 unfold scalarF at h
 rw [Bool.or_eq_true, decide_eq_true_eq, decide_eq_true_eq] at h
 omega
theorem eightL_len (a : Int) : 1 <= (eightL a).length /\ (eightL a).length <= 4 := by unfold eightL; (repeat' split) <;> simp
def E8R (L : List Int) (w0 : World) (k : Nat) (q : Value) (wr : World) : Prop :=
 ∃ n : Nat, q = .int .i64 (n : Int) /\ 1 <= n /\ n <= 5 /\ 5 - n <= k /\ Hid (∀ k, 1 <= k -> k < n -> okR L k = false) /\ Below w0.heap.size w0 wr
theorem reightAt_any (D : Nat -> Prop) (A : Option Addr) (N c p : Nat) (l : List Int) (w : World) (hl : Bts w D A N l) (hB : Byt l) (hN : N <= 2147483648) (hp : p < N) :
  Calls Tryz.prog 178 #[.slice A N c, .int .i64 (p : Int)] w fun e w' => e = .returned (.tuple #[.int .i64 (ref8 (l.drop p)).1, .int .i64 (ref8 (l.drop p)).2]) /\ Below w.heap.size w w' := by
 have hle := hl.len
 have hL : (l.drop p).length = N - p := by rw [List.length_drop, hle]
 have hL0 : (l.drop p).getD 0 0 = l.getD p 0 := by rw [getD_drop', Nat.add_zero]
 have hBL := hB.drop p
 have hm := fun (n : Nat) (w' : World) (h : n = 1 \/ n = 2 \/ n = 3 \/ n = 4) (h2 : p + n <= N) (hb : Below w.heap.size w w') => rmeant_any D A N c p n l w' (Reads.below hl hb) hB hN h h2
 have hg := fun (m c' : Nat) (A' : Option Addr) (x : List Int) (w' : World) (hx : Bts w' Any A' m x) (hm : m <= 16) (hb : Below w.heap.size w w') => rbegins_any D Any A A' N c m c' p l x w' (Reads.below hl hb) hx hN hm (Nat.le_of_lt hp)
 have hbe := fun (x : List Int) (h : p + x.length <= N) => begB_eq l p x (by rw [hle]; exact h)
 obtain ⟨L, hLL⟩ : ∃ L, l.drop p = L := ⟨_, rfl⟩
 rw [hLL] at hm hL hL0 hBL hbe
 rw [hLL]
 have HM := Lib.hid hm
 have HG := Lib.hid hg
 have HBE := Lib.hid hbe
 have HL := Lib.hid hL
 have HL0 := Lib.hid hL0
 clear hm hg hbe hL hL0 hLL
 go_enter Tryz.func178, Tryz.ntmps178
 go_wp2_with fail
 go_loopg [6] 5 (fun k q wr => E8R L w k q wr)
 case atStart => exact ⟨1, rfl, by omega, by omega, by omega, Lib.hid (fun k h1 h2 => absurd h2 (by omega)), Below.refl _ _⟩
 case round =>
  obtain ⟨n, rfl, hn1, hn5, hk, hno, hb⟩ := hrel
  by_cases hgo : n <= 4 /\ p + n <= N
  ·obtain ⟨hg4, hgN⟩ := hgo
   have q1 : ((p : Int) + (n : Int) <= (N : Int)) = True := by simp; omega
   have hmb := meantF_bd hBL hn1 hg4
   have HM2 := HM.out n wr (by omega) hgN hb
   have hokd : okR L n = (decide (n <= L.length) && scalarF (meantF L n) && (eightL (meantF L n) == L.take n)) := rfl
   have hr8 := fun (h : okR L n = true) => ref8_at hn1 hg4 h hno.out
   obtain ⟨M, hM⟩ : ∃ M, meantF L n = M := ⟨_, rfl⟩
   rw [hM] at hmb HM2 hokd hr8
   have hlenL := HL.out
   have hle1 : decide (n <= L.length) = true := by simp; omega
   rw [hle1, Bool.true_and] at hokd
   have HM3 := Lib.hid HM2
   have HR := Lib.hid hr8
   have HOK := Lib.hid hokd
   clear HM2 hr8 hokd hle1 hM
   go_wp2_with fail
   refine (HM3.out).mono ?_
   rintro e w1 ⟨rfl, hb1⟩
   have hw1 := bseq hb hb1
   cases hsc : scalarF M with
   | false =>
    have hs := rscalar_any M w1
    rw [hsc] at hs
    have HS := Lib.hid hs
    have HSC := Lib.hid hsc
    clear hs hsc
    go_wp2_with fail
    refine (HS.out).mono ?_
    rintro e w2 ⟨rfl, rfl⟩
    go_wp2_with fail
    go_roundg (5 - (n + 1))
    case measure => omega
    case rel =>
     refine ⟨n + 1, by go_num, by omega, by omega, by omega, Lib.hid (fun k h1 h2 => ?_), hw1⟩
     rcases Nat.lt_or_ge k n with h | h
     ·exact hno.out k h1 h
     ·rw [show k = n by omega, HOK.out, HSC.out]; rfl
   | true =>
    have hs := rscalar_any M w1
    rw [hsc] at hs
    have hMb := scalarF_bd hsc
    have HS := Lib.hid hs
    have HSC := Lib.hid hsc
    clear hs hsc
    go_wp2_with fail
    refine (HS.out).mono ?_
    rintro e w2 ⟨rfl, rfl⟩
    go_wp2_with fail
    refine (reight_any M w1 hMb.1 hMb.2).mono ?_
    rintro e w3 ⟨v, rfl, hown, hb3⟩
    obtain ⟨A', c', rfl, _⟩ := own_slice hown
    have hxl := eightL_len M
    obtain ⟨X, hX⟩ : ∃ X, eightL M = X := ⟨_, rfl⟩
    rw [hX] at hown hxl
    rw [hX]
    have hw3 := bseq hw1 hb3
    have hbg := HG.out X.length c' A' X w3 (Reads.more (Reads.of_own hown) (fun _ _ _ => trivial) (by decide)) (by omega) hw3
    have hbe : X.length = n -> begB l p X = decide (L.take X.length = X) := fun h => HBE.out X (by omega)
    obtain ⟨m, hm⟩ : ∃ m, X.length = m := ⟨_, rfl⟩
    rw [hm] at hbg hxl hbe
    rw [hm]
    obtain ⟨b, hbb⟩ : ∃ b, begB l p X = b := ⟨_, rfl⟩
    rw [hbb] at hbg hbe
    have HBG := Lib.hid hbg
    have HB2 := Lib.hid hbe
    have HX := Lib.hid hX
    have HMM := Lib.hid hm
    clear hbg hbe hbb hX hm hown
    by_cases hok : okR L n = true
    ·have hxx := HOK.out
     rw [hok, HSC.out, HX.out, Bool.true_and] at hxx
     have hx3 : X = L.take n := by rw [eq_comm, beq_iff_eq] at hxx; exact hxx
     have hmn : m = n := by
      have := congrArg List.length hx3
      rw [List.length_take, HMM.out] at this
      omega
     have hbt : b = true := by
      rw [HB2.out hmn, decide_eq_true_eq, hmn]
      exact hx3.symm
     subst hmn
     subst hbt
     have HOK2 := Lib.hid hok
     clear hok hxx hx3
     go_wp2_with fail
     refine (HBG.out).mono ?_
     rintro e w4 ⟨rfl, hb4⟩
     have q2 : ((m : Int) == (m : Int)) = true := by simp
     go_wp2_with fail
     go_ret2
     exact ⟨by rw [HR.out HOK2.out]; rfl, bseq hw3 hb4⟩
    ·have hok' : okR L n = false := by
      cases h : okR L n with
      | true => exact absurd h hok
      | false => rfl
     have hnext : Hid (∀ k, 1 <= k -> k < n + 1 -> okR L k = false) := Lib.hid (fun k h1 h2 => by
      rcases Nat.lt_or_ge k n with h | h
      ·exact hno.out k h1 h
      ·rw [show k = n by omega]; exact hok')
     by_cases hmn : m = n
     ·have hbf : b = false := by
       cases hb0 : b with
       | false => rfl
       | true =>
        exfalso
        apply hok
        have h1 := HB2.out hmn
        rw [hb0, eq_comm, decide_eq_true_eq, hmn] at h1
        rw [HOK.out, HSC.out, HX.out, Bool.true_and, beq_iff_eq]
        exact h1.symm
      subst hmn
      subst hbf
      clear hok hok'
      go_wp2_with fail
      refine (HBG.out).mono ?_
      rintro e w4 ⟨rfl, hb4⟩
      have q2 : ((m : Int) == (m : Int)) = true := by simp
      go_wp2_with fail
      go_roundg (5 - (m + 1))
      case measure => omega
      case rel => exact ⟨m + 1, by go_num, by omega, by omega, by omega, hnext, bseq hw3 hb4⟩
     ·clear hok hok'
      go_wp2_with fail
      refine (HBG.out).mono ?_
      rintro e w4 ⟨rfl, hb4⟩
      have q2 : ((m : Int) == (n : Int)) = false := by rw [beq_eq_false_iff_ne]; omega
      go_wp2_with fail
      go_roundg (5 - (n + 1))
      case measure => omega
      case rel => exact ⟨n + 1, by go_num, by omega, by omega, by omega, hnext, bseq hw3 hb4⟩
  ·have hfin : ref8 L = (-1 - L.getD 0 0, 1) := ref8_none (fun k h1 h2 => by
    rcases Nat.lt_or_ge k n with h | h
    ·exact hno.out k h1 h
    ·unfold okR
     have := HL.out
     rw [show decide (k <= L.length) = false by rw [decide_eq_false_iff_not]; omega]
     rfl)
   rw [HL0.out] at hfin
   obtain ⟨ad, rfl, _, c0⟩ := Bts.at_ (Reads.below hl hb) hp
   obtain ⟨x, hx⟩ : ∃ x, l.getD p 0 = x := ⟨_, rfl⟩
   have bx := hB.at_ p
   rw [hx] at c0 hfin bx
   have HF := Lib.hid hfin
   clear hfin hx
   have hx' : ((n : Int) <= 4) = False \/ (((n : Int) <= 4) = True /\ ((p : Int) + (n : Int) <= (N : Int)) = False) := by simp; omega
   rcases hx' with q1 | ⟨q1, q2⟩
   all_goals
    go_wp2_with fail
    go_ret2
    exact ⟨by rw [HF.out]; rfl, hb⟩
theorem runitAt_any (o : Int) (D : Nat -> Prop) (A : Option Addr) (N c p : Nat) (l : List Int) (w : World) (ho : o = 0 \/ o = 1) (hl : Bts w D A N l) (hB : Byt l) (hN : N <= 2147483648) (hp : p <= N + 2) :
  Calls Tryz.prog 179 #[.int .i64 (o + 2), .slice A N c, .int .i64 (p : Int)] w fun e w' => e = .returned (.int .i64 (ref16u o (l.drop p))) /\ Below w.heap.size w w' := by
 have hle := hl.len
 by_cases h2 : p + 2 <= N
 ·obtain ⟨ad, rfl, _, c0⟩ := hl.at_ (show p < N by omega)
  obtain ⟨ad', hA, _, c1⟩ := hl.at_ (show p + 1 < N by omega)
  obtain rfl : ad = ad' := by injection hA
  have b0 := hB.at_ p
  have b1 := hB.at_ (p + 1)
  have hfin : ref16u o (l.drop p) = if o = 0 then l.getD p 0 + l.getD (p + 1) 0 * 256 else l.getD (p + 1) 0 + l.getD p 0 * 256 := by
   unfold ref16u unitF
   rw [if_neg (by rw [List.length_drop]; omega), getD_drop', getD_drop', Nat.add_zero]
  obtain ⟨x, hx⟩ : ∃ x, l.getD p 0 = x := ⟨_, rfl⟩
  obtain ⟨y, hy⟩ : ∃ x, l.getD (p + 1) 0 = x := ⟨_, rfl⟩
  rw [hx] at c0 b0 hfin
  rw [hy] at c1 b1 hfin
  have q1 : ((N : Int) < (p : Int) + 2) = False := by simp; omega
  have HF := Lib.hid hfin
  clear hfin hx hy hA
  have g1 : (0 : Int) <= (p : Int) := by omega
  have g2 : (p : Int) < (N : Int) := by omega
  have g3 : (0 : Int) <= (p : Int) + 1 := by omega
  have g4 : (p : Int) + 1 < (N : Int) := by omega
  have g5 : ((p : Int) + 1).toNat = p + 1 := by omega
  rw [add_pos ad (p + 1) (by omega)] at c1
  have m1 : IntKind.i64.wrap x = x := IntWalk.i64_in _ (by omega)
  have m2 : IntKind.i64.wrap y = y := IntWalk.i64_in _ (by omega)
  have m3 : IntKind.i64.wrap (256 * x) = 256 * x := IntWalk.i64_in _ (by omega)
  have m4 : IntKind.i64.wrap (256 * y) = 256 * y := IntWalk.i64_in _ (by omega)
  have m5 : IntKind.i64.wrap (x + 256 * y) = x + 256 * y := IntWalk.i64_in _ (by omega)
  have m6 : IntKind.i64.wrap (256 * x + y) = 256 * x + y := IntWalk.i64_in _ (by omega)
  have hs : IntKind.i64.wrap ((p : Int) + 1) = (p : Int) + 1 := IntWalk.i64_in _ (by omega)
  rcases ho with rfl | rfl
  ·go_enter Tryz.func179, Tryz.ntmps179
   go_wp2_with fail
   go_quiet (fail)
   go_wp2_with fail
   go_ret
   exact ⟨ret_i (by rw [HF.out]; simp; omega), below_drewN (Below.refl _ _) _⟩
  ·go_enter Tryz.func179, Tryz.ntmps179
   go_wp2_with fail
   go_quiet (fail)
   go_wp2_with fail
   go_ret
   exact ⟨ret_i (by rw [HF.out]; simp; omega), below_drewN (Below.refl _ _) _⟩
 ·have q1 : ((N : Int) < (p : Int) + 2) = True := by simp; omega
  have hfin : ref16u o (l.drop p) = -1 := by unfold ref16u; rw [if_pos (by rw [List.length_drop]; omega)]
  rw [hfin]
  clear hfin
  rcases ho with rfl | rfl
  all_goals
   go_enter Tryz.func179, Tryz.ntmps179
   go_wp2_with fail
   go_ret
   exact ⟨rfl, Below.refl _ _⟩
theorem ref16u_bd (o : Int) (l : List Int) (h : Byt l) : -1 <= ref16u o l /\ ref16u o l < 65536 := by
 unfold ref16u
 have := unitF_bd o l h
 split <;> omega
theorem rat_any (enc : Int) (D : Nat -> Prop) (A : Option Addr) (N c p : Nat) (l : List Int) (w : World) (he : enc = 1 \/ enc = 2 \/ enc = 3 \/ enc = 4) (hl : Bts w D A N l) (hB : Byt l) (hN : N <= 2147483648) (hp : p < N) :
  Calls Tryz.prog 168 #[.int .i64 enc, .slice A N c, .int .i64 (p : Int)] w fun e w' => e = .returned (.tuple #[.int .i64 (refAt enc (l.drop p)).1, .int .i64 (refAt enc (l.drop p)).2]) /\ Below w.heap.size w w' := by
 have hL0 : (l.drop p).getD 0 0 = l.getD p 0 := by rw [getD_drop', Nat.add_zero]
 have bx := hB.at_ p
 obtain ⟨ad, rfl, _, c0⟩ := hl.at_ hp
 obtain ⟨x, hx⟩ : ∃ x, l.getD p 0 = x := ⟨_, rfl⟩
 rw [hx] at hL0 c0 bx
 have h16 : ∀ o : Int, o = 0 \/ o = 1 -> Calls Tryz.prog 168 #[.int .i64 (o + 2), .slice (some ad) N c, .int .i64 (p : Int)] w fun e w' => e = .returned (.tuple #[.int .i64 (ref16 o (l.drop p)).1, .int .i64 (ref16 o (l.drop p)).2]) /\ Below w.heap.size w w' := by
  intro o ho
  have hu := ref16u_bd o (l.drop p) (hB.drop p)
  have hv := ref16u_bd o (l.drop (p + 2)) (hB.drop _)
  have hd : ref16 o (l.drop p) = if ref16u o (l.drop p) < 0 then (-1 - x, 1) else if 55296 <= ref16u o (l.drop p) /\ ref16u o (l.drop p) < 56320 /\ 56320 <= ref16u o (l.drop (p + 2)) /\ ref16u o (l.drop (p + 2)) < 57344 then (65536 + (ref16u o (l.drop p) - 55296) * 1024 + ref16u o (l.drop (p + 2)) - 56320, 4) else (ref16u o (l.drop p), 2) := by
   unfold ref16
   rw [hL0, List.drop_drop]
  have k1 := fun (w' : World) (hb : Below w.heap.size w w') => runitAt_any o D (some ad) N c p l w' ho (Reads.below hl hb) hB hN (by omega)
  have k2 := fun (w' : World) (hb : Below w.heap.size w w') => runitAt_any o D (some ad) N c (p + 2) l w' ho (Reads.below hl hb) hB hN (by omega)
  obtain ⟨U, hU⟩ : ∃ x, ref16u o (l.drop p) = x := ⟨_, rfl⟩
  obtain ⟨V, hV⟩ : ∃ x, ref16u o (l.drop (p + 2)) = x := ⟨_, rfl⟩
  rw [hU] at k1 hd hu
  rw [hV] at k2 hd hv
  have HD := Lib.hid hd
  have K1 := Lib.hid k1
  have K2 := Lib.hid k2
  clear hd k1 k2 hU hV hx hL0
  have c0' := fun (w' : World) (hb : Below w.heap.size w w') => cell_keep hb c0
  have C0 := Lib.hid c0'
  clear c0 c0'
  have hs : ((p + 2 : Nat) : Int) = (p : Int) + 2 := by omega
  have HS := Lib.hid hs
  clear hs
  rcases ho with rfl | rfl
  all_goals
   go_enter Tryz.func168, Tryz.ntmps168
   go_wp2_with fail
   refine (K1.out _ (Below.refl _ _)).mono ?_
   rintro e w1 ⟨rfl, hb1⟩
   by_cases h1 : U < 0
   ·have c1 := C0.out w1 hb1
    go_wp2_with fail
    go_ret2
    exact ⟨by rw [HD.out, if_pos h1]; rfl, hb1⟩
   ·go_wp2_with fail
    have k2 := K2.out w1 hb1
    rw [HS.out] at k2
    refine (k2).mono ?_
    rintro e w2 ⟨rfl, hb2⟩
    clear k2
    go_wp2_with fail
    all_goals
     go_light
     go_ret2
     refine ⟨?_, bseq hb1 hb2⟩
     rw [HD.out, if_neg (by omega)]
     first
     | (rw [if_pos (by omega)]; rfl)
     | (rw [if_neg (by omega)]; rfl)
 rcases he with rfl | rfl | rfl | rfl
 ·have h8 := reightAt_any D (some ad) N c p l w hl hB hN hp
  have e1 : refAt 1 (l.drop p) = ref8 (l.drop p) := rfl
  rw [e1]
  obtain ⟨a, z, haz⟩ : ∃ a z, ref8 (l.drop p) = (a, z) := ⟨_, _, rfl⟩
  rw [haz] at h8 ⊢
  have H8 := Lib.hid h8
  clear h8 haz e1 c0 hx hL0 h16
  go_enter Tryz.func168, Tryz.ntmps168
  go_wp2_with fail
  refine (H8.out).mono ?_
  rintro e w1 ⟨rfl, hb1⟩
  go_wp2_with fail
  go_ret2
  exact ⟨rfl, hb1⟩
 ·exact h16 0 (.inl rfl)
 ·exact h16 1 (.inr rfl)
 ·have e1 : refAt 4 (l.drop p) = (x, 1) := by unfold refAt; rw [hL0]; rfl
  rw [e1]
  clear e1 hx hL0 h16
  go_enter Tryz.func168, Tryz.ntmps168
  go_wp2_with fail
  go_ret2
  exact ⟨rfl, Below.refl _ _⟩
theorem rknown_any (enc : Int) (w : World) : Calls Tryz.prog 167 #[.int .i64 enc] w fun e w' => e = .returned (.bool (decide (1 <= enc /\ enc <= 4))) /\ w = w' := by
 go_enter Tryz.func167, Tryz.ntmps167
 go_wp2
 all_goals
  go_light
  go_ret
  refine ⟨ret_b ?_, rfl⟩
  rw [Bool.eq_iff_iff]
  simp
  (try omega)
theorem rnext_any (enc : Int) (D : Nat -> Prop) (A : Option Addr) (N c p : Nat) (l : List Int) (w : World) (he : enc = 1 \/ enc = 2 \/ enc = 3 \/ enc = 4) (hl : Bts w D A N l) (hB : Byt l) (hN : N <= 2147483648) (hc : N <= c) (hp : p < N) :
  Calls Tryz.prog 146 #[.int .i64 enc, .slice A N c, .int .i64 (p : Int)] w fun e w' => e = .returned (.tuple #[.int .i64 (atomAt enc (l.drop p)), .int .i64 (sizeAt enc (l.drop p))]) /\ Below w.heap.size w w' := by
 have hle := hl.len
 have hcut := Reads.cut hl (Nat.le_of_lt hp) hc
 rw [if_neg (by omega), Nat.mul_one, <- List.map_drop] at hcut
 obtain ⟨ad, rfl, _, c0⟩ := hl.at_ hp
 have hat := fun (w' : World) (hb : Below w.heap.size w w') => rat_any enc D (some (ad.add p)) (N - p) (c - p) 0 (l.drop p) w' he (Reads.below hcut hb) (hB.drop _) (by omega) (by omega)
 rw [List.drop_zero, refAt_eq he (hB.drop p) (by rw [List.length_drop]; omega)] at hat
 have hk := rknown_any enc w
 rw [show decide (1 <= enc /\ enc <= 4) = true by rw [decide_eq_true_eq]; omega] at hk
 have HK := Lib.hid hk
 have HA := Lib.hid hat
 have q1 : ¬ c = p := by omega
 have q2 : (0 : Int) <= (p : Int) := by omega
 have q3 : (p : Int) <= (N : Int) := by omega
 have q4 : (p : Int) <= (c : Int) := by omega
 clear hk hat hcut c0 he
 go_enter Tryz.func146, Tryz.ntmps146
 go_wp2_with fail
 refine (HK.out).mono ?_
 rintro e w1 ⟨rfl, rfl⟩
 go_wp2_with fail
 refine (HA.out _ (Below.refl _ _)).mono ?_
 rintro e w1 ⟨rfl, hb1⟩
 go_wp2_with fail
 go_ret2
 exact ⟨rfl, hb1⟩
end Go.Proofs.YtkocknfhdojmbaaGreat
