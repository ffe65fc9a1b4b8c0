/-
  The document's lines: copyistref6.All and Native. The document's desk: copyistref6.Native, copyistref12.New.
-/
import Derived.Test.YtkocknfhdojmbaaGreatLSame
set_option linter.unusedSimpArgs false
set_option linter.unusedVariables false
set_option maxRecDepth 100000
set_option maxHeartbeats 32000000
namespace Go.Proofs.YtkocknfhdojmbaaGreat
open Go.RowKit
def allG : List Int -> Int -> Int -> List Ln
 | [], f, i => [⟨f, i, i, 0⟩]
 | a :: r, f, i => if a = 10 then ⟨f, i, i + 1, 1⟩ :: allG r (i + 1) (i + 1) else if a = 13 then (if r.head? = some 10 then ⟨f, i, i + 2, 2⟩ :: allG r.tail (i + 2) (i + 2) else ⟨f, i, i + 1, 3⟩ :: allG r (i + 1) (i + 1)) else allG r f (i + 1)
termination_by l => l.length
decreasing_by all_goals (simp; try omega)
theorem allG_nil (f i : Int) : allG [] f i = [⟨f, i, i, 0⟩] := by rw [allG]
theorem allG_cons (a : Int) (r : List Int) (f i : Int) : allG (a :: r) f i = if a = 10 then ⟨f, i, i + 1, 1⟩ :: allG r (i + 1) (i + 1) else if a = 13 then (if r.head? = some 10 then ⟨f, i, i + 2, 2⟩ :: allG r.tail (i + 2) (i + 2) else ⟨f, i, i + 1, 3⟩ :: allG r (i + 1) (i + 1)) else allG r f (i + 1) := by rw [allG]
theorem allG_head (A : List Int) : ∀ f i, ∃ L ls, allG A f i = L :: ls /\ L.brk = brk1 A := by
 induction A with
 | nil => intro f i; exact ⟨_, _, allG_nil f i, rfl⟩
 | cons a r ih =>
  intro f i
  rw [allG_cons, brk1]
  split
  ·exact ⟨_, _, rfl, rfl⟩
  ·split
   ·split
    ·exact ⟨_, _, rfl, rfl⟩
    ·exact ⟨_, _, rfl, rfl⟩
   ·exact ih f (i + 1)
def lineZ : Value := .agg #[.int .i64 0, .int .i64 0, .int .i64 0, .int .i64 0]
theorem rline_info : (Tryz.prog.info? 203).map (fun i => (i.zero, i.size, i.bytes)) = some (some lineZ, 4, 32) := by kernel_rfl
theorem rline_row : ∃ i z, Tryz.prog.info? 203 = some i /\ i.zero = some z /\ i.size = 4 /\ i.bytes = 32 /\ z.cells.size = 4 := by
 obtain ⟨i, h1, h2, h3, h4⟩ := info_parts rline_info
 exact ⟨i, lineZ, h1, h2, h3, h4, rfl⟩
theorem line_one (a b c d : Int) : ∀ u ∈ [Value.int .i64 a, .int .i64 b, .int .i64 c, .int .i64 d], u.oneCell' = true := by
 intro u hu
 simp at hu
 rcases hu with rfl | rfl | rfl | rfl <;> rfl
def lnCells (ls : List Ln) : List Value := ls.flatMap fun l => l.cells.toList
theorem lnCells_snoc (ls : List Ln) (l : Ln) : lnCells (ls ++ [l]) = lnCells ls ++ [.int .i64 l.from_, .int .i64 l.to_, .int .i64 l.next, .int .i64 l.brk] := by
 unfold lnCells
 rw [List.flatMap_append]
 simp [Ln.cells]
def AllR (A : List Int) (w : World) (k : Nat) (q4 q5 q6 : Value) (wr : World) : Prop :=
 ∃ (i : Nat) (f : Int) (ls : List Ln) (v : Value), q4 = v /\ q5 = .int .i64 f /\ q6 = .int .i64 (i : Int) /\ i <= A.length /\ A.length - i <= k /\ 0 <= f /\ f <= i /\ ls.length <= i /\ Hid (allG A 0 0 = ls ++ allG (A.drop i) f i) /\ Hid (wr.ownsRow w.heap.size 203 4 v ls.length (lnCells ls)) /\ Below w.heap.size w wr
def AllPost (A : List Int) (w : World) (e : Ending) (w' : World) : Prop :=
 ∃ (v : Value) (n : Int), e = .returned (.tuple #[v, .int .i64 n]) /\ w'.ownsRow w.heap.size 203 4 v (allG A 0 0).length (lnCells (allG A 0 0)) /\ Below w.heap.size w w'
theorem rall_any (D : Nat -> Prop) (A : Option Addr) (n c : Nat) (l : List Int) (w : World) (hl : Ints w D A n l) (hn : n <= 1073741824) :
  Calls Tryz.prog 123 #[.slice A n c] w fun e w' => AllPost l w e w' := by
 have hle := hl.len
 obtain ⟨ip, zp, hip, hp0, hp1, hp2, hp3⟩ := rline_row
 go_enter Tryz.func123, Tryz.ntmps123
 go_wp2_with fail
 go_loopg [4, 5, 6] n (fun k q4 q5 q6 wr => AllR l w k q4 q5 q6 wr)
 case atStart => exact ⟨0, 0, [], .slice none 0 0, rfl, rfl, rfl, Nat.zero_le _, by omega, by omega, by omega, Nat.le_refl _, Lib.hid (by simp), Lib.hid (World.ownsRow_nil _ _ _ _), Below.refl _ _⟩
 case round =>
  obtain ⟨i, f, ls, v, rfl, rfl, rfl, hi, hk, hf0, hf1, hls, hall, hown, hb⟩ := hrel
  by_cases hlt : i < n
  ·obtain ⟨ad, hA, _, c1⟩ := Ints.at_ (Reads.below hl hb) hlt
   subst hA
   have hdr := drop_getD l i (by omega)
   have hst := hall.out
   obtain ⟨x, hx⟩ : ∃ x, l.getD i 0 = x := ⟨_, rfl⟩
   rw [hx] at c1 hdr
   rw [hdr, allG_cons] at hst
   have hnext : i + 1 < n -> ∃ y, wr.cell? (ad.add (i + 1)) = some (.int .i64 y) /\ (l.drop (i + 1)).head? = some y /\ (l.drop (i + 1)).tail = l.drop (i + 2) := by
    intro h
    obtain ⟨ad', hA, _, c2⟩ := Ints.at_ (Reads.below hl hb) h
    obtain rfl : ad = ad' := by injection hA
    refine ⟨_, c2, ?_, ?_⟩
    ·rw [drop_getD l (i + 1) (by omega)]; rfl
    ·rw [List.tail_drop]
   have hno : ¬ i + 1 < n -> (l.drop (i + 1)).head? = none := by
    intro h
    rw [List.drop_eq_nil_of_le (by omega)]; rfl
   have HST := Lib.hid hst
   have HNX := Lib.hid hnext
   have HNO := Lib.hid hno
   clear hx hdr hst hnext hno
   have hwr := hb.size
   by_cases h10 : x = 10
   ·subst h10
    go_wp2_with (at_builtin; refine wpList_append_own_at _ rfl (.tmp 19) (.tmp 25) 200 rfl w.heap.size 203 ip zp 4 32 Tryz.underlying200 hip hp0 hp1 hp2 hp3 (by decide) u4 ls.length _ rfl (hown.out.alloc _) ⟨wr.heap.size, 0, none⟩ 1 1 [.int .i64 f, .int .i64 (i : Int), .int .i64 ((i : Int) + 1), .int .i64 1] rfl rfl (cells_new _ _ _) (line_one _ _ _ _) (by unfold maxLen; omega) (by omega) (by simp; omega) ?_)
    intro v1 w1 hown1 hgr _ _
    have hb1 : Below w.heap.size w w1 := below_grown2 (balloc hb) hgr (fun k hk => own_ge hown.out hk)
    have HO := Lib.hid hown1
    clear hown1 hgr hip hp0 hp1 hp2 hp3
    go_wp2_with fail
    go_roundg (n - (i + 1))
    case measure => omega
    case rel =>
     refine ⟨i + 1, (i : Int) + 1, ls ++ [⟨f, i, (i : Int) + 1, 1⟩], v1, rfl, rfl, by go_num, by omega, by omega, by omega, by omega, by simp; omega, Lib.hid ?_, Lib.hid ?_, hb1⟩
     ·rw [HST.out, if_true, List.append_assoc]; rfl
     ·rw [lnCells_snoc, List.length_append]; exact HO.out
   ·have q10 : (x == 10) = false := by rw [beq_eq_false_iff_ne]; exact h10
    by_cases h13 : x = 13
    ·subst h13
     clear h10
     by_cases h2 : i + 1 < n
     ·obtain ⟨y, c2, hy1, hy2⟩ := HNX.out h2
      have c2' : wr.cell? ⟨ad.block, ad.off + (i + 1), none⟩ = some (.int .i64 y) := by rw [<- add_pos ad (i + 1) (by omega)]; exact c2
      have q2 : ((i : Int) + 1 < (n : Int)) = True := by simp; omega
      have HY1 := Lib.hid hy1
      have HY2 := Lib.hid hy2
      clear hy1 hy2
      by_cases hy : y = 10
      ·subst hy
       go_wp2_with (at_builtin; refine wpList_append_own_at _ rfl (.tmp 49) (.tmp 55) 200 rfl w.heap.size 203 ip zp 4 32 Tryz.underlying200 hip hp0 hp1 hp2 hp3 (by decide) u4 ls.length _ rfl (hown.out.alloc _) ⟨wr.heap.size, 0, none⟩ 1 1 [.int .i64 f, .int .i64 (i : Int), .int .i64 ((i : Int) + 2), .int .i64 2] rfl rfl (cells_new _ _ _) (line_one _ _ _ _) (by unfold maxLen; omega) (by omega) (by simp; omega) ?_)
       intro v1 w1 hown1 hgr _ _
       have hb1 : Below w.heap.size w w1 := below_grown2 (balloc hb) hgr (fun k hk => own_ge hown.out hk)
       have HO := Lib.hid hown1
       clear hown1 hgr hip hp0 hp1 hp2 hp3
       go_wp2_with fail
       go_roundg (n - (i + 2))
       case measure => omega
       case rel =>
        refine ⟨i + 2, (i : Int) + 2, ls ++ [⟨f, i, (i : Int) + 2, 2⟩], v1, rfl, rfl, by go_num, by omega, by omega, by omega, by omega, by simp; omega, Lib.hid ?_, Lib.hid ?_, hb1⟩
        ·rw [HST.out, if_neg (by omega), if_true, if_pos HY1.out, HY2.out, List.append_assoc]; rfl
        ·rw [lnCells_snoc, List.length_append]; exact HO.out
      ·have qy : (y == 10) = false := by rw [beq_eq_false_iff_ne]; exact hy
       go_wp2_with (at_builtin; refine wpList_append_own_at _ rfl (.tmp 66) (.tmp 72) 200 rfl w.heap.size 203 ip zp 4 32 Tryz.underlying200 hip hp0 hp1 hp2 hp3 (by decide) u4 ls.length _ rfl (hown.out.alloc _) ⟨wr.heap.size, 0, none⟩ 1 1 [.int .i64 f, .int .i64 (i : Int), .int .i64 ((i : Int) + 1), .int .i64 3] rfl rfl (cells_new _ _ _) (line_one _ _ _ _) (by unfold maxLen; omega) (by omega) (by simp; omega) ?_)
       intro v1 w1 hown1 hgr _ _
       have hb1 : Below w.heap.size w w1 := below_grown2 (balloc hb) hgr (fun k hk => own_ge hown.out hk)
       have HO := Lib.hid hown1
       clear hown1 hgr hip hp0 hp1 hp2 hp3
       go_wp2_with fail
       go_roundg (n - (i + 1))
       case measure => omega
       case rel =>
        refine ⟨i + 1, (i : Int) + 1, ls ++ [⟨f, i, (i : Int) + 1, 3⟩], v1, rfl, rfl, by go_num, by omega, by omega, by omega, by omega, by simp; omega, Lib.hid ?_, Lib.hid ?_, hb1⟩
        ·rw [HST.out, if_neg (by omega), if_true, if_neg (by rw [HY1.out]; simpa using hy), List.append_assoc]; rfl
        ·rw [lnCells_snoc, List.length_append]; exact HO.out
     ·have q2 : ((i : Int) + 1 < (n : Int)) = False := by simp; omega
      go_wp2_with (at_builtin; refine wpList_append_own_at _ rfl (.tmp 66) (.tmp 72) 200 rfl w.heap.size 203 ip zp 4 32 Tryz.underlying200 hip hp0 hp1 hp2 hp3 (by decide) u4 ls.length _ rfl (hown.out.alloc _) ⟨wr.heap.size, 0, none⟩ 1 1 [.int .i64 f, .int .i64 (i : Int), .int .i64 ((i : Int) + 1), .int .i64 3] rfl rfl (cells_new _ _ _) (line_one _ _ _ _) (by unfold maxLen; omega) (by omega) (by simp; omega) ?_)
      intro v1 w1 hown1 hgr _ _
      have hb1 : Below w.heap.size w w1 := below_grown2 (balloc hb) hgr (fun k hk => own_ge hown.out hk)
      have HO := Lib.hid hown1
      clear hown1 hgr hip hp0 hp1 hp2 hp3
      go_wp2_with fail
      go_roundg (n - (i + 1))
      case measure => omega
      case rel =>
       refine ⟨i + 1, (i : Int) + 1, ls ++ [⟨f, i, (i : Int) + 1, 3⟩], v1, rfl, rfl, by go_num, by omega, by omega, by omega, by omega, by simp; omega, Lib.hid ?_, Lib.hid ?_, hb1⟩
       ·rw [HST.out, if_neg (by omega), if_true, if_neg (by rw [HNO.out h2]; simp), List.append_assoc]; rfl
       ·rw [lnCells_snoc, List.length_append]; exact HO.out
    ·have q13 : (x == 13) = false := by rw [beq_eq_false_iff_ne]; exact h13
     go_wp2_with fail
     go_roundg (n - (i + 1))
     case measure => omega
     case rel =>
      refine ⟨i + 1, f, ls, u4, rfl, rfl, by go_num, by omega, by omega, by omega, by omega, by omega, Lib.hid ?_, hown, hb⟩
      rw [HST.out, if_neg h10, if_neg h13]; rfl
  ·obtain rfl : i = l.length := by omega
   have hst := hall.out
   rw [List.drop_length, allG_nil] at hst
   have HST := Lib.hid hst
   have hwr := hb.size
   obtain ⟨N, hN⟩ : ∃ N, l.length = N := ⟨_, rfl⟩
   have HN := Lib.hid hN
   obtain ⟨A4, c4, hv4, hc4⟩ := own_slice hown.out
   subst hv4
   clear hst hall hN
   go_wp2_with (at_builtin; refine wpList_append_own_at _ rfl (.tmp 78) (.tmp 85) 200 rfl w.heap.size 203 ip zp 4 32 Tryz.underlying200 hip hp0 hp1 hp2 hp3 (by decide) (.slice A4 ls.length c4) ls.length _ rfl (hown.out.alloc _) ⟨wr.heap.size, 0, none⟩ 1 1 [.int .i64 f, .int .i64 (n : Int), .int .i64 (n : Int), .int .i64 0] rfl rfl (cells_new _ _ _) (line_one _ _ _ _) (by unfold maxLen; omega) (by omega) (by simp; omega) ?_)
   intro v1 w1 hown1 hgr _ _
   have hb1 : Below w.heap.size w w1 := below_grown2 (balloc hb) hgr (fun k hk => own_ge hown.out hk)
   have hfin : w1.ownsRow w.heap.size 203 4 v1 (allG l 0 0).length (lnCells (allG l 0 0)) := by
    rw [HST.out, lnCells_snoc, List.length_append, HN.out, hle.symm.trans HN.out |>.symm]
    exact hown1
   have HF := Lib.hid hfin
   have hn0 : ((n : Int) == 0) = true \/ (((n : Int) == 0) = false /\ (f < (n : Int)) = True) \/ (((n : Int) == 0) = false /\ (f < (n : Int)) = False) := by
    rw [beq_iff_eq, beq_eq_false_iff_ne]; simp; omega
   obtain ⟨r1, c1, hv1, _, _⟩ := hown1.form (by omega)
   subst hv1
   clear hown1 hgr hfin hip hp0 hp1 hp2 hp3
   rcases hn0 with h1 | ⟨h1, h2⟩ | ⟨h1, h2⟩
   all_goals
    go_wp2_with fail
    go_ret2
    exact ⟨_, _, rfl, HF.out, hb1⟩
theorem rnative_any (D : Nat -> Prop) (A : Option Addr) (n c : Nat) (l : List Int) (fb : Int) (w : World) (hl : Ints w D A n l) (hn : n <= 1073741824) :
  Calls Tryz.prog 76 #[.slice A n c, .int .i64 fb] w fun e w' => e = .returned (.int .i64 (natF l fb)) /\ Below w.heap.size w w' := by
 have hc := rall_any D A n c l w hl hn
 obtain ⟨L, ls, hL, hbr⟩ := allG_head l 0 0
 have hfin : natF l fb = if L.brk = 0 then fb else L.brk := by unfold natF; rw [hbr]
 rw [hfin]
 have HC := Lib.hid hc
 have HL := Lib.hid hL
 obtain ⟨x0, x1, x2, x3⟩ := L
 dsimp only
 clear hc hL hbr hfin
 go_enter Tryz.func76, Tryz.ntmps76
 go_wp2_with fail
 refine (HC.out).mono ?_
 rintro e w1 ⟨v, N, rfl, hown, hb1⟩
 rw [HL.out] at hown
 obtain ⟨g, cap, rfl, _, _⟩ := hown.form (by simp)
 have c3 := hown.cells (g := g) rfl 3 (.int .i64 x3) rfl
 rw [add_pos _ 3 (by omega)] at c3
 simp only [Nat.zero_add] at c3
 obtain ⟨m, hm⟩ : ∃ m, (Ln.mk x0 x1 x2 x3 :: ls).length = m + 1 := ⟨ls.length, rfl⟩
 rw [hm]
 have hm0 : ((0 : Nat) : Int) < ((m + 1 : Nat) : Int) := by omega
 have hm1 : 0 < m + 1 := by omega
 clear hown hm
 by_cases h0 : x3 = 0
 ·have q : (x3 != 0) = false := by simp [h0]
  go_wp2_with fail
  go_ret
  exact ⟨rfl, hb1⟩
 ·have q : (x3 != 0) = true := by rw [bne_iff_ne]; exact h0
  go_wp2_with fail
  go_ret
  exact ⟨rfl, hb1⟩
def RDeskAt (w : World) (gd gb gk : Nat) (native : Int) : Prop :=
 Blk w gd 134 #[.pointer (some ⟨gb, 0, none⟩), .pointer (some ⟨gk, 0, none⟩), .int .i64 0, .slice none 0 0, .slice none 0 0, .slice none 0 0, .int .i64 0, .bool false, .bool false, .int .i64 native]
structure RNewDesk (B : Nat) (enc lim native depth : Int) (l : List Int) (w' : World) (gd gb gt gk : Nat) (ld : Value) : Prop where
 desk : RDeskAt w' gd gb gk (natF ((dec enc l).map Prod.fst) native)
 book : Blk w' gb 145 (rbookC enc lim depth gt ld)
 loaded : w'.ownsRow B 5 1 ld l.length (l.map (Value.int .u8))
 text : RText w' B gt enc lim ((dec enc l).map Prod.fst) ((tagF 0 0 (dec enc l)).map Prod.snd)
 ge : B <= gd /\ B <= gb /\ B <= gt /\ B <= gk
def RNewPost (enc lim native depth : Int) (l : List Int) (w : World) (e : Ending) (w' : World) : Prop :=
 ∃ gd gb gt gk ld, e = .returned (.tuple #[.pointer (some ⟨gd, 0, none⟩), .int .i64 0]) /\ RNewDesk w.heap.size enc lim native depth l w' gd gb gt gk ld /\ Below w.heap.size w w'
theorem RText.set_ {w : World} {B g i k : Nat} {enc lim : Int} {a t : List Int} {T : TypeId} {cs : Array Value} {u : Value} (h : RText w B g enc lim a t) (hb : Blk w k T cs) (h1 : T ≠ 137) (h2 : T ≠ 3) : RText (w.setCell ⟨k, i, none⟩ u) B g enc lim a t := by
 obtain ⟨va, vt, t1, t2, t3⟩ := h
 exact ⟨va, vt, Blk.far t1 (fun e => Blk.ne_ hb t1 h1 e.symm) _, own_set_other t2 hb h2.symm, own_set_other t3 hb h2.symm⟩
theorem r12new_any (enc lim native depth : Int) (D : Nat -> Prop) (A : Option Addr) (n c : Nat) (l : List Int) (w : World) (hl : Bts w D A n l) (hB : Byt l) (hcap : n <= c) (h0 : newErr enc lim native depth n = 0) :
  Calls Tryz.prog 25 #[.int .i64 enc, .slice A n c, .int .i64 lim, .int .i64 native, .int .i64 depth] w fun e w' => RNewPost enc lim native depth l w e w' := by
 have hd : ¬ (native < 1 \/ 3 < native) := by
  intro h
  unfold newErr at h0
  rw [if_pos h] at h0
  cases h0
 have ho : bookErr enc lim depth n = 0 := by
  unfold newErr at h0
  rw [if_neg hd] at h0
  exact h0
 have hc := r7open_any enc lim depth D A n c l w hl hB hcap ho
 have q0 : (native < 1) = False := by simp; omega
 have q1 : (3 < native) = False := by simp; omega
 have hlen : ((dec enc l).map Prod.fst).length <= 1073741824 := by
  have h1 := (openErr_ok (by unfold bookErr at ho; split at ho; cases ho; exact ho)).2
  have h2 := (sumsOf_good' (dec_pos enc l))
  have h3 := sumsOf_bytes enc l
  have h4 := hl.len
  rw [List.length_map]
  obtain ⟨⟨_, _, h5, _⟩, h6, _⟩ := h2
  omega
 have HC := Lib.hid hc
 clear hc ho h0 hd
 go_enter Tryz.func25, Tryz.ntmps25
 go_wp2_with fail
 refine (HC.out).mono ?_
 rintro e w1 ⟨gb, gt, ld, rfl, hbk, hld, hT, h1, h2, hb1⟩
 go_wp2_with fail
 refine (rbank_any w1).mono ?_
 rintro e w2 ⟨gk, rfl, h4, hb2⟩
 have hs1 := hb1.size
 have hs2 := hb2.size
 have hbk2 := (hbk.below hb2).alloc (.cells #[.pointer (some ⟨gb, 0, none⟩), .pointer (some ⟨gk, 0, none⟩), .int .i64 0, .slice none 0 0, .slice none 0 0, .slice none 0 0, .int .i64 0, .bool false, .bool false, .int .i64 0] 134)
 have hD := Blk.new w2 134 #[.pointer (some ⟨gb, 0, none⟩), .pointer (some ⟨gk, 0, none⟩), .int .i64 0, .slice none 0 0, .slice none 0 0, .slice none 0 0, .int .i64 0, .bool false, .bool false, .int .i64 0]
 have hb3 : Below w2.heap.size w2 (w2.alloc (.cells #[.pointer (some ⟨gb, 0, none⟩), .pointer (some ⟨gk, 0, none⟩), .int .i64 0, .slice none 0 0, .slice none 0 0, .slice none 0 0, .int .i64 0, .bool false, .bool false, .int .i64 0] 134)) := balloc (Below.refl _ _)
 have hT3 := (hT.below hb2).below hb3
 have hll := ownsRow_below (ownsRow_below hld hb2) hb3
 have HLL := Lib.hid hll
 have HT3 := Lib.hid hT3
 obtain ⟨va, vt, t1, t2, t3⟩ := hT3
 obtain ⟨A', c', rfl, hc'⟩ := own_slice t2
 have b4 := hbk2.cell 4
 have t4 := Blk.cell t1 2
 simp [rbookC] at b4
 simp at t4
 have hI := Reads.of_own t2
 have hn := fun (w' : World) (hb : Below _ _ w') => rnative_any _ A' ((dec enc l).map Prod.fst).length c' ((dec enc l).map Prod.fst) native w' (Reads.below hI hb) hlen
 obtain ⟨N, hN⟩ : ∃ N, natF ((dec enc l).map Prod.fst) native = N := ⟨_, rfl⟩
 rw [hN] at hn
 simp only [List.length_map] at hn
 have HN := Lib.hid hn
 have HNN := Lib.hid hN
 have HD := Lib.hid hD
 have HBK := Lib.hid hbk2
 have HB3 := Lib.hid hb3
 clear hn hN hll t1 t2 t3 hI hc' hlen hD hbk2 hb3 hT hld
 go_wp2_with fail
 have hb3 := HB3.out
 have hD := HD.out
 have hbk2 := HBK.out
 have hnn := HN.out _ (Below.refl _ _)
 refine (hnn).mono ?_
 rintro e w4 ⟨rfl, hb4⟩
 have hD4 := hD.below hb4
 have f9 := hD4.frozen 9
 have c9 := hD4.cell 9
 simp at c9
 go_wp2_with fail
 go_ret2
 have hbw4 : Below w.heap.size w w4 := bseq (bseq (bseq hb1 hb2) hb3) hb4
 refine ⟨w2.heap.size, gb, gt, gk, ld, rfl, ⟨?_, ?_, ?_, ?_, by omega⟩, hbw4.setCell (by simp; omega) _⟩
 ·rw [HNN.out]
  exact hD4.set_ 9 _
 ·exact (hbk2.below hb4).far (by have := (hbk.below hb2).lt; simp; omega) _
 ·exact own_set_other (ownsRow_below HLL.out hb4) hD4 (by decide)
 ·exact RText.set_ (HT3.out.below hb4) hD4 (by decide) (by decide)
end Go.Proofs.YtkocknfhdojmbaaGreat
