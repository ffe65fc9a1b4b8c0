/-
  copyistlaw12.within, copyistlaw12.begun: a desk and the document's own, as they begin.
-/
import Derived.Test.YteekabaoocaghaaGreatLBoth
set_option linter.unusedSimpArgs false
set_option linter.unusedVariables false
namespace Go.Proofs.YteekabaoocaghaaGreat
open Go.RowKit

theorem and3 (x : Int) : bits .and .i64 x 3 = x % 4 := by
  show IntKind.i64.wrap ((BitVec.ofInt 64 x &&& BitVec.ofInt 64 3).toNat : Int) = _
  have e : (BitVec.ofInt 64 3).toNat = 2 ^ 2 - 1 := by decide
  rw [BitVec.toNat_and, BitVec.toNat_ofInt, e, Nat.and_two_pow_sub_one_eq_mod, IntKind.wrap_i64]
  omega
def withinF (x n : Int) : Int := (if x < 0 then -(x + 1) else x) % (n + 1)
theorem withinF_bd (x n : Int) (h : 0 ≤ n) : 0 ≤ withinF x n ∧ withinF x n ≤ n := by
  unfold withinF
  generalize (if x < 0 then -(x + 1) else x) = y
  have h1 := Int.emod_nonneg y (show n + 1 ≠ 0 by omega)
  have h2 := Int.emod_lt_of_pos y (show 0 < n + 1 by omega)
  omega
set_option maxRecDepth 100000 in
theorem within_any (x n : Int) (w : World) (hx : -9223372036854775808 ≤ x ∧ x ≤ 9223372036854775807) (h0 : 0 ≤ n) (h1 : n ≤ 1073741824) :
    Calls Tryz.prog 11 #[.int .i64 x, .int .i64 n] w fun e w' => e = .returned (.int .i64 (withinF x n)) ∧ w = w' := by
  have key : ∀ y : Int, 0 ≤ y → y.tmod (n + 1) = y % (n + 1) := fun y hy => Int.tmod_eq_emod_of_nonneg hy
  have hk : IntKind.i64.wrap (n + 1) = n + 1 := IntWalk.i64_in _ (by omega)
  have hn0 : (n + 1 = 0) = False := by simp; omega
  have hn1 : (n + 1 == 0) = false := by rw [beq_eq_false_iff_ne]; omega
  have hn2 : (n + 1 = -1) = False := by simp; omega
  have hn3 : (n + 1 == -1) = false := by rw [beq_eq_false_iff_ne]; omega
  have hb := withinF_bd x n h0
  by_cases h : x < 0
  · have e1 : IntKind.i64.wrap (x + 1) = x + 1 := IntWalk.i64_in _ (by omega)
    have e2 : IntKind.i64.wrap (-(x + 1)) = -(x + 1) := IntWalk.i64_in _ (by omega)
    have e0 : withinF x n = (-(x + 1)).tmod (n + 1) := by rw [key _ (by omega)]; unfold withinF; rw [if_pos h]
    have e3 : IntKind.i64.wrap ((-(x + 1)).tmod (n + 1)) = withinF x n := by rw [← e0]; exact IntWalk.i64_in _ (by omega)
    have E3 := Lib.hid e3
    clear e0 e3 hb
    go_enter Tryz.func11, Tryz.ntmps11
    go_wp2
    go_ret
    exact ⟨ret_i (by rw [← Int.neg_tmod, key _ (by omega)]; unfold withinF; rw [if_pos h]), rfl⟩
  · have e0 : withinF x n = x.tmod (n + 1) := by rw [key _ (by omega)]; unfold withinF; rw [if_neg h]
    have e3 : IntKind.i64.wrap (x.tmod (n + 1)) = withinF x n := by rw [← e0]; exact IntWalk.i64_in _ (by omega)
    have E3 := Lib.hid e3
    clear e0 e3 hb
    go_enter Tryz.func11, Tryz.ntmps11
    go_wp2
    go_ret
    exact ⟨ret_i (by unfold withinF; rw [if_neg (by omega)]), rfl⟩

/-! ### begun -/
/-- what both desks are, when begun has made them -/
structure Start where
  enc : Int
  native : Int
  depth : Int
  room : Int
  data : List Int
def Start.E (s : Start) : Int := 1 + s.enc % 4
def Start.l (s : Start) : List Int := s.data.take 4096
def Start.lim (s : Start) : Int := s.l.length + withinF s.room 4096
def Start.nat (s : Start) : Int := 1 + withinF s.native 2
def Start.dep (s : Start) : Int := 1 + withinF s.depth 199
theorem Start.ok (s : Start) : newErr s.E s.lim s.nat s.dep s.l.length = 0 := by
  have h1 := withinF_bd s.room 4096 (by omega)
  have h2 := withinF_bd s.native 2 (by omega)
  have h3 := withinF_bd s.depth 199 (by omega)
  have h4 : s.l.length ≤ 4096 := by unfold Start.l; rw [List.length_take]; omega
  unfold newErr bookErr openErr Start.E Start.lim Start.nat Start.dep
  rw [if_neg (by omega), if_neg (by omega), if_neg (by omega), if_neg (by omega), if_neg (by omega)]
def CopyR (l : List Int) (w0 : World) (k : Nat) (q4 q5 : Value) (wr : World) : Prop :=
  ∃ i : Nat, q5 = .int .i64 (i : Int) ∧ i ≤ l.length ∧ i ≤ 4096 ∧ 4096 - i ≤ k ∧ Hid (wr.ownsRow w0.heap.size 5 1 q4 i ((l.take i).map (Value.int .u8))) ∧ Below w0.heap.size w0 wr
structure Begun (B : Nat) (s : Start) (w' : World) (gd gb gt m gk mk gd' gb' gt' gk' : Nat) (ld : Value) : Prop where
  D : NewDesk B s.E s.lim s.nat s.dep s.l w' gd gb gt m gk mk
  R : RNewDesk B s.E s.lim s.nat s.dep s.l w' gd' gb' gt' gk' ld
def BegunPost (s : Start) (w : World) (e : Ending) (w' : World) : Prop :=
  ∃ gd gb gt m gk mk gd' gb' gt' gk' ld, e = .returned (.tuple #[.agg #[.pointer (some ⟨gd, 0, none⟩), .pointer (some ⟨gd', 0, none⟩)], .bool true]) ∧ Begun w.heap.size s w' gd gb gt m gk mk gd' gb' gt' gk' ld ∧ Below w.heap.size w w'
def FitsI (x : Int) : Prop := -9223372036854775808 ≤ x ∧ x ≤ 9223372036854775807
theorem cells5 {w : World} {g : Nat} {T : TypeId} {a0 a1 a2 a3 a4 : Value} (h : Blk w g T #[a0, a1, a2, a3, a4]) :
    w.cell? ⟨g, 0, none⟩ = some a0 ∧ w.cell? ⟨g, 1, none⟩ = some a1 ∧ w.cell? ⟨g, 2, none⟩ = some a2 ∧ w.cell? ⟨g, 3, none⟩ = some a3 ∧ w.cell? ⟨g, 4, none⟩ = some a4 := ⟨h.cell 0, h.cell 1, h.cell 2, h.cell 3, h.cell 4⟩
theorem NewDesk.base {B B' : Nat} {enc lim native depth : Int} {l : List Int} {w : World} {gd gb gt m gk mk : Nat} (h : NewDesk B enc lim native depth l w gd gb gt m gk mk) (hB : B' ≤ B) : NewDesk B' enc lim native depth l w gd gb gt m gk mk :=
  ⟨h.desk, h.book, h.text.more (fun b hb _ => Nat.le_trans hB hb), h.bank, by have := h.ge; omega⟩
theorem RNewDesk.base {B B' : Nat} {enc lim native depth : Int} {l : List Int} {w : World} {gd gb gt gk : Nat} {ld : Value} (h : RNewDesk B enc lim native depth l w gd gb gt gk ld) (hB : B' ≤ B) : RNewDesk B' enc lim native depth l w gd gb gt gk ld := by
  obtain ⟨va, vt, h1, h2, h3⟩ := h.text
  exact ⟨h.desk, h.book, ownsRow_le h.loaded hB, ⟨va, vt, h1, ownsRow_le h2 hB, ownsRow_le h3 hB⟩, by have := h.ge; omega⟩
theorem NewDesk.other {B k : Nat} {enc lim native depth : Int} {l : List Int} {w w' : World} {gd gb gt m gk mk : Nat} {T : TypeId} {cs : Array Value} (h : NewDesk B enc lim native depth l w gd gb gt m gk mk) (hf : Fr (· = k) w w') (hb : Blk w k T cs) (h1 : T ≠ 41) (h2 : T ≠ 71) (h3 : T ≠ 179) (h4 : T ≠ 133) (h5 : T ≠ 185) (hu : NoU8 cs) (h6 : T ≠ 5 := by decide) : NewDesk B enc lim native depth l w' gd gb gt m gk mk :=
  ⟨Blk.fr h.desk hf (fun e => Blk.ne_ hb h.desk h1 e.symm), ⟨h.book.1.fr hf (fun e => Blk.ne_ hb h.book.1 h2 e.symm), h.book.2.fr hf (fun e => h.book.2.ne_blk hb e)⟩, h.text.other hf hb h4 h5 hu h6, ⟨h.bank.1.fr hf (fun e => Blk.ne_ hb h.bank.1 h3 e.symm), h.bank.2.fr hf (fun e => h.bank.2.ne_blk hb e)⟩, h.ge⟩
theorem own_other {w w' : World} {B e size n k : Nat} {T : TypeId} {cs : Array Value} {v : Value} {xs : List Value} (h : w.ownsRow B e size v n xs) (hf : Fr (· = k) w w') (hb : Blk w k T cs) (hT : T ≠ e) : w'.ownsRow B e size v n xs := by
  refine ⟨h.1, ?_⟩
  rcases h.2 with h0 | ⟨g, cap, cur, rfl, h1, h2, h3⟩
  · exact .inl h0
  · refine .inr ⟨g, cap, cur, rfl, h1, ?_, h3⟩
    rw [hf.block g (Array.getElem?_eq_some_iff.1 h2).1 (fun e => ?_)]
    · exact h2
    · subst e
      unfold Blk at hb
      rw [hb] at h2
      injection h2 with h2
      injection h2 with _ h2
      exact hT h2
theorem RNewDesk.other {B k : Nat} {enc lim native depth : Int} {l : List Int} {w w' : World} {gd gb gt gk : Nat} {ld : Value} {T : TypeId} {cs : Array Value} (h : RNewDesk B enc lim native depth l w gd gb gt gk ld) (hf : Fr (· = k) w w') (hb : Blk w k T cs) (h1 : T ≠ 106) (h2 : T ≠ 117) (h3 : T ≠ 109) (h4 : T ≠ 3) (h5 : T ≠ 5) : RNewDesk B enc lim native depth l w' gd gb gt gk ld := by
  obtain ⟨va, vt, t1, t2, t3⟩ := h.text
  exact ⟨Blk.fr h.desk hf (fun e => Blk.ne_ hb h.desk h1 e.symm), h.book.fr hf (fun e => Blk.ne_ hb h.book h2 e.symm), own_other h.loaded hf hb h5, ⟨va, vt, Blk.fr t1 hf (fun e => Blk.ne_ hb t1 h3 e.symm), own_other t2 hf hb h4, own_other t3 hf hb h4⟩, h.ge⟩
set_option maxRecDepth 100000 in
set_option maxHeartbeats 8000000 in
theorem begun_any (s : Start) (A : Option Addr) (n c : Nat) (w : World) (hl : Bts w Any A n s.data) (hB : Byt s.data) (h1 : FitsI s.native) (h2 : FitsI s.depth) (h3 : FitsI s.room) :
    Calls Tryz.prog 5 #[.agg #[.int .i64 s.enc, .slice A n c, .int .i64 s.native, .int .i64 s.depth, .int .i64 s.room]] w fun e w' => BegunPost s w e w' := by
  have hle := hl.len
  have hok := s.ok
  have hen : s.E = 1 + s.enc % 4 := rfl
  have hli : s.lim = s.l.length + withinF s.room 4096 := rfl
  have hna : s.nat = 1 + withinF s.native 2 := rfl
  have hde : s.dep = 1 + withinF s.depth 199 := rfl
  have hll : s.l = s.data.take 4096 := rfl
  have hBl : Byt s.l := hB.take _
  have hlt : s.l.length ≤ 4096 := by rw [hll, List.length_take]; omega
  have b1 := withinF_bd s.room 4096 (by omega)
  have b2 := withinF_bd s.native 2 (by omega)
  have b3 := withinF_bd s.depth 199 (by omega)
  have k1 := fun w' => within_any s.room 4096 w' h3 (by omega) (by omega)
  have k2 := fun w' => within_any s.native 2 w' h1 (by omega) (by omega)
  have k3 := fun w' => within_any s.depth 199 w' h2 (by omega) (by omega)
  obtain ⟨x1, hx1⟩ : ∃ x, withinF s.room 4096 = x := ⟨_, rfl⟩
  obtain ⟨x2, hx2⟩ : ∃ x, withinF s.native 2 = x := ⟨_, rfl⟩
  obtain ⟨x3, hx3⟩ : ∃ x, withinF s.depth 199 = x := ⟨_, rfl⟩
  rw [hx1] at b1 hli k1
  rw [hx2] at b2 hna k2
  rw [hx3] at b3 hde k3
  obtain ⟨se, hse⟩ : ∃ x, s.enc = x := ⟨_, rfl⟩
  obtain ⟨sn, hsn⟩ : ∃ x, s.native = x := ⟨_, rfl⟩
  obtain ⟨sd, hsd⟩ : ∃ x, s.depth = x := ⟨_, rfl⟩
  obtain ⟨sr, hsr⟩ : ∃ x, s.room = x := ⟨_, rfl⟩
  rw [hse] at hen ⊢
  rw [hsn] at k2 ⊢
  rw [hsd] at k3 ⊢
  rw [hsr] at k1 ⊢
  have ha3 := and3 se
  have m1 := Int.emod_nonneg se (show (4 : Int) ≠ 0 by omega)
  have m2 := Int.emod_lt_of_pos se (show (0 : Int) < 4 by omega)
  obtain ⟨sm, hsm⟩ : ∃ x, se % 4 = x := ⟨_, rfl⟩
  rw [hsm] at hen ha3 m1 m2
  have n1 := fun (w' : World) (A' : Option Addr) (m c' : Nat) (hI : Bts w' Any A' m s.l) (hc : m ≤ c') => r12new_any s.E s.lim s.nat s.dep Any A' m c' s.l w' hI hBl hc (by rw [← hI.len]; exact hok)
  have n2 := fun (w' : World) (A' : Option Addr) (m c' : Nat) (hI : Bts w' Any A' m s.l) (hc : m ≤ c') => onew_any s.E s.lim s.nat s.dep Any A' m c' s.l w' hI hBl hc (by rw [← hI.len]; exact hok)
  have n1' : ∀ (w' : World) (A' : Option Addr) (m c' : Nat) (hI : Bts w' Any A' m s.l) (hc : m ≤ c'), Calls Tryz.prog 17 #[.int .i64 (1 + sm), .slice A' m c', .int .i64 ((m : Int) + x1), .int .i64 (1 + x2), .int .i64 (1 + x3)] w' fun e w'' => RNewPost s.E s.lim s.nat s.dep s.l w' e w'' := by
    intro w' A' m c' hI hc
    have := n1 w' A' m c' hI hc
    rw [hen, hli, hna, hde, hI.len] at this
    rw [hen, hli, hna, hde, hI.len]
    exact this
  have n2' : ∀ (w' : World) (A' : Option Addr) (m c' : Nat) (hI : Bts w' Any A' m s.l) (hc : m ≤ c'), Calls Tryz.prog 18 #[.int .i64 (1 + sm), .slice A' m c', .int .i64 ((m : Int) + x1), .int .i64 (1 + x2), .int .i64 (1 + x3)] w' fun e w'' => NewPost s.E s.lim s.nat s.dep s.l w' e w'' := by
    intro w' A' m c' hI hc
    have := n2 w' A' m c' hI hc
    rw [hen, hli, hna, hde, hI.len] at this
    rw [hen, hli, hna, hde, hI.len]
    exact this
  obtain ⟨ib, hib, hb0, hb1', hb2'⟩ := info_parts byte_info
  have K1 := Lib.hid k1
  have K2 := Lib.hid k2
  have K3 := Lib.hid k3
  have N1 := Lib.hid n1'
  have N2 := Lib.hid n2'
  have HLL := Lib.hid hll
  have HA3 := Lib.hid ha3
  clear k1 k2 k3 n1 n2 n1' n2' hll hok hen hli hna hde hx1 hx2 hx3 hse hsn hsd hsr h1 h2 h3 hsm ha3
  have hbs := (Blk.new w 24 #[.int .i64 se, .slice A n c, .int .i64 sn, .int .i64 sd, .int .i64 sr]).alloc (.cells #[.pointer none, .pointer none] 28)
  have hbb : Blk ((w.alloc (.cells #[.int .i64 se, .slice A n c, .int .i64 sn, .int .i64 sd, .int .i64 sr] 24)).alloc (.cells #[.pointer none, .pointer none] 28)) (w.heap.size + 1) 28 #[.pointer none, .pointer none] := Blk.new' (by simp)
  have hw2 : Below w.heap.size w ((w.alloc (.cells #[.int .i64 se, .slice A n c, .int .i64 sn, .int .i64 sd, .int .i64 sr] 24)).alloc (.cells #[.pointer none, .pointer none] 28)) := balloc (balloc (Below.refl _ _))
  have hz2 : ((w.alloc (.cells #[.int .i64 se, .slice A n c, .int .i64 sn, .int .i64 sd, .int .i64 sr] 24)).alloc (.cells #[.pointer none, .pointer none] 28)).heap.size = w.heap.size + 2 := by simp
  go_enter Tryz.func5, Tryz.ntmps5
  go_wp2_with fail
  obtain ⟨w0, hw0⟩ : ∃ x, (w.alloc (.cells #[.int .i64 se, .slice A n c, .int .i64 sn, .int .i64 sd, .int .i64 sr] 24)).alloc (.cells #[.pointer none, .pointer none] 28) = x := ⟨_, rfl⟩
  rw [hw0] at hbs hbb hw2 hz2
  rw [hw0]
  clear hw0
  have fs := fun (w' : World) (hb : Below w0.heap.size w0 w') => cells5 (hbs.below hb)
  have FS := Lib.hid fs
  have HZ2 := Lib.hid hz2
  clear fs hbs hz2
  go_loopg [4, 5] 4096 (fun k q4 q5 wr => CopyR s.data w0 k q4 q5 wr)
  case atStart => exact ⟨0, rfl, Nat.zero_le _, Nat.zero_le _, Nat.le_refl _, Lib.hid (World.ownsRow_nil _ _ _ _), Below.refl _ _⟩
  case round =>
    obtain ⟨i, rfl, hi, hi2, hk, hown, hb⟩ := hrel
    obtain ⟨c0, c1, c2, c3, c4⟩ := FS.out _ hb
    have hs0 := hb.size
    by_cases hgo : i < n ∧ i < 4096
    · obtain ⟨hg1, hg2⟩ := hgo
      obtain ⟨ad, rfl, _, cx⟩ := Bts.at_ (Reads.below (Reads.below hl hw2) hb) hg1
      have bx := hB.at_ i
      obtain ⟨x, hx⟩ : ∃ x, s.data.getD i 0 = x := ⟨_, rfl⟩
      rw [hx] at cx bx
      have HX := Lib.hid hx
      clear hx
      go_wp2_with (at_builtin; refine wpList_append_own_at _ rfl (.tmp 26) (.tmp 32) 22 rfl w0.heap.size 5 ib (.int .u8 0) 1 1 Tryz.underlying22 hib hb0 hb1' hb2' rfl (by decide) u4 i _ rfl (hown.out.alloc _) ⟨wr.heap.size, 0, none⟩ 1 1 [.int .u8 x] rfl rfl (cell_one_new _ _ _) (by simp [Value.oneCell']) (by unfold maxLen; omega) (by omega) (by simp; omega) ?_)
      intro v1 w1 hown1 hgr _ _
      have hb1 : Below w0.heap.size w0 w1 := below_grown2 (balloc hb) hgr (fun k hk => own_ge hown.out hk)
      have HO := Lib.hid hown1
      clear hown1 hgr hib hb0 hb1' hb2' c0 c1 c2 c3 c4 cx
      go_wp2_with fail
      go_roundg (4096 - (i + 1))
      case measure => omega
      case rel =>
        refine ⟨i + 1, by go_num, by omega, by omega, by omega, Lib.hid ?_, hb1⟩
        have hx := HX.out
        rw [List.getD_eq_getElem?_getD, List.getElem?_eq_getElem (by omega)] at hx
        simp at hx
        rw [List.take_succ_eq_append_getElem (by omega), List.map_append, hx, List.map_take]
        exact HO.out
    · have hls : s.data.take i = s.l := by
        rw [HLL.out]
        rcases Nat.lt_or_ge i 4096 with h | h
        · rw [List.take_of_length_le (by omega), List.take_of_length_le (by omega)]
        · rw [show i = 4096 by omega]
      have hli : s.l.length = i := by rw [← hls, List.length_take]; omega
      have ho := hown.out
      rw [hls] at ho
      obtain ⟨A4, k4, rfl, hk4⟩ := own_slice ho
      have hI : Bts wr Any A4 i s.l := Reads.more (Reads.of_own ho) (fun _ _ _ => trivial) (by decide)
      have HI := Lib.hid hI
      have hx' : ((i : Int) < (n : Int)) = False ∨ (((i : Int) < (n : Int)) = True ∧ ((i : Int) < 4096) = False) := by simp; omega
      have ha3 := HA3.out
      have hwb := bseq hw2 hb
      clear hls hli ho hown hI hgo
      rcases hx' with hx | ⟨hx0, hx⟩
      all_goals
        go_wp2_with fail
        refine (K1.out _).mono ?_
        rintro e w1 ⟨rfl, rfl⟩
        go_wp2_with fail
        refine (K2.out _).mono ?_
        rintro e w1 ⟨rfl, rfl⟩
        go_wp2_with fail
        refine (K3.out _).mono ?_
        rintro e w1 ⟨rfl, rfl⟩
        go_wp2_with fail
        refine (N1.out _ _ _ _ HI.out hk4).mono ?_
        rintro e w1 ⟨gd', gb', gt', gk', ld, rfl, hR, hb1⟩
        go_wp2_with fail
        refine (N2.out _ _ _ _ (Reads.below HI.out hb1) hk4).mono ?_
        rintro e w2 ⟨gd, gb, gt, m, gk, mk, rfl, hD, hb2⟩
        clear c0 c1 c2 c3 c4 hx ha3
        try clear hx0
        have hR2 := hR.below hb2
        have hw1 := bseq hwb hb1
        have hw2' := bseq hw1 hb2
        have z1 := hwb.size
        have z2 := hw1.size
        have z3 := hw2'.size
        have hlt2 : w.heap.size + 2 ≤ wr.heap.size := by have := HZ2.out; omega
        have hbb2 := ((hbb.below hb).below hb1).below hb2
        obtain ⟨d0, d1, -⟩ := cells10 (show Blk w2 gd _ _ from hD.desk)
        have hbk := hD.book.1
        have hD2 := hD.base z2
        have hR3 := hR2.base z1
        have HD := Lib.hid hD2
        have HR := Lib.hid hR3
        have HBK := Lib.hid hbk
        have HBB := Lib.hid hbb2
        clear hD hR hR2 hD2 hR3 hbk hbb2
        go_wp2_with fail
        refine (btext_any w2 gb gt _ HBK.out rfl).mono ?_
        rintro e w3 ⟨rfl, rfl⟩
        go_wp2_with fail
        have hB3 := Blk.new w2 28 #[.pointer (some ⟨gd, 0, none⟩), .pointer (some ⟨gd', 0, none⟩)]
        have hb3 : Below w2.heap.size w2 (w2.alloc (.cells #[.pointer (some ⟨gd, 0, none⟩), .pointer (some ⟨gd', 0, none⟩)] 28)) := balloc (Below.refl _ _)
        obtain ⟨w3, hw3⟩ : ∃ x, w2.alloc (.cells #[.pointer (some ⟨gd, 0, none⟩), .pointer (some ⟨gd', 0, none⟩)] 28) = x := ⟨_, rfl⟩
        rw [hw3] at hB3 hb3
        rw [hw3]
        clear hw3 d0 d1
        have hN : BothNew w.heap.size s.E s.lim s.nat s.dep s.l w3 w2.heap.size gd gb gt m gk mk gd' gb' gt' gk' ld := ⟨hB3, HD.out.below hb3, HR.out.below hb3⟩
        have hbb3 := HBB.out.below hb3
        have htx := fun (w' : World) (hb : Below w3.heap.size w3 w') => btext_new w.heap.size s.E s.lim s.nat s.dep s.l w' w2.heap.size gd gb gt m gk mk gd' gb' gt' gk' ld (hN.below hb)
        have hcb := fun (w' : World) (hb : Below w3.heap.size w3 w') => cells2 (hB3.below hb)
        have HTX := Lib.hid htx
        have HCB := Lib.hid hcb
        have HB3 := Lib.hid hB3
        have HN := Lib.hid hN
        have HBB3 := Lib.hid hbb3
        have hne : w.heap.size + 1 ≠ w2.heap.size := by have := hb1.size; have := hb2.size; omega
        have hw3' := bseq hw2' hb3
        clear htx hcb hN hbb3 hB3
        refine wp_region_lin (fun w' => w'.cell? ⟨w2.heap.size, 0, none⟩ = some (.pointer (some ⟨gd, 0, none⟩)) ∧ w'.cell? ⟨w2.heap.size, 1, none⟩ = some (.pointer (some ⟨gd', 0, none⟩))) (fun w' => Below w3.heap.size w3 w') (fun k => k == 1 || k == 2) (fun _ => false) (fun _ => false) (by kernel_rfl) (by kernel_rfl) (Below.drew (Below.refl _ _)) (fun _ h => HCB.out _ h) ?_
        repeat (first
          | (refine wpL_read (v := ?_) (by rfl) (by rfl) (fun w6 hSw => ?_) ?_; rotate_left; (· (obtain ⟨y0, y1⟩ := hSw; go_simp; first | done | with_reducible rfl)); (try simp only [Act.put, List.setIfInBounds_toArray, List.set_cons_zero, List.set_cons_succ]))
          | (refine wpL_free (v := ?_) (by rfl) (fun w6 => ?_) ?_; rotate_left; (· (go_simp; first | done | with_reducible rfl)); (try simp only [Act.put, List.setIfInBounds_toArray, List.set_cons_zero, List.set_cons_succ]))
          | (refine wpL_not (by rfl) ?_; (try simp only [Act.put, List.setIfInBounds_toArray, List.set_cons_zero, List.set_cons_succ])))
        refine wpL_call1 (f := ?_) (args := ?_) (v := .bool true) (by rfl) (by rfl) (fun w6 hSw => ?_) (fun _ h => HCB.out _ h) (fun w6 hSw => ?_) ?_
        rotate_left 2
        · (skip; go_simp; first | done | (constructor <;> with_reducible rfl) | with_reducible rfl)
        · (refine (HTX.out _ hSw).mono ?_; rintro e w5 ⟨rfl, hb5⟩; exact ⟨rfl, bseq hSw hb5⟩)
        (try simp only [Act.put, List.setIfInBounds_toArray, List.set_cons_zero, List.set_cons_succ])
        repeat (first
          | (refine wpL_read (v := ?_) (by rfl) (by rfl) (fun w6 hSw => ?_) ?_; rotate_left; (· (obtain ⟨y0, y1⟩ := hSw; go_simp; first | done | with_reducible rfl)); (try simp only [Act.put, List.setIfInBounds_toArray, List.set_cons_zero, List.set_cons_succ]))
          | (refine wpL_free (v := ?_) (by rfl) (fun w6 => ?_) ?_; rotate_left; (· (go_simp; first | done | with_reducible rfl)); (try simp only [Act.put, List.setIfInBounds_toArray, List.set_cons_zero, List.set_cons_succ]))
          | (refine wpL_not (by rfl) ?_; (try simp only [Act.put, List.setIfInBounds_toArray, List.set_cons_zero, List.set_cons_succ])))
        refine wpL_heavy (fun _ w'' => ∃ w', Below w3.heap.size w3 w' ∧ w'' = (w'.setCell ⟨w.heap.size + 1, 0, none⟩ (.pointer (some ⟨gd, 0, none⟩))).setCell ⟨w.heap.size + 1, 1, none⟩ (.pointer (some ⟨gd', 0, none⟩))) (by rfl) (by rfl) (fun w6 hSw => ?_) (.inr (fun v6 w6 hT6 => ?_)) (fun v6 hv6 => ?_)
        · (have hbx := HBB3.out.below hSw; have e0 := hbx.cell 0; have e1 := hbx.cell 1; have e2 := hbx.frozen 0; have e3 := hbx.frozen 1; simp at e0 e1; go_simp; exact ⟨w6, hSw, rfl⟩)
        · (obtain ⟨w', hb', rfl⟩ := hT6; exact cells2 ((Blk.far (HB3.out.below hb') hne.symm _).far hne.symm _))
        skip
        (try simp only [Act.put, List.setIfInBounds_toArray, List.set_cons_zero, List.set_cons_succ])
        repeat (first
          | (refine wpL_read (v := ?_) (by rfl) (by rfl) (fun w6 hSw => ?_) ?_; rotate_left; (· (skip; go_simp; first | done | with_reducible rfl)); (try simp only [Act.put, List.setIfInBounds_toArray, List.set_cons_zero, List.set_cons_succ]))
          | (refine wpL_free (v := ?_) (by rfl) (fun w6 => ?_) ?_; rotate_left; (· (go_simp; first | done | with_reducible rfl)); (try simp only [Act.put, List.setIfInBounds_toArray, List.set_cons_zero, List.set_cons_succ]))
          | (refine wpL_not (by rfl) ?_; (try simp only [Act.put, List.setIfInBounds_toArray, List.set_cons_zero, List.set_cons_succ])))
        refine wpL_nil ?_
        rintro w4 ⟨w', hb', rfl⟩
        have hn := HN.out.below hb'
        have hbx := HBB3.out.below hb'
        have hbf := (hbx.set_ 0 (.pointer (some ⟨gd, 0, none⟩))).set_ 1 (.pointer (some ⟨gd', 0, none⟩))
        have hfr : Fr (· = w.heap.size + 1) w' ((w'.setCell ⟨w.heap.size + 1, 0, none⟩ (.pointer (some ⟨gd, 0, none⟩))).setCell ⟨w.heap.size + 1, 1, none⟩ (.pointer (some ⟨gd', 0, none⟩))) := ((Fr.refl _ _).set1 0 _).set1 1 _
        have hDf := hn.D.other hfr hbx (by decide) (by decide) (by decide) (by decide) (by decide) rfl
        have hRf := hn.R.other hfr hbx (by decide) (by decide) (by decide) (by decide) (by decide)
        have hwf : Below w.heap.size w ((w'.setCell ⟨w.heap.size + 1, 0, none⟩ (.pointer (some ⟨gd, 0, none⟩))).setCell ⟨w.heap.size + 1, 1, none⟩ (.pointer (some ⟨gd', 0, none⟩))) := ((bseq hw3' hb').setCell (by simp) _).setCell (by simp) _
        have k0 := hbf.cell 0
        have k1 := hbf.cell 1
        simp at k0 k1
        have HDF := Lib.hid hDf
        have HRF := Lib.hid hRf
        have HWF := Lib.hid hwf
        clear hDf hRf hwf hfr hbf hbx hn
        go_wp2_with fail
        refine bodyPost_ret (v := .tuple #[.agg #[.pointer (some ⟨gd, 0, none⟩), .pointer (some ⟨gd', 0, none⟩)], .bool true]) (by simp [results, Tryz.results5, go_sem, k0, k1]) rfl ⟨gd, gb, gt, m, gk, mk, gd', gb', gt', gk', ld, rfl, ⟨HDF.out, HRF.out⟩, HWF.out⟩
end Go.Proofs.YteekabaoocaghaaGreat
