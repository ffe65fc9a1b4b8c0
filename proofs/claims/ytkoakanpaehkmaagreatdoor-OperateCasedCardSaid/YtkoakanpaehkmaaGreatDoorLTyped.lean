/-
  What is typed, where no line end is typed (lines.Typed).
-/
import Derived.Test.YtkoakanpaehkmaaGreatDoorLJoinLaw2
import Derived.Recover
import Derived.Test.YtkoakanpaehkmaaGreatDoorLBoth
import Derived.Test.YtkoakanpaehkmaaGreatDoorLUndoLaw
import Derived.Test.YtkoakanpaehkmaaGreatDoorLSame
import Derived.Test.YtkoakanpaehkmaaGreatDoorLEnd2
import Derived.Test.YtkoakanpaehkmaaGreatDoorLWk4
set_option linter.unusedSimpArgs false
set_option linter.unusedVariables false
set_option maxRecDepth 100000
set_option maxHeartbeats 32000000
namespace Go.Proofs.YtkoakanpaehkmaaGreatDoor
open Go.RowKit
theorem desk_text (gd gb g : Nat) (ds cs : Array Value) (w : World) (hd : Blk w gd 49 ds) (h1 : ds[0]? = some (.pointer (some ⟨gb, 0, none⟩))) (hb : Blk w gb 87 cs) (h0 : cs[0]? = some (.pointer (some ⟨g, 0, none⟩))) :
  Calls Tryz.prog 37 #[.pointer (some ⟨gd, 0, none⟩)] w fun e w' => e = .returned (.pointer (some ⟨g, 0, none⟩)) /\ w = w' := by
 have HK := Lib.hid (btext_any w gb g cs hb h0)
 have c0 := hd.cell 0
 rw [h1] at c0
 clear hb h0 hd h1
 go_enter Tryz.func37, Tryz.ntmps37
 go_wp2_with fail
 refine (HK.out).mono ?_
 rintro e w1 ⟨rfl, rfl⟩
 go_wp2_with fail
 go_ret
 exact ⟨rfl, rfl⟩
theorem must_ok (w : World) : Calls Tryz.prog 68 #[.int .i64 0] w fun e w' => e = .returned (.tuple #[]) /\ w = w' := by
 go_enter Tryz.func68, Tryz.ntmps68
 go_wp2_with fail
 show bodyPost _ _ _ _ _ _
 refine bodyPost_end (results_none rfl _ _ _) rfl ?_
 exact ⟨rfl, rfl⟩
theorem native_any (gd : Nat) (ds : Array Value) (b : Int) (w : World) (hd : Blk w gd 49 ds) (h0 : ds[9]? = some (.int .i64 b)) (hb : 1 <= b /\ b <= 3) :
  Calls Tryz.prog 67 #[.pointer (some ⟨gd, 0, none⟩)] w fun e w' => e = .returned (.int .i64 b) /\ w = w' := by
 have c0 := hd.cell 9
 rw [h0] at c0
 have q1 : (b < 1) = False := by simp; omega
 have q2 : (3 < b) = False := by simp; omega
 clear hd h0
 go_enter Tryz.func67, Tryz.ntmps67
 go_wp2_with fail
 go_ret
 exact ⟨rfl, rfl⟩
theorem caught1_ret (r : Nat) (w : World) :
  CallsD Tryz.prog 119 #[.pointer (some ⟨r, 0, none⟩)] .returning w fun e u' w' => u' = .returning /\ e = .returned (.tuple #[]) /\ w' = w := by
 refine callsD_of_wpS Tryz.func119 rfl fun c₀ cs hu => ?_
 apply wpS_seq
 apply wpS_region
 simp [wpOpsS, go_sem, recoverD, hu, Tryz.ntmps119, Exit.thenS]
 refine wpS_of_wp ?_
 go_wp2_with fail
 simp [bodyPostS, results, Tryz.results119, go_sem]
 cases c₀
 simp at hu
 subst hu
 rfl
theorem and3 (x : Int) : bits .and .i64 x 3 = x % 4 := by
 show IntKind.i64.wrap ((BitVec.ofInt 64 x &&& BitVec.ofInt 64 3).toNat : Int) = _
 have e : (BitVec.ofInt 64 3).toNat = 2 ^ 2 - 1 := by decide
 rw [BitVec.toNat_and, BitVec.toNat_ofInt, e, Nat.and_two_pow_sub_one_eq_mod, IntKind.wrap_i64]
 omega
def withinF (x n : Int) : Int := (if x < 0 then -(x + 1) else x) % (n + 1)
theorem withinF_bd (x n : Int) (h : 0 <= n) : 0 <= withinF x n /\ withinF x n <= n := by
 unfold withinF
 generalize (if x < 0 then -(x + 1) else x) = y
 have h1 := Int.emod_nonneg y (show n + 1 ≠ 0 by omega)
 have h2 := Int.emod_lt_of_pos y (show 0 < n + 1 by omega)
 omega
theorem within_any (x n : Int) (w : World) (hx : -9223372036854775808 <= x /\ x <= 9223372036854775807) (h0 : 0 <= n) (h1 : n <= 1073741824) :
  Calls Tryz.prog 11 #[.int .i64 x, .int .i64 n] w fun e w' => e = .returned (.int .i64 (withinF x n)) /\ w = w' := by
 have key : ∀ y : Int, 0 <= y -> y.tmod (n + 1) = y % (n + 1) := fun y hy => Int.tmod_eq_emod_of_nonneg hy
 have hk : IntKind.i64.wrap (n + 1) = n + 1 := IntWalk.i64_in _ (by omega)
 have hn0 : (n + 1 = 0) = False := by simp; omega
 have hn1 : (n + 1 == 0) = false := by rw [beq_eq_false_iff_ne]; omega
 have hn2 : (n + 1 = -1) = False := by simp; omega
 have hn3 : (n + 1 == -1) = false := by rw [beq_eq_false_iff_ne]; omega
 have hb := withinF_bd x n h0
 by_cases h : x < 0
 ·have e1 : IntKind.i64.wrap (x + 1) = x + 1 := IntWalk.i64_in _ (by omega)
  have e2 : IntKind.i64.wrap (-(x + 1)) = -(x + 1) := IntWalk.i64_in _ (by omega)
  have e0 : withinF x n = (-(x + 1)).tmod (n + 1) := by rw [key _ (by omega)]; unfold withinF; rw [if_pos h]
  have e3 : IntKind.i64.wrap ((-(x + 1)).tmod (n + 1)) = withinF x n := by rw [<- e0]; exact IntWalk.i64_in _ (by omega)
  have E3 := Lib.hid e3
  clear e0 e3 hb
  go_enter Tryz.func11, Tryz.ntmps11
  go_wp2
  go_ret
  exact ⟨ret_i (by rw [<- Int.neg_tmod, key _ (by omega)]; unfold withinF; rw [if_pos h]), rfl⟩
 ·have e0 : withinF x n = x.tmod (n + 1) := by rw [key _ (by omega)]; unfold withinF; rw [if_neg h]
  have e3 : IntKind.i64.wrap (x.tmod (n + 1)) = withinF x n := by rw [<- e0]; exact IntWalk.i64_in _ (by omega)
  have E3 := Lib.hid e3
  clear e0 e3 hb
  go_enter Tryz.func11, Tryz.ntmps11
  go_wp2
  go_ret
  exact ⟨ret_i (by unfold withinF; rw [if_neg (by omega)]), rfl⟩
structure Start where
 enc : Int
 native : Int
 depth : Int
 room : Int
 data : List Int
def Start.E (s : Start) : Int := 1 + s.enc % 4
def Start.l (s : Start) : List Int := s.data.take 4096
def Start.lim (s : Start) : Int := s.l.length + withinF s.room 4096
def Start.nat (s : Start) : Int := 1 + withinF s.native 2
def Start.dep (s : Start) : Int := 1 + withinF s.depth 199
theorem Start.ok (s : Start) : newErr s.E s.lim s.nat s.dep s.l.length = 0 := by
 have h1 := withinF_bd s.room 4096 (by omega)
 have h2 := withinF_bd s.native 2 (by omega)
 have h3 := withinF_bd s.depth 199 (by omega)
 have h4 : s.l.length <= 4096 := by unfold Start.l; rw [List.length_take]; omega
 unfold newErr bookErr openErr Start.E Start.lim Start.nat Start.dep
 rw [if_neg (by omega), if_neg (by omega), if_neg (by omega), if_neg (by omega), if_neg (by omega)]
def CopyR (l : List Int) (w0 : World) (k : Nat) (q4 q5 : Value) (wr : World) : Prop :=
 ∃ i : Nat, q5 = .int .i64 (i : Int) /\ i <= l.length /\ i <= 4096 /\ 4096 - i <= k /\ Hid (wr.ownsRow w0.heap.size 5 1 q4 i ((l.take i).map (Value.int .u8))) /\ Below w0.heap.size w0 wr
structure Begun (B : Nat) (s : Start) (w' : World) (gd gb gt m gk mk gd' gb' gt' gk' : Nat) (ld : Value) : Prop where
 D : NewDesk B s.E s.lim s.nat s.dep s.l w' gd gb gt m gk mk
 R : RNewDesk B s.E s.lim s.nat s.dep s.l w' gd' gb' gt' gk' ld
def BegunPost (s : Start) (w : World) (e : Ending) (w' : World) : Prop :=
 ∃ gd gb gt m gk mk gd' gb' gt' gk' ld, e = .returned (.tuple #[.agg #[.pointer (some ⟨gd, 0, none⟩), .pointer (some ⟨gd', 0, none⟩)], .bool true]) /\ Begun w.heap.size s w' gd gb gt m gk mk gd' gb' gt' gk' ld /\ Below w.heap.size w w'
def FitsI (x : Int) : Prop := -9223372036854775808 <= x /\ x <= 9223372036854775807
theorem cells5 {w : World} {g : Nat} {T : TypeId} {a0 a1 a2 a3 a4 : Value} (h : Blk w g T #[a0, a1, a2, a3, a4]) :
  w.cell? ⟨g, 0, none⟩ = some a0 /\ w.cell? ⟨g, 1, none⟩ = some a1 /\ w.cell? ⟨g, 2, none⟩ = some a2 /\ w.cell? ⟨g, 3, none⟩ = some a3 /\ w.cell? ⟨g, 4, none⟩ = some a4 := ⟨h.cell 0, h.cell 1, h.cell 2, h.cell 3, h.cell 4⟩
theorem NewDesk.base {B B' : Nat} {enc lim native depth : Int} {l : List Int} {w : World} {gd gb gt m gk mk : Nat} (h : NewDesk B enc lim native depth l w gd gb gt m gk mk) (hB : B' <= B) : NewDesk B' enc lim native depth l w gd gb gt m gk mk :=
 ⟨h.desk, h.book, h.text.more (fun b hb _ => Nat.le_trans hB hb), h.bank, by have := h.ge; omega⟩
theorem RNewDesk.base {B B' : Nat} {enc lim native depth : Int} {l : List Int} {w : World} {gd gb gt gk : Nat} {ld : Value} (h : RNewDesk B enc lim native depth l w gd gb gt gk ld) (hB : B' <= B) : RNewDesk B' enc lim native depth l w gd gb gt gk ld := by
 obtain ⟨va, vt, h1, h2, h3⟩ := h.text
 exact ⟨h.desk, h.book, ownsRow_le h.loaded hB, ⟨va, vt, h1, ownsRow_le h2 hB, ownsRow_le h3 hB⟩, by have := h.ge; omega⟩
theorem NewDesk.other {B k : Nat} {enc lim native depth : Int} {l : List Int} {w w' : World} {gd gb gt m gk mk : Nat} {T : TypeId} {cs : Array Value} (h : NewDesk B enc lim native depth l w gd gb gt m gk mk) (hf : Fr (· = k) w w') (hb : Blk w k T cs) (h1 : T ≠ 49) (h2 : T ≠ 87) (h3 : T ≠ 189) (h4 : T ≠ 139) (h5 : T ≠ 196) (hu : NoU8 cs) (h6 : T ≠ 5 := by decide) : NewDesk B enc lim native depth l w' gd gb gt m gk mk :=
 ⟨Blk.fr h.desk hf (fun e => Blk.ne_ hb h.desk h1 e.symm), ⟨h.book.1.fr hf (fun e => Blk.ne_ hb h.book.1 h2 e.symm), h.book.2.fr hf (fun e => h.book.2.ne_blk hb e)⟩, h.text.other hf hb h4 h5 hu h6, ⟨h.bank.1.fr hf (fun e => Blk.ne_ hb h.bank.1 h3 e.symm), h.bank.2.fr hf (fun e => h.bank.2.ne_blk hb e)⟩, h.ge⟩
theorem own_other {w w' : World} {B e size n k : Nat} {T : TypeId} {cs : Array Value} {v : Value} {xs : List Value} (h : w.ownsRow B e size v n xs) (hf : Fr (· = k) w w') (hb : Blk w k T cs) (hT : T ≠ e) : w'.ownsRow B e size v n xs := by
 refine ⟨h.1, ?_⟩
 rcases h.2 with h0 | ⟨g, cap, cur, rfl, h1, h2, h3⟩
 ·exact .inl h0
 ·refine .inr ⟨g, cap, cur, rfl, h1, ?_, h3⟩
  rw [hf.block g (Array.getElem?_eq_some_iff.1 h2).1 (fun e => ?_)]
  ·exact h2
  ·subst e
   unfold Blk at hb
   rw [hb] at h2
   injection h2 with h2
   injection h2 with _ h2
   exact hT h2
theorem RNewDesk.other {B k : Nat} {enc lim native depth : Int} {l : List Int} {w w' : World} {gd gb gt gk : Nat} {ld : Value} {T : TypeId} {cs : Array Value} (h : RNewDesk B enc lim native depth l w gd gb gt gk ld) (hf : Fr (· = k) w w') (hb : Blk w k T cs) (h1 : T ≠ 111) (h2 : T ≠ 123) (h3 : T ≠ 115) (h4 : T ≠ 3) (h5 : T ≠ 5) : RNewDesk B enc lim native depth l w' gd gb gt gk ld := by
 obtain ⟨va, vt, t1, t2, t3⟩ := h.text
 exact ⟨Blk.fr h.desk hf (fun e => Blk.ne_ hb h.desk h1 e.symm), h.book.fr hf (fun e => Blk.ne_ hb h.book h2 e.symm), own_other h.loaded hf hb h5, ⟨va, vt, Blk.fr t1 hf (fun e => Blk.ne_ hb t1 h3 e.symm), own_other t2 hf hb h4, own_other t3 hf hb h4⟩, h.ge⟩
theorem begun_any (s : Start) (A : Option Addr) (n c : Nat) (w : World) (hl : Bts w Any A n s.data) (hB : Byt s.data) (h1 : FitsI s.native) (h2 : FitsI s.depth) (h3 : FitsI s.room) :
  Calls Tryz.prog 7 #[.agg #[.int .i64 s.enc, .slice A n c, .int .i64 s.native, .int .i64 s.depth, .int .i64 s.room]] w fun e w' => BegunPost s w e w' := by
 have hle := hl.len
 have hok := s.ok
 have hen : s.E = 1 + s.enc % 4 := rfl
 have hli : s.lim = s.l.length + withinF s.room 4096 := rfl
 have hna : s.nat = 1 + withinF s.native 2 := rfl
 have hde : s.dep = 1 + withinF s.depth 199 := rfl
 have hll : s.l = s.data.take 4096 := rfl
 have hBl : Byt s.l := hB.take _
 have hlt : s.l.length <= 4096 := by rw [hll, List.length_take]; omega
 have b1 := withinF_bd s.room 4096 (by omega)
 have b2 := withinF_bd s.native 2 (by omega)
 have b3 := withinF_bd s.depth 199 (by omega)
 have k1 := fun w' => within_any s.room 4096 w' h3 (by omega) (by omega)
 have k2 := fun w' => within_any s.native 2 w' h1 (by omega) (by omega)
 have k3 := fun w' => within_any s.depth 199 w' h2 (by omega) (by omega)
 obtain ⟨x1, hx1⟩ : ∃ x, withinF s.room 4096 = x := ⟨_, rfl⟩
 obtain ⟨x2, hx2⟩ : ∃ x, withinF s.native 2 = x := ⟨_, rfl⟩
 obtain ⟨x3, hx3⟩ : ∃ x, withinF s.depth 199 = x := ⟨_, rfl⟩
 rw [hx1] at b1 hli k1
 rw [hx2] at b2 hna k2
 rw [hx3] at b3 hde k3
 obtain ⟨se, hse⟩ : ∃ x, s.enc = x := ⟨_, rfl⟩
 obtain ⟨sn, hsn⟩ : ∃ x, s.native = x := ⟨_, rfl⟩
 obtain ⟨sd, hsd⟩ : ∃ x, s.depth = x := ⟨_, rfl⟩
 obtain ⟨sr, hsr⟩ : ∃ x, s.room = x := ⟨_, rfl⟩
 rw [hse] at hen ⊢
 rw [hsn] at k2 ⊢
 rw [hsd] at k3 ⊢
 rw [hsr] at k1 ⊢
 have ha3 := and3 se
 have m1 := Int.emod_nonneg se (show (4 : Int) ≠ 0 by omega)
 have m2 := Int.emod_lt_of_pos se (show (0 : Int) < 4 by omega)
 obtain ⟨sm, hsm⟩ : ∃ x, se % 4 = x := ⟨_, rfl⟩
 rw [hsm] at hen ha3 m1 m2
 have n1 := fun (w' : World) (A' : Option Addr) (m c' : Nat) (hI : Bts w' Any A' m s.l) (hc : m <= c') => r12new_any s.E s.lim s.nat s.dep Any A' m c' s.l w' hI hBl hc (by rw [<- hI.len]; exact hok)
 have n2 := fun (w' : World) (A' : Option Addr) (m c' : Nat) (hI : Bts w' Any A' m s.l) (hc : m <= c') => onew_any s.E s.lim s.nat s.dep Any A' m c' s.l w' hI hBl hc (by rw [<- hI.len]; exact hok)
 have n1' : ∀ (w' : World) (A' : Option Addr) (m c' : Nat) (hI : Bts w' Any A' m s.l) (hc : m <= c'), Calls Tryz.prog 23 #[.int .i64 (1 + sm), .slice A' m c', .int .i64 ((m : Int) + x1), .int .i64 (1 + x2), .int .i64 (1 + x3)] w' fun e w'' => RNewPost s.E s.lim s.nat s.dep s.l w' e w'' := by
  intro w' A' m c' hI hc
  have := n1 w' A' m c' hI hc
  rw [hen, hli, hna, hde, hI.len] at this
  rw [hen, hli, hna, hde, hI.len]
  exact this
 have n2' : ∀ (w' : World) (A' : Option Addr) (m c' : Nat) (hI : Bts w' Any A' m s.l) (hc : m <= c'), Calls Tryz.prog 24 #[.int .i64 (1 + sm), .slice A' m c', .int .i64 ((m : Int) + x1), .int .i64 (1 + x2), .int .i64 (1 + x3)] w' fun e w'' => NewPost s.E s.lim s.nat s.dep s.l w' e w'' := by
  intro w' A' m c' hI hc
  have := n2 w' A' m c' hI hc
  rw [hen, hli, hna, hde, hI.len] at this
  rw [hen, hli, hna, hde, hI.len]
  exact this
 obtain ⟨ib, hib, hb0, hb1', hb2'⟩ := info_parts byte_info
 have K1 := Lib.hid k1
 have K2 := Lib.hid k2
 have K3 := Lib.hid k3
 have N1 := Lib.hid n1'
 have N2 := Lib.hid n2'
 have HLL := Lib.hid hll
 have HA3 := Lib.hid ha3
 clear k1 k2 k3 n1 n2 n1' n2' hll hok hen hli hna hde hx1 hx2 hx3 hse hsn hsd hsr h1 h2 h3 hsm ha3
 have hbs := (Blk.new w 24 #[.int .i64 se, .slice A n c, .int .i64 sn, .int .i64 sd, .int .i64 sr]).alloc (.cells #[.pointer none, .pointer none] 30)
 have hbb : Blk ((w.alloc (.cells #[.int .i64 se, .slice A n c, .int .i64 sn, .int .i64 sd, .int .i64 sr] 24)).alloc (.cells #[.pointer none, .pointer none] 30)) (w.heap.size + 1) 30 #[.pointer none, .pointer none] := Blk.new' (by simp)
 have hw2 : Below w.heap.size w ((w.alloc (.cells #[.int .i64 se, .slice A n c, .int .i64 sn, .int .i64 sd, .int .i64 sr] 24)).alloc (.cells #[.pointer none, .pointer none] 30)) := balloc (balloc (Below.refl _ _))
 have hz2 : ((w.alloc (.cells #[.int .i64 se, .slice A n c, .int .i64 sn, .int .i64 sd, .int .i64 sr] 24)).alloc (.cells #[.pointer none, .pointer none] 30)).heap.size = w.heap.size + 2 := by simp
 go_enter Tryz.func7, Tryz.ntmps7
 go_wp2_with fail
 obtain ⟨w0, hw0⟩ : ∃ x, (w.alloc (.cells #[.int .i64 se, .slice A n c, .int .i64 sn, .int .i64 sd, .int .i64 sr] 24)).alloc (.cells #[.pointer none, .pointer none] 30) = x := ⟨_, rfl⟩
 rw [hw0] at hbs hbb hw2 hz2
 rw [hw0]
 clear hw0
 have fs := fun (w' : World) (hb : Below w0.heap.size w0 w') => cells5 (hbs.below hb)
 have FS := Lib.hid fs
 have HZ2 := Lib.hid hz2
 clear fs hbs hz2
 go_loopg [4, 5] 4096 (fun k q4 q5 wr => CopyR s.data w0 k q4 q5 wr)
 case atStart => exact ⟨0, rfl, Nat.zero_le _, Nat.zero_le _, Nat.le_refl _, Lib.hid (World.ownsRow_nil _ _ _ _), Below.refl _ _⟩
 case round =>
  obtain ⟨i, rfl, hi, hi2, hk, hown, hb⟩ := hrel
  obtain ⟨c0, c1, c2, c3, c4⟩ := FS.out _ hb
  have hs0 := hb.size
  by_cases hgo : i < n /\ i < 4096
  ·obtain ⟨hg1, hg2⟩ := hgo
   obtain ⟨ad, rfl, _, cx⟩ := Bts.at_ (Reads.below (Reads.below hl hw2) hb) hg1
   have bx := hB.at_ i
   obtain ⟨x, hx⟩ : ∃ x, s.data.getD i 0 = x := ⟨_, rfl⟩
   rw [hx] at cx bx
   have HX := Lib.hid hx
   clear hx
   go_wp2_with (at_builtin; refine wpList_append_own_at _ rfl (.tmp 26) (.tmp 32) 22 rfl w0.heap.size 5 ib (.int .u8 0) 1 1 Tryz.underlying22 hib hb0 hb1' hb2' rfl (by decide) u4 i _ rfl (hown.out.alloc _) ⟨wr.heap.size, 0, none⟩ 1 1 [.int .u8 x] rfl rfl (cell_one_new _ _ _) (by simp [Value.oneCell']) (by unfold maxLen; omega) (by omega) (by simp; omega) ?_)
   intro v1 w1 hown1 hgr _ _
   have hb1 : Below w0.heap.size w0 w1 := below_grown2 (balloc hb) hgr (fun k hk => own_ge hown.out hk)
   have HO := Lib.hid hown1
   clear hown1 hgr hib hb0 hb1' hb2' c0 c1 c2 c3 c4 cx
   go_wp2_with fail
   go_roundg (4096 - (i + 1))
   case measure => omega
   case rel =>
    refine ⟨i + 1, by go_num, by omega, by omega, by omega, Lib.hid ?_, hb1⟩
    have hx := HX.out
    rw [List.getD_eq_getElem?_getD, List.getElem?_eq_getElem (by omega)] at hx
    simp at hx
    rw [List.take_succ_eq_append_getElem (by omega), List.map_append, hx, List.map_take]
    exact HO.out
  ·have hls : s.data.take i = s.l := by
    rw [HLL.out]
    rcases Nat.lt_or_ge i 4096 with h | h
    ·rw [List.take_of_length_le (by omega), List.take_of_length_le (by omega)]
    ·rw [show i = 4096 by omega]
   have hli : s.l.length = i := by rw [<- hls, List.length_take]; omega
   have ho := hown.out
   rw [hls] at ho
   obtain ⟨A4, k4, rfl, hk4⟩ := own_slice ho
   have hI : Bts wr Any A4 i s.l := Reads.more (Reads.of_own ho) (fun _ _ _ => trivial) (by decide)
   have HI := Lib.hid hI
   have hx' : ((i : Int) < (n : Int)) = False \/ (((i : Int) < (n : Int)) = True /\ ((i : Int) < 4096) = False) := by simp; omega
   have ha3 := HA3.out
   have hwb := bseq hw2 hb
   clear hls hli ho hown hI hgo
   rcases hx' with hx | ⟨hx0, hx⟩
   all_goals
    go_wp2_with fail
    refine (K1.out _).mono ?_
    rintro e w1 ⟨rfl, rfl⟩
    go_wp2_with fail
    refine (K2.out _).mono ?_
    rintro e w1 ⟨rfl, rfl⟩
    go_wp2_with fail
    refine (K3.out _).mono ?_
    rintro e w1 ⟨rfl, rfl⟩
    go_wp2_with fail
    refine (N1.out _ _ _ _ HI.out hk4).mono ?_
    rintro e w1 ⟨gd', gb', gt', gk', ld, rfl, hR, hb1⟩
    go_wp2_with fail
    refine (N2.out _ _ _ _ (Reads.below HI.out hb1) hk4).mono ?_
    rintro e w2 ⟨gd, gb, gt, m, gk, mk, rfl, hD, hb2⟩
    clear c0 c1 c2 c3 c4 hx ha3
    try clear hx0
    have hR2 := hR.below hb2
    have hw1 := bseq hwb hb1
    have hw2' := bseq hw1 hb2
    have z1 := hwb.size
    have z2 := hw1.size
    have z3 := hw2'.size
    have hlt2 : w.heap.size + 2 <= wr.heap.size := by have := HZ2.out; omega
    have hbb2 := ((hbb.below hb).below hb1).below hb2
    obtain ⟨d0, d1, -⟩ := cells10 (show Blk w2 gd _ _ from hD.desk)
    have hbk := hD.book.1
    have hD2 := hD.base z2
    have hR3 := hR2.base z1
    have HD := Lib.hid hD2
    have HR := Lib.hid hR3
    have HBK := Lib.hid hbk
    have HBB := Lib.hid hbb2
    clear hD hR hR2 hD2 hR3 hbk hbb2
    go_wp2_with fail
    refine (btext_any w2 gb gt _ HBK.out rfl).mono ?_
    rintro e w3 ⟨rfl, rfl⟩
    go_wp2_with fail
    have hB3 := Blk.new w2 30 #[.pointer (some ⟨gd, 0, none⟩), .pointer (some ⟨gd', 0, none⟩)]
    have hb3 : Below w2.heap.size w2 (w2.alloc (.cells #[.pointer (some ⟨gd, 0, none⟩), .pointer (some ⟨gd', 0, none⟩)] 30)) := balloc (Below.refl _ _)
    obtain ⟨w3, hw3⟩ : ∃ x, w2.alloc (.cells #[.pointer (some ⟨gd, 0, none⟩), .pointer (some ⟨gd', 0, none⟩)] 30) = x := ⟨_, rfl⟩
    rw [hw3] at hB3 hb3
    rw [hw3]
    clear hw3 d0 d1
    have hN : BothNew w.heap.size s.E s.lim s.nat s.dep s.l w3 w2.heap.size gd gb gt m gk mk gd' gb' gt' gk' ld := ⟨hB3, HD.out.below hb3, HR.out.below hb3⟩
    have hbb3 := HBB.out.below hb3
    have htx := fun (w' : World) (hb : Below w3.heap.size w3 w') => btext_new w.heap.size s.E s.lim s.nat s.dep s.l w' w2.heap.size gd gb gt m gk mk gd' gb' gt' gk' ld (hN.below hb)
    have hcb := fun (w' : World) (hb : Below w3.heap.size w3 w') => cells2 (hB3.below hb)
    have HTX := Lib.hid htx
    have HCB := Lib.hid hcb
    have HB3 := Lib.hid hB3
    have HN := Lib.hid hN
    have HBB3 := Lib.hid hbb3
    have hne : w.heap.size + 1 ≠ w2.heap.size := by have := hb1.size; have := hb2.size; omega
    have hw3' := bseq hw2' hb3
    clear htx hcb hN hbb3 hB3
    refine wp_region_lin (fun w' => w'.cell? ⟨w2.heap.size, 0, none⟩ = some (.pointer (some ⟨gd, 0, none⟩)) /\ w'.cell? ⟨w2.heap.size, 1, none⟩ = some (.pointer (some ⟨gd', 0, none⟩))) (fun w' => Below w3.heap.size w3 w') (fun k => k == 1 || k == 2) (fun _ => false) (fun _ => false) (by kernel_rfl) (by kernel_rfl) (Below.drew (Below.refl _ _)) (fun _ h => HCB.out _ h) ?_
    repeat ((first
     | (refine wpL_read (v := ?_) (by rfl) (by rfl) (fun w6 hSw => ?_) ?_; rotate_left; (· (obtain ⟨y0, y1⟩ := hSw; go_simp; try with_reducible rfl)))
     | (refine wpL_free (v := ?_) (by rfl) (fun w6 => ?_) ?_; rotate_left; (· (go_simp; try with_reducible rfl)))
     | refine wpL_not (by rfl) ?_); (try simp only [Act.put, pA, pB, pC]))
    refine wpL_call1 (f := ?_) (args := ?_) (v := .bool true) (by rfl) (by rfl) (fun w6 hSw => ?_) (fun _ h => HCB.out _ h) (fun w6 hSw => ?_) ?_
    rotate_left 2
    ·(skip; go_simp; first | done | (constructor <;> with_reducible rfl) | with_reducible rfl)
    ·(refine (HTX.out _ hSw).mono ?_; rintro e w5 ⟨rfl, hb5⟩; exact ⟨rfl, bseq hSw hb5⟩)
    (try simp only [Act.put, pA, pB, pC])
    repeat ((first
     | (refine wpL_read (v := ?_) (by rfl) (by rfl) (fun w6 hSw => ?_) ?_; rotate_left; (· (obtain ⟨y0, y1⟩ := hSw; go_simp; try with_reducible rfl)))
     | (refine wpL_free (v := ?_) (by rfl) (fun w6 => ?_) ?_; rotate_left; (· (go_simp; try with_reducible rfl)))
     | refine wpL_not (by rfl) ?_); (try simp only [Act.put, pA, pB, pC]))
    refine wpL_heavy (fun _ w'' => ∃ w', Below w3.heap.size w3 w' /\ w'' = (w'.setCell ⟨w.heap.size + 1, 0, none⟩ (.pointer (some ⟨gd, 0, none⟩))).setCell ⟨w.heap.size + 1, 1, none⟩ (.pointer (some ⟨gd', 0, none⟩))) (by rfl) (by rfl) (fun w6 hSw => ?_) (.inr (fun v6 w6 hT6 => ?_)) (fun v6 hv6 => ?_)
    ·(have hbx := HBB3.out.below hSw; have e0 := hbx.cell 0; have e1 := hbx.cell 1; have e2 := hbx.frozen 0; have e3 := hbx.frozen 1; simp at e0 e1; go_simp; exact ⟨w6, hSw, rfl⟩)
    ·(obtain ⟨w', hb', rfl⟩ := hT6; exact cells2 ((Blk.far (HB3.out.below hb') hne.symm _).far hne.symm _))
    skip
    (try simp only [Act.put, pA, pB, pC])
    repeat ((first
     | (refine wpL_read (v := ?_) (by rfl) (by rfl) (fun w6 hSw => ?_) ?_; rotate_left; (· (skip; go_simp; try with_reducible rfl)))
     | (refine wpL_free (v := ?_) (by rfl) (fun w6 => ?_) ?_; rotate_left; (· (go_simp; try with_reducible rfl)))
     | refine wpL_not (by rfl) ?_); (try simp only [Act.put, pA, pB, pC]))
    refine wpL_nil ?_
    rintro w4 ⟨w', hb', rfl⟩
    have hn := HN.out.below hb'
    have hbx := HBB3.out.below hb'
    have hbf := (hbx.set_ 0 (.pointer (some ⟨gd, 0, none⟩))).set_ 1 (.pointer (some ⟨gd', 0, none⟩))
    have hfr : Fr (· = w.heap.size + 1) w' ((w'.setCell ⟨w.heap.size + 1, 0, none⟩ (.pointer (some ⟨gd, 0, none⟩))).setCell ⟨w.heap.size + 1, 1, none⟩ (.pointer (some ⟨gd', 0, none⟩))) := ((Fr.refl _ _).set1 0 _).set1 1 _
    have hDf := hn.D.other hfr hbx (by decide) (by decide) (by decide) (by decide) (by decide) rfl
    have hRf := hn.R.other hfr hbx (by decide) (by decide) (by decide) (by decide) (by decide)
    have hwf : Below w.heap.size w ((w'.setCell ⟨w.heap.size + 1, 0, none⟩ (.pointer (some ⟨gd, 0, none⟩))).setCell ⟨w.heap.size + 1, 1, none⟩ (.pointer (some ⟨gd', 0, none⟩))) := ((bseq hw3' hb').setCell (by simp) _).setCell (by simp) _
    have k0 := hbf.cell 0
    have k1 := hbf.cell 1
    simp at k0 k1
    have HDF := Lib.hid hDf
    have HRF := Lib.hid hRf
    have HWF := Lib.hid hwf
    clear hDf hRf hwf hfr hbf hbx hn
    go_wp2_with fail
    refine bodyPost_ret (v := .tuple #[.agg #[.pointer (some ⟨gd, 0, none⟩), .pointer (some ⟨gd', 0, none⟩)], .bool true]) (by simp [results, Tryz.results7, go_sem, k0, k1]) rfl ⟨gd, gb, gt, m, gk, mk, gd', gb', gt', gk', ld, rfl, ⟨HDF.out, HRF.out⟩, HWF.out⟩
instance (T : TypeId) : Decidable (BookTy T) := by unfold BookTy; exact inferInstance
def DFr (B : Nat) (X : Nat -> Prop) (w w' : World) : Prop := Fr (fun b => (B <= b /\ ∃ T cs, Blk w b T cs /\ BookTy T) \/ X b) w w'
theorem DFr.of_below {B : Nat} {X : Nat -> Prop} {w w' : World} (h : Below w.heap.size w w') : DFr B X w w' := Fr.of_below h
theorem DFr.of_bk {B : Nat} {X : Nat -> Prop} {w w' : World} (h : BkFr B w w') : DFr B X w w' := h.more (fun _ _ hs => .inl hs)
theorem DFr.of_x {B : Nat} {X : Nat -> Prop} {w w' : World} (h : Fr X w w') : DFr B X w w' := h.more (fun _ _ hs => .inr hs)
theorem DFr.wide {B B' : Nat} {X X' : Nat -> Prop} {w w' : World} (h : DFr B X w w') (hB : B' <= B) (hX : ∀ b, b < w.heap.size -> X b -> X' b) : DFr B' X' w w' := h.more (fun b hb hs => by
 rcases hs with ⟨h1, h2⟩ | h1
 ·exact .inl ⟨Nat.le_trans hB h1, h2⟩
 ·exact .inr (hX b hb h1))
theorem DFr.trans {B : Nat} {X : Nat -> Prop} {w w' w'' : World} (h : DFr B X w w') (k : DFr B X w' w'') : DFr B X w w'' := by
 refine ⟨k.os.trans h.os, k.tape.trans h.tape, k.output.trans h.output, Nat.le_trans h.size k.size, fun i hi hn => ?_⟩
 have h1 := h.block i hi hn
 refine (k.block i (Nat.lt_of_lt_of_le hi h.size) (fun hs => ?_)).trans h1
 rcases hs with ⟨hB, T, cs, hb, hT⟩ | hs
 ·exact hn (.inl ⟨hB, T, cs, h1.symm.trans hb, hT⟩)
 ·exact hn (.inr hs)
theorem DFr.call' {B : Nat} {X X' : Nat -> Prop} {w w' w'' : World} (h : Below w.heap.size w w') (k : DFr B X' w' w'') (hX : ∀ b, b < w.heap.size -> X' b -> X b) : DFr B X w w'' :=
 ⟨k.os.trans h.os, k.tape.trans h.tape, k.output.trans h.output, Nat.le_trans h.size k.size, fun i hi hn => by
  have h1 := h.block i hi
  refine (k.block i (Nat.lt_of_lt_of_le hi h.size) (fun hs => ?_)).trans h1
  rcases hs with ⟨hB, T, cs, hb, hT⟩ | hs
  ·exact hn (.inl ⟨hB, T, cs, h1.symm.trans hb, hT⟩)
  ·exact hn (.inr (hX i hi hs))⟩
theorem DFr.blk {B : Nat} {X : Nat -> Prop} {w w' : World} {b : Nat} {T : TypeId} {cs : Array Value} (h : DFr B X w w') (hb : Blk w b T cs) (hT : ¬ BookTy T) (hX : ¬ X b) : Blk w' b T cs := hb.fr h (fun hs => by
 rcases hs with ⟨-, T', cs', hb', hT'⟩ | hs
 ·have : T = T' := by
   unfold Blk at hb hb'
   rw [hb] at hb'
   injection hb' with hb'
   injection hb' with _ hb'
  exact hT (this ▸ hT')
 ·exact hX hs)
theorem setCell_id {w : World} {b o : Nat} {T : TypeId} {cs : Array Value} {v : Value} (h : Blk w b T cs) (hv : cs[o]? = some v) : w.setCell ⟨b, o, none⟩ v = w := by
 have h' : w.heap[b]? = some (.cells cs T (0, 0)) := h
 rw [setCell_eq_setRow w b o cs T (0, 0) v h']
 have e : cs.setIfInBounds o v = cs := by
  apply Array.ext
  ·simp
  ·intro i h1 h2
   rw [Array.getElem_setIfInBounds]
   split
   ·rename_i hio
    subst hio
    rw [Array.getElem?_eq_getElem h2] at hv
    exact (Option.some.inj hv).symm
   ·rfl
 rw [e]
 have hlt : b < w.heap.size := (Array.getElem?_eq_some_iff.1 h').1
 have hw : w.heap[b] = .cells cs T (0, 0) := (Array.getElem?_eq_some_iff.1 h').2
 unfold World.setRow
 cases w with
 | mk heap tape drawn os output =>
  simp only [World.mk.injEq, and_true]
  apply Array.ext
  ·simp
  ·intro k h1 h2
   simp only [Array.getElem_modify]
   split
   ·rename_i hk
    subst hk
    dsimp only at hw
    rw [hw]
   ·rfl
def Alien (T : TypeId) : Prop := (T ≠ 139 /\ T ≠ 196 /\ T ≠ 5) /\ (T ≠ 101 /\ T ≠ 170 /\ T ≠ 103 /\ T ≠ 174) /\ T ≠ 87 /\ T ≠ 198 /\ T ≠ 96
instance (T : TypeId) : Decidable (Alien T) := by unfold Alien; exact inferInstance
theorem BkAt.alien2 {w w' : World} {N B gb g n m : Nat} {enc lim : Int} {add vu vr : Value} {st : BkS} {t : Tr} {a : Option Addr} {xs : List Value} {now : Option Addr} {S : Nat -> Prop} (h : BkAt w N B gb g enc lim n add st t a xs m vu vr now) (hf : Fr S w w')
  (hS : ∀ k, k < w.heap.size -> S k -> (∃ T cs, Blk w k T cs /\ Alien T) \/ (k = st.mb /\ ∃ es y, w.heap[k]? = some (.map es y))) : BkAt w' N B gb g enc lim n add st t a xs m vu vr now := by
 have hne : ∀ {T : TypeId} {cs : Array Value} {b : Nat}, Blk w b T cs -> ¬ Alien T -> ¬ S b := fun hb hn hs => by
  rcases hS _ hb.lt hs with ⟨T', cs', hb', hA⟩ | ⟨_, es, y, hb'⟩
  ·unfold Blk at hb hb'
   rw [hb] at hb'
   injection hb' with hb'
   injection hb' with _ hb'
   exact hn (hb' ▸ hA)
  ·unfold Blk at hb
   rw [hb] at hb'
   injection hb' with hb'
   cases hb'
 have hfar : ∀ M k, k < w.heap.size -> S k -> Far2 w M k := fun M k hk hs => by
  rcases hS k hk hs with ⟨T, cs, hb, hA⟩ | ⟨_, es, y, hb'⟩
  ·exact Far2.blk hb ⟨hA.1, hA.2.1⟩
  ·refine ⟨.inr ⟨_, hb', fun cs T f e => by cases e⟩, fun T cs hb => ?_⟩
   unfold Blk at hb
   rw [hb] at hb'
   injection hb' with hb'
   cases hb'
 have hK : ∀ M, GKeep M add add n n enc w w' := fun M => GKeep.far hf (hfar M)
 have hmap : ∀ {r : Nat}, MapE w st.mb r -> MapE w' st.mb r := fun {r} hr => hr.fr hf (fun hs => by
  rcases hS r hr.lt hs with ⟨T, cs, hb, hA⟩ | ⟨e, _⟩
  ·exact hr.ne_blk hb rfl
  ·exact hr.2.1 e)
 have hown : ∀ v' k' ys, w.ownsRow B 96 1 v' k' ys -> w'.ownsRow B 96 1 v' k' ys := fun v' k' ys ho => own_fr' ho hf (fun b cs hs hb => hne hb (fun hA => hA.2.2.2.2 rfl) hs)
 refine ⟨h.blk.fr hf (hne h.blk (fun hA => hA.2.2.1 rfl)), h.text.far hf (fun k hk hs => (hfar N k hk hs).1), h.ats, h.sz, h.lim0, hmap h.map, h.undo.keep (hK N) (Nat.le_refl _) (hown _), h.redo.keep (hK N) (Nat.le_refl _) (hown _), h.sep, ?_, Nat.le_trans h.nle hf.size, h.nums, h.low⟩
 have ho := h.open_
 cases hn : st.now with
 | none => rw [hn] at ho; exact ho
 | some o =>
  rw [hn] at ho
  obtain ⟨p, e, s, m2, vm, vs, h1, h2, h3, h4, h5, h6⟩ := ho
  exact ⟨p, e, s, m2, vm, vs, h1.fr hf (hne h1 (fun hA => hA.2.2.2.1 rfl)), hmap h2, h3.keep (hK N), own_fr' h4 hf (fun b cs hs hb => hne hb (fun hA => hA.2.1.2.2.1 rfl) hs), (h5.keep (hK w.heap.size).mvs).mono hf.size, h6⟩
theorem BkAt.alien {w w' : World} {N B gb g n m : Nat} {enc lim : Int} {add vu vr : Value} {st : BkS} {t : Tr} {a : Option Addr} {xs : List Value} {now : Option Addr} {S : Nat -> Prop} (h : BkAt w N B gb g enc lim n add st t a xs m vu vr now) (hf : Fr S w w')
  (hS : ∀ k, k < w.heap.size -> S k -> ∃ T cs, Blk w k T cs /\ Alien T) : BkAt w' N B gb g enc lim n add st t a xs m vu vr now := h.alien2 hf (fun k h1 h2 => .inl (hS k h1 h2))
structure DeskIs (w : World) (B gd gb g : Nat) (enc lim : Int) (n : Nat) (st : BkS) (dc : Array Value) : Prop where
 desk : Blk w gd 49 dc
 c0 : dc[0]? = some (.pointer (some ⟨gb, 0, none⟩))
 low : B <= gd
 book : ∃ N add t a xs m vu vr now n', n' <= n /\ BkAt w N B gb g enc lim n' add st t a xs m vu vr now
section
variable {w w' : World} {B gd gb g n : Nat} {enc lim : Int} {st : BkS} {dc : Array Value}
theorem DeskIs.below (h : DeskIs w B gd gb g enc lim n st dc) (hb : Below w.heap.size w w') : DeskIs w' B gd gb g enc lim n st dc := by
 obtain ⟨N, add, t, a, xs, m, vu, vr, now, n', hn, hk⟩ := h.book
 exact ⟨h.desk.below hb, h.c0, h.low, N, add, t, a, xs, m, vu, vr, now, n', hn, hk.below hb⟩
theorem DeskIs.blkB (h : DeskIs w B gd gb g enc lim n st dc) : ∃ cs, Blk w gb 87 cs /\ cs[0]? = some (.pointer (some ⟨g, 0, none⟩)) := by
 obtain ⟨N, add, t, a, xs, m, vu, vr, now, n', hn, hk⟩ := h.book
 exact ⟨_, hk.blk, rfl⟩
theorem DeskIs.enc4 (h : DeskIs w B gd gb g enc lim n st dc) : enc = 1 \/ enc = 2 \/ enc = 3 \/ enc = 4 := by
 obtain ⟨N, add, t, a, xs, m, vu, vr, now, n', hn, hk⟩ := h.book
 exact hk.text.enc4
theorem DeskIs.tags (h : DeskIs w B gd gb g enc lim n st dc) : TextTag w Any g enc st.ats := by
 obtain ⟨N, add, t, a, xs, m, vu, vr, now, n', hn, hk⟩ := h.book
 exact ⟨lim, t, a, add, hk.text.text, hk.ats⟩
theorem DeskIs.at_ (h : DeskIs w B gd gb g enc lim n st dc) : TextAt w Any g enc (sizedA enc st.ats) := by
 obtain ⟨N, add, t, a, xs, m, vu, vr, now, n', hn, hk⟩ := h.book
 refine ⟨lim, t, a, add, hk.text.text, ?_⟩
 rw [sizedA_of hk.text.enc4 hk.text.tree.pcs.ok, hk.ats]
theorem DeskIs.sz (h : DeskIs w B gd gb g enc lim n st dc) : szS (sizedA enc st.ats) <= 65536 /\ lim <= 65536 /\ st.last <= 1073741824 := by
 obtain ⟨N, add, t, a, xs, m, vu, vr, now, n', hn, hk⟩ := h.book
 have := hk.sz
 rw [sizedA_of hk.text.enc4 hk.text.tree.pcs.ok, hk.ats] at this
 exact ⟨this, hk.lim0, hk.nums.2.1⟩
theorem sizedA_len (enc : Int) (ats : List (Int × Int)) : (sizedA enc ats).length = ats.length := by simp [sizedA, withSz]
theorem sizedA_fst (enc : Int) (ats : List (Int × Int)) : (sizedA enc ats).map Prod.fst = ats.map Prod.fst := by
 unfold sizedA withSz
 rw [List.map_map]
 exact List.map_id' _
theorem szS_len {ds : List (Int × Int)} (h : PosD ds) : (ds.length : Int) <= szS ds := by
 induction ds with
 | nil => exact Int.le_refl _
 | cons p ps ih =>
  have h1 := ih (h.drop 1)
  have h2 := szS_app [p] ps
  have h3 := szS_mono h 0 1 (by omega)
  have h4 : 0 < p.2 := h p List.mem_cons_self
  have h5 : szS [p] = p.2 := by simp [szS]
  rw [List.length_cons]
  have h6 : szS (p :: ps) = szS [p] + szS ps := h2
  omega
theorem DeskIs.pos (h : DeskIs w B gd gb g enc lim n st dc) : PosD (sizedA enc st.ats) := h.at_.pos
theorem DeskIs.len (h : DeskIs w B gd gb g enc lim n st dc) : st.ats.length <= 65536 := by
 have h1 := szS_len h.pos
 have h2 := h.sz.1
 rw [sizedA_len] at h1
 omega
theorem DeskIs.set (h : DeskIs w B gd gb g enc lim n st dc) {i : Nat} (hi : i ≠ 0) (u : Value) : DeskIs (w.setCell ⟨gd, i, none⟩ u) B gd gb g enc lim n st (dc.setIfInBounds i u) := by
 obtain ⟨N, add, t, a, xs, m, vu, vr, now, n', hn, hk⟩ := h.book
 refine ⟨h.desk.set_ i u, by rw [Array.getElem?_setIfInBounds_ne hi]; exact h.c0, h.low, N, add, t, a, xs, m, vu, vr, now, n', hn, ?_⟩
 exact hk.alien (show Fr (· = gd) w _ from (Fr.refl _ _).set1 i u) (fun k _ hk => ⟨_, _, hk ▸ h.desk, by decide⟩)
theorem DeskIs.alien {S : Nat -> Prop} (h : DeskIs w B gd gb g enc lim n st dc) (hf : Fr S w w') (hS : ∀ k, k < w.heap.size -> S k -> k ≠ gd /\ ∃ T cs, Blk w k T cs /\ Alien T) : DeskIs w' B gd gb g enc lim n st dc := by
 obtain ⟨N, add, t, a, xs, m, vu, vr, now, n', hn, hk⟩ := h.book
 exact ⟨h.desk.fr hf (fun hs => (hS _ h.desk.lt hs).1 rfl), h.c0, h.low, N, add, t, a, xs, m, vu, vr, now, n', hn, hk.alien hf (fun k h1 h2 => (hS k h1 h2).2)⟩
theorem DeskIs.bk {st' : BkS} {n' : Nat} (h : DeskIs w B gd gb g enc lim n st dc) (hf : BkFr B w w') (hb : ∃ N add t a xs m vu vr now n1, n1 <= n' /\ BkAt w' N B gb g enc lim n1 add st' t a xs m vu vr now) : DeskIs w' B gd gb g enc lim n' st' dc :=
 ⟨hf.blk h.desk (by decide), h.c0, h.low, hb⟩
end
section
variable {B gd gb g n : Nat} {enc lim : Int} {st : BkS} {dc : Array Value} {w : World}
theorem begin_desk (h : DeskIs w B gd gb g enc lim n st dc) (hn : st.now = none) {x : Int} (hx : 0 <= x /\ x <= (st.ats.length : Int)) :
  Calls Tryz.prog 76 #[.pointer (some ⟨gb, 0, none⟩), .int .i64 x] w fun e w' => e = .returned (.int .i64 0) /\ DeskIs w' B gd gb g enc lim n { st with now := some ⟨st.ats, x, [], st.state, false⟩ } dc /\ BkFr B w w' := by
 obtain ⟨N, add, t, a, xs, m, vu, vr, now, n', hn', hk⟩ := h.book
 refine (bbegin_any N B gb g enc lim n' add st t a xs m vu vr now x w hk hn hx).mono ?_
 rintro e w' ⟨rfl, now', hk', hf⟩
 have hb : BkFr B w w' := BkFr.book hk.blk hk.low.1 hf
 exact ⟨rfl, h.bk hb ⟨_, add, t, a, xs, m, vu, vr, now', n', hn', hk'⟩, hb⟩
def endS (st : BkS) (o : OpS) (x : Int) : BkS :=
 if o.changed = true then { st with now := none, undo := st.undo ++ [⟨o.before, st.ats, o.bgn, x, o.moves, o.old, st.last + 1⟩], redo := [], state := st.last + 1, last := st.last + 1 } else { st with now := none }
end
def ActPost (B gd gb g : Nat) (enc lim : Int) (st : BkS) (dc : Array Value) (X : Nat -> Prop) (Act : Int -> List (Int × Int) -> OpS -> Nat -> Prop) (w1 : World) (e : Ending) (w2 : World) : Prop :=
 ∃ at' ats' o' n', Act at' ats' o' n' /\ e = .returned (.int .i64 at') /\ DeskIs w2 B gd gb g enc lim n' { st with ats := ats', now := some o' } dc /\ DFr B X w1 w2
def WorkPost (B gd gb g : Nat) (enc lim : Int) (st : BkS) (dc : Array Value) (X : Nat -> Prop) (Act : Int -> List (Int × Int) -> OpS -> Nat -> Prop) (w : World) (e : Ending) (w' : World) : Prop :=
 e = .returned (.int .i64 0) /\ ∃ at' ats' o' n', Act at' ats' o' n' /\ DeskIs w' B gd gb g enc lim n' (endS { st with ats := ats', now := some o' } o' at') (dc.setIfInBounds 2 (.int .i64 at')) /\ DFr B (fun b => X b \/ b = gd) w w'
theorem isOpen_desk {B gd gb g n : Nat} {enc lim : Int} {st : BkS} {dc : Array Value} {w : World} (h : DeskIs w B gd gb g enc lim n st dc) : Calls Tryz.prog 73 #[.pointer (some ⟨gb, 0, none⟩)] w fun e w' => e = .returned (.bool st.now.isSome) /\ w = w' := by
 obtain ⟨N, add, t, a, xs, m, vu, vr, now, n', hn', hk⟩ := h.book
 have e1 : st.now.isSome = now.isSome := by
  have := hk.open_
  cases hn : st.now with
  | none => rw [hn] at this; rw [this]; rfl
  | some o => rw [hn] at this; obtain ⟨p, e, _⟩ := this; rw [e]; rfl
 rw [e1]
 exact isOpen_any gb _ now w hk.blk (by simp)
def TypedR (xs : List Int) (w0 : World) (k : Nat) (q12 q14 q56 : Value) (wr : World) : Prop :=
 ∃ (i : Nat) (a : Int), q56 = .int .i64 (i : Int) /\ q12 = .int .i64 a /\ i <= xs.length /\ xs.length - i <= k /\ Hid (wr.ownsRow w0.heap.size 3 1 q14 i ((xs.take i).map (Value.int .i64))) /\ Below w0.heap.size w0 wr
theorem typed_plain (D : Nat -> Prop) (g : Nat) (enc : Int) (ds : List (Int × Int)) (at_ b : Int) (A : Option Addr) (n c : Nat) (xs : List Int) (w : World) (h : TextAt w D g enc ds) (hat : 0 <= at_ /\ at_ <= (ds.length : Int)) (hb : b = 1 \/ b = 2 \/ b = 3) (hx : Ints w Any A n xs) (hn : n <= 1073741824) (hno : ∀ x ∈ xs, x ≠ 10) :
    Calls Tryz.prog 66 #[.pointer (some ⟨g, 0, none⟩), .int .i64 at_, .slice A n c, .int .i64 b] w fun e w' => ∃ v, e = .returned (.tuple #[v, .int .i64 0]) /\ w'.ownsRow w.heap.size 3 1 v n (xs.map (Value.int .i64)) /\ Below w.heap.size w w' := by
  have hlen := h.len
  have hxl := hx.len
  have hle := fun (w' : World) (hb : Below w.heap.size w w') => len_any D g enc ds w' (h.below hb)
  have hat2 := fun (w' : World) (hb : Below w.heap.size w w') => tatoms_any D g enc ds (at_ - 1) (at_ + 1) w' (h.below hb) (by omega) (by omega)
  have hsl : 0 < at_ -> 0 < (seg (at_ - 1) (at_ + 1) (ds.map Prod.fst)).length := fun h0 => by
    have e : (((at_ + 1) - (at_ - 1)).toNat) = 2 := by omega
    unfold seg
    rw [List.length_take, List.length_drop, List.length_map]
    omega
  obtain ⟨S, hS⟩ : ∃ S, seg (at_ - 1) (at_ + 1) (ds.map Prod.fst) = S := ⟨_, rfl⟩
  have hS2 : S.length <= 1073741824 := by rw [<- hS]; unfold seg; rw [List.length_take, List.length_drop, List.length_map]; omega
  rw [hS] at hat2 hsl
  obtain ⟨m, hm⟩ : ∃ m, ds.length = m := ⟨_, rfl⟩
  rw [hm] at hle hat hlen
  have q1 : (at_ < 0) = False := by simp; omega
  have q2 : ((m : Int) < at_) = False := by simp; omega
  have w1 : IntKind.i64.wrap (at_ - 1) = at_ - 1 := IntWalk.i64_in _ (by omega)
  have w2 : IntKind.i64.wrap (at_ + 1) = at_ + 1 := IntWalk.i64_in _ (by omega)
  obtain ⟨i0, hi0, hz0, hz1, hz2⟩ := info_parts int_info
  have HLE := Lib.hid hle
  have HAT := Lib.hid hat2
  have HSL := Lib.hid hsl
  have HNO := Lib.hid hno
  have HX := Lib.hid hx
  have HXL := Lib.hid hxl
  clear hle hat2 hsl hS hm h hno hx hxl
  rcases hb with rfl | rfl | rfl
  all_goals
    go_enter Tryz.func66, Tryz.ntmps66
    go_wp2_with fail
    refine (HLE.out _ ?_).mono ?_
    · first
        | exact balloc (Below.refl _ _)
        | exact balloc (balloc (Below.refl _ _))
    rintro e wa ⟨rfl, hba⟩
    have hb0 : Below w.heap.size w wa := by
      first
        | exact bseq (balloc (Below.refl _ _)) hba
        | exact bseq (balloc (balloc (Below.refl _ _))) hba
    clear hba
    go_wp2_with fail
    refine (HAT.out _ hb0).mono ?_
    rintro e wb ⟨v, rfl, hown, hbb⟩
    obtain ⟨A1, c1, rfl, hc1⟩ := own_slice hown
    have hI : Ints wb Any A1 S.length S := Reads.more (Reads.of_own hown) (fun _ _ _ => trivial) (by decide)
    have hbw := bseq hb0 hbb
    clear hown hbb hb0 HLE HAT
    obtain ⟨N, hN⟩ : ∃ N, S.length = N := ⟨_, rfl⟩
    have hsl := HSL.out
    rw [hN] at hI hc1 hS2 hsl ⊢
    have HI := Lib.hid hI
    clear hN HSL hI
    have HBW := Lib.hid hbw
    clear hbw
    go_upto_if 42 with fail
    go_cut [11, 12] (fun s11 s12 wx => ∃ (A2 : Option Addr) (N2 c2 : Nat) (l2 : List Int) (a : Int), s11 = .slice A2 N2 c2 /\ s12 = .int .i64 a /\ Hid (Ints wx Any A2 N2 l2) /\ N2 <= 1073741824 /\ wx = wb)
    case first =>
      by_cases h0 : 0 < at_
      · have hs0 := hsl h0
        obtain ⟨bA, oA, rfl, _, cA⟩ := ints_form HI.out hs0
        have c0 := cA 0 hs0
        rw [Nat.add_zero] at c0
        obtain ⟨a, ha⟩ : ∃ a, S.getD 0 0 = a := ⟨_, rfl⟩
        rw [ha] at c0
        have p1 : ((1 : Int) <= (N : Int)) = True := by simp; omega
        have p2 : 1 <= N := hs0
        have p3 : (0 : Int) < (N : Int) := by omega
        have p4 : ((N : Int) <= (c1 : Int)) = True := by simp; omega
        clear ha
        go_wp2_with fail
        all_goals
          go_meet
          refine ⟨_, N - 1, _, S.drop 1, a, rfl, rfl, Lib.hid ⟨by rw [List.length_map, List.length_drop, HI.out.len, Nat.mul_one], fun h1 => ?_⟩, by omega, rfl⟩
          first
            | (exfalso; omega)
            | (refine ⟨_, rfl, trivial, fun j u hu => ?_⟩
               rw [List.getElem?_map, List.getElem?_drop] at hu
               have hj : 1 + j < N := by
                 rcases Nat.lt_or_ge (1 + j) N with h2 | h2
                 · exact h2
                 · rw [List.getElem?_eq_none (by rw [HI.out.len]; omega)] at hu
                   cases hu
               have := cA (1 + j) hj
               rw [add_cell, show oA + 1 + j = oA + (1 + j) by omega, this]
               rw [List.getElem?_eq_getElem (by rw [HI.out.len]; omega)] at hu
               rw [List.getD_eq_getElem?_getD, List.getElem?_eq_getElem (by rw [HI.out.len]; omega)]
               simpa using hu)
      · go_wp2_with fail
        go_meet
        exact ⟨A1, N, c1, S, 0, rfl, rfl, HI, hS2, rfl⟩
    case rest =>
      obtain ⟨A2, N2, c2, l2, a, rfl, rfl, hI2, hN2, rfl⟩ := hcut
      clear HI hsl hS2 hc1
      go_upto_if 50 with fail
      go_cut [13] (fun s wx => ∃ z : Int, s = .int .i64 z /\ wx = wc)
      case first =>
        by_cases h0 : 0 < N2
        · obtain ⟨bA, oA, rfl, _, cA⟩ := ints_form hI2.out h0
          have c0 := cA 0 h0
          rw [Nat.add_zero] at c0
          obtain ⟨z, hz⟩ : ∃ z, l2.getD 0 0 = z := ⟨_, rfl⟩
          rw [hz] at c0
          have p3 : (0 : Int) < (N2 : Int) := by omega
          clear hz
          go_wp2_with fail
          go_meet
          exact ⟨_, rfl, rfl⟩
        · have p3 : ((0 : Int) < (N2 : Int)) = False := by simp; omega
          go_wp2_with fail
          go_meet
          exact ⟨0, rfl, rfl⟩
      case rest =>
        obtain ⟨z, rfl, rfl⟩ := hcut
        clear hI2 hN2
        go_wp2_with fail
        go_loopg [12, 14, 56] n (fun k q12 q14 q56 wr => TypedR xs w k q12 q14 q56 wr)
        case atStart => exact ⟨0, a, rfl, rfl, Nat.zero_le _, by rw [HXL.out]; omega, Lib.hid (World.ownsRow_nil _ _ _ _), HBW.out⟩
        case round =>
          obtain ⟨i, a', rfl, rfl, hi, hk, hown, hb⟩ := hrel
          have hxl := HXL.out
          rw [hxl] at hi hk
          by_cases hgo : i < n
          · obtain ⟨ad, rfl, _, cx⟩ := Ints.at_ (Reads.below HX.out hb) hgo
            have hx10 : xs.getD i 0 ≠ 10 := HNO.out _ (by rw [List.getD_eq_getElem?_getD, List.getElem?_eq_getElem (by omega)]; exact List.getElem_mem _)
            obtain ⟨x, hx⟩ : ∃ x, xs.getD i 0 = x := ⟨_, rfl⟩
            rw [hx] at cx hx10
            have q3 : ((i : Int) < (n : Int)) = True := by simp; omega
            have q4 : (x != 10) = true := by rw [bne_iff_ne]; exact hx10
            have HXI := Lib.hid hx
            have HXL2 := Lib.hid hxl
            have hs0 := hb.size
            clear hx hx10 hxl
            go_wp2_with (at_builtin; refine wpList_append_own_at _ rfl (.tmp 67) (.tmp 69) 34 rfl w.heap.size 3 i0 (.int .i64 0) 1 8 Tryz.underlying34 hi0 hz0 hz1 hz2 rfl (by decide) u14 i _ rfl (hown.out.alloc _) ⟨wr.heap.size, 0, none⟩ 1 1 [.int .i64 x] rfl rfl (cell_one_new _ _ _) (by simp [Value.oneCell']) (by unfold maxLen; omega) (by omega) (by simp; omega) ?_)
            intro v1 w4 hown1 hgr _ _
            have hb1 : Below w.heap.size w w4 := below_grown2 (balloc hb) hgr (fun k hk => own_ge hown.out hk)
            obtain ⟨A4, c4, rfl, hc4⟩ := own_slice hown1
            have hI0 := Reads.of_own hown1
            have e0 : (xs.map (Value.int .i64)).take i ++ [.int .i64 x] = (xs.take i ++ [x]).map (Value.int .i64) := by simp [List.map_take]
            rw [e0] at hI0 hown1
            have hI4 := Ints.at_ (show Ints w4 _ A4 (i + 1) (xs.take i ++ [x]) from hI0) (k := i) (by omega)
            obtain ⟨ad4, rfl, _, cx4⟩ := hI4
            have hg4 : ((xs.take i) ++ [x]).getD i 0 = x := by
              rw [List.getD_eq_getElem?_getD, List.getElem?_append_right (by rw [List.length_take]; omega), List.length_take, Nat.min_eq_left (by rw [HXL2.out]; omega), Nat.sub_self]
              rfl
            rw [hg4] at cx4
            have wi : IntKind.i64.wrap (((i + 1 : Nat) : Int) - 1) = (i : Int) := by rw [IntWalk.i64_in _ (by omega)]; omega
            have p1 : (i : Int) < ((i + 1 : Nat) : Int) := by omega
            have p2 : (0 : Int) <= (i : Int) := by omega
            have HO := Lib.hid hown1
            clear hown1 hgr cx hg4 hown hi0 hz0 hz1 hz2 q4 hI0 e0
            go_wp2_with fail
            go_roundg (n - (i + 1))
            case measure => omega
            case rel =>
              refine ⟨i + 1, x, by simp, rfl, by rw [HXL2.out]; omega, by rw [HXL2.out]; omega, Lib.hid ?_, hb1⟩
              rw [List.take_succ_eq_append_getElem (by rw [HXL2.out]; omega)]
              have e1 : xs[i]'(by rw [HXL2.out]; omega) = x := by
                have := HXI.out
                rw [List.getD_eq_getElem?_getD, List.getElem?_eq_getElem (by rw [HXL2.out]; omega)] at this
                simpa using this
              rw [e1]
              exact HO.out
          · have q3 : ((i : Int) < (n : Int)) = False := by simp; omega
            have hin : i = n := by omega
            subst hin
            have ho := hown.out
            rw [List.take_of_length_le (by omega)] at ho
            have HO := Lib.hid ho
            clear ho hown
            go_wp2_with fail
            refine bodyPost_ret (v := .tuple #[u14, .int .i64 0]) (by simp [results, Tryz.results66, go_sem]) rfl ?_
            exact ⟨u14, rfl, HO.out, hb⟩
end Go.Proofs.YtkoakanpaehkmaaGreatDoor
