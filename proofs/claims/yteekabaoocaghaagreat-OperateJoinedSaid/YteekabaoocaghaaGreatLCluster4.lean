/-
  The walks of package cluster, fourth part: safe, Breaks, Next.
-/
import Derived.Test.YteekabaoocaghaaGreatLCluster3
set_option linter.unusedSimpArgs false
set_option linter.unusedVariables false
namespace Go.Proofs.YteekabaoocaghaaGreat
open Go.RowKit

/-- do two neighbours part by themselves? -/
noncomputable def sureF (a b : Int) : Bool := (apartB (classF a) || apartB (classF b)) && !(classF a == 1 && classF b == 2)
noncomputable def safeG (l : List Int) : Nat → Nat
  | 0 => 0
  | k + 1 => if sureF (l.getD k 0) (l.getD (k + 1) 0) = true then k + 1 else safeG l k
noncomputable def safeF (l : List Int) (p : Nat) : Nat := safeG l (min p l.length - 1)
def SafR (l : List Int) (p n : Nat) (w0 : World) (k : Nat) (q5 : Value) (wr : World) : Prop :=
  ∃ q : Int, safeG l q.toNat = safeF l p ∧ -1 ≤ q ∧ q < n ∧ q < k ∧ Below w0.heap.size w0 wr ∧ q5 = .int .i64 q
set_option maxRecDepth 100000 in
set_option maxHeartbeats 2000000 in
theorem safe_any (D : Nat → Prop) (A : Option Addr) (n c : Nat) (l : List Int) (p : Nat) (w : World) (hl : Ints w D A n l) (hn : n ≤ 2147483648) (hp : p ≤ 2147483648) :
    Calls Tryz.prog 114 #[.slice A n c, .int .i64 (p : Int)] w fun e w' => e = .returned (.int .i64 (safeF l p : Nat)) ∧ Below w.heap.size w w' := by
  have hle1 : l.length ≤ n := Nat.le_of_eq hl.len
  have hle2 : n ≤ l.length := Nat.le_of_eq hl.len.symm
  go_enter Tryz.func114, Tryz.ntmps114
  go_wp2_with fail
  all_goals
    go_loopg [5] (min p n) (fun k q wr => SafR l p n w k q wr)
    case atStart =>
      refine ⟨_, ?_, ?_, ?_, ?_, Below.refl _ _, rfl⟩
      · unfold safeF; congr 1; omega
      · omega
      · omega
      · omega
    case round =>
      obtain ⟨q, hg, hq0, hqn, hk, hb, rfl⟩ := hrel
      have HG := Lib.hid hg
      clear hg
      have hl1 := Reads.below hl hb
      by_cases hpos : 0 < q
      · obtain ⟨k, rfl⟩ : ∃ k : Nat, q = (k : Int) + 1 := ⟨(q - 1).toNat, by omega⟩
        obtain ⟨ad, rfl, hD, hc⟩ := Ints.at_ hl1 (show k < n by omega)
        obtain ⟨ad', hade, _, hc2⟩ := Ints.at_ hl1 (show k + 1 < n by omega)
        injection hade with hade
        subst hade
        rw [add_pos ad (k + 1) (by omega)] at hc2
        obtain ⟨a1, ha1⟩ : ∃ a, l.getD k 0 = a := ⟨_, rfl⟩
        obtain ⟨a2, ha2⟩ : ∃ a, l.getD (k + 1) 0 = a := ⟨_, rfl⟩
        rw [ha1] at hc
        rw [ha2] at hc2
        have hgs : safeG l ((k : Int) + 1).toNat = if sureF a1 a2 = true then k + 1 else safeG l k := by
          rw [show ((k : Int) + 1).toNat = k + 1 by omega, safeG, ha1, ha2]
        have HS := Lib.hid hgs
        clear ha1 ha2 hgs
        go_upto_region 4 with fail
        have x0 : IntKind.i64.wrap (k : Int) = (k : Int) := IntWalk.i64_in _ (by omega)
        have x1 : (0 : Int) ≤ (k : Int) + 1 := by omega
        have x2 : (k : Int) + 1 < (n : Int) := by omega
        have x3 : ((k : Int) + 1).toNat = k + 1 := by omega
        have x4 : (k : Int) < (n : Int) := by omega
        have x5 : k < n := by omega
        go_cut [6, 7] (fun s6 s7 wx => s6 = .int .i64 (classF a1) ∧ s7 = .int .i64 (classF a2) ∧ Below wr.heap.size wr wx)
        case first =>
          go_region_held3 (fun w' => w'.cell? (ad.add k) = some (.int .i64 a1) ∧ w'.cell? ⟨ad.block, ad.off + (k + 1), none⟩ = some (.int .i64 a2)) (first | assumption | exact ⟨hc, hc2⟩ | exact keep2 (by assumption) (by assumption)) (first | (go_at_call 131; refine (class_any _ _).mono ?_; rintro e w1 ⟨rfl, hb1⟩))
          all_goals
            go_wp2_with fail
            go_meet
            exact ⟨rfl, rfl, bseq (bdrew (by assumption)) (by assumption)⟩
        case rest =>
          obtain ⟨rfl, rfl, hbx⟩ := hcut
          clear x0 x1 x2 x3 x4 x5 hc hc2
          cases h1 : apartB (classF a1) <;> cases h2 : apartB (classF a2) <;> cases h3 : (classF a1 == 1) <;> cases h4 : (classF a2 == 2)
          all_goals
            go_wp2_with (go_at_call 132; refine (apart_any _ _).mono ?_; rintro e w1 ⟨rfl, rfl⟩)
            first
              | (go_ret
                 refine ⟨ret_i ?_, bseq hb hbx⟩
                 rw [← HG.out, HS.out]
                 simp [sureF, h1, h2, h3, h4]; done)
              | (go_roundg (k + 1)
                 case measure => omega
                 case rel =>
                   refine ⟨k, ?_, by omega, by omega, by omega, bseq hb hbx, by go_num⟩
                   rw [← HG.out, HS.out]
                   simp [sureF, h1, h2, h3, h4])
      · have hsafe : safeF l p = 0 := by rw [← HG.out, show q.toNat = 0 by omega]; rfl
        have HS := Lib.hid hsafe
        clear hsafe
        go_wp2_with fail
        go_ret
        exact ⟨ret_i (by rw [HS.out]; rfl), hb⟩

/-! ### a captured variable that holds a slice of integers of the call's own -/
set_option maxRecDepth 100000 in
set_option maxHeartbeats 1000000 in
theorem breaks1_any (W : World) (g k : Nat) (xs : List Int) (w : World) (h : OutAt w W.heap.size g xs) (hg : W.heap.size ≤ g) (hW : W.heap.size ≤ w.heap.size) (hn : xs.length ≤ 2147483648) :
    Calls Tryz.prog 144 #[.int .i64 (k : Int), .pointer (some ⟨g, 0, none⟩)] w fun e w' =>
      e = .returned (.bool true) ∧ OutAt w' W.heap.size g (xs ++ [(k : Int)]) ∧ Fr (fun b => W.heap.size ≤ b) w w' := by
  obtain ⟨v, hb, ho⟩ := h
  obtain ⟨i0, hi, hz0, hz1, hz2⟩ := info_parts int_info
  have c0 := hb.cell 0
  have f0 := hb.frozen 0
  simp at c0
  have hglt := hb.lt
  go_enter Tryz.func144, Tryz.ntmps144
  go_wp2_with (at_builtin; refine wpList_append_own _ rfl (.tmp 4) (.tmp 6) 35 rfl W.heap.size 3 i0 (.int .i64 0) 1 8 Tryz.underlying35 hi hz0 hz1 hz2 rfl (by decide) v xs.length _ rfl (ho.alloc _) ⟨w.heap.size, 0, none⟩ 1 1 [.int .i64 (k : Int)] rfl rfl ?c1 ?c2 ?c3 ?c4 ?c5 ?_)
  case c1 => exact cell_one_new _ _ _
  case c2 => simp [Value.oneCell']
  case c3 => unfold maxLen; omega
  case c4 => omega
  case c5 => simp; omega
  intro v1 w1 hown1 hgr _
  have hb1 : Blk w1 g 35 #[v] := (hb.alloc _).grown hgr (fun e => own_blk_ne ho hb (by decide) e.symm)
  have hfr : Fr (fun b => W.heap.size ≤ b) w w1 := ((Fr.refl _ w).alloc _).grown hgr (fun r hr _ => own_ge ho hr)
  have c1 := hb1.cell 0
  have f1 := hb1.frozen 0
  simp at c1
  clear c0 f0
  obtain ⟨r, cap, rfl, _, hrl⟩ := hown1.form (by omega)
  go_wp2_with fail
  go_ret
  refine ⟨rfl, ⟨_, hb1.set_ 0 _, ?_⟩, hfr.setCell (.inl hg) _⟩
  rw [List.length_append, List.map_append]
  exact ownsRow_setCell_other hown1 (own_blk_ne hown1 hb1 (by decide)) _
theorem foldU_out (r : List Nat) : ∀ s : List Int, foldU (fun s (k : Nat) => (true, s ++ [(k : Int)])) s r = s ++ r.map (fun k : Nat => (k : Int)) := by
  induction r with
  | nil => intro s; simp [foldU]
  | cons k r ih => intro s; simp [foldU, ih]
/-- all boundaries of a list of atoms -/
noncomputable def allB (l : List Int) : List Int := 0 :: (bnds l 0).map (fun k : Nat => (k : Int))
set_option maxRecDepth 100000 in
set_option maxHeartbeats 1000000 in
theorem breaks_any (D : Nat → Prop) (A : Option Addr) (n c : Nat) (l : List Int) (w : World) (hl : Ints w D A n l) (hn : n ≤ 2147483647) :
    Calls Tryz.prog 130 #[.slice A n c] w fun e w' => ∃ v, e = .returned v ∧ w'.ownsRow w.heap.size 3 1 v (allB l).length ((allB l).map (Value.int .i64)) ∧ Below w.heap.size w w' := by
  go_enter Tryz.func130, Tryz.ntmps130
  go_wp2_with fail
  have hB0 : OutAt ((w.alloc (.cells #[.int .i64 0] 3)).alloc (.cells #[.slice (some ⟨w.heap.size, 0, none⟩) 1 1] 35)) w.heap.size (w.heap.size + 1) [0] := by
    refine ⟨.slice (some ⟨w.heap.size, 0, none⟩) 1 1, ?_, rfl, .inr ⟨w.heap.size, 1, #[.int .i64 0], rfl, Nat.le_refl _, ?_, Nat.le_refl _, by unfold maxLen; omega, rfl, rfl⟩⟩
    · have := Blk.new (w.alloc (.cells #[.int .i64 0] 3)) 35 #[.slice (some ⟨w.heap.size, 0, none⟩) 1 1]
      simpa using this
    · exact (Blk.new w 3 #[.int .i64 0]).alloc _
  have hW : Below w.heap.size w ((w.alloc (.cells #[.int .i64 0] 3)).alloc (.cells #[.slice (some ⟨w.heap.size, 0, none⟩) 1 1] 35)) := ((Below.refl _ w).alloc (Nat.le_refl _) _).alloc (by simp) _
  have hl1 : Ints ((w.alloc (.cells #[.int .i64 0] 3)).alloc (.cells #[.slice (some ⟨w.heap.size, 0, none⟩) 1 1] 35)) (fun b => b < w.heap.size) A n l :=
    Reads.below (Reads.more hl (fun b _ h => h) (by omega)) hW
  have hy : Yields 144 #[.pointer (some ⟨w.heap.size + 1, 0, none⟩)] (fun b => w.heap.size ≤ b) ((w.alloc (.cells #[.int .i64 0] 3)).alloc (.cells #[.slice (some ⟨w.heap.size, 0, none⟩) 1 1] 35)).heap.size
      (fun s w' => OutAt w' w.heap.size (w.heap.size + 1) s) (fun s (k : Nat) => (true, s ++ [(k : Int)])) n (fun s => s.length - 1) := by
    constructor
    · intro s k h
      simp only [List.length_append, List.length_singleton]
      omega
    · intro s k w1 hk hb ho hz
      simp only [World.size_alloc] at hz
      exact breaks1_any w (w.heap.size + 1) k s w1 ho (by omega) (by omega) (by omega)
    · exact Tryz.call144
    · intro s w1 w2 ho hk
      exact ho.keep hk (by decide) (by decide)
  refine (cwalk_any _ _ _ _ _ _ _ A n c l 0 [0] _ hl1 (fun b h _ h' => by omega) (by omega) (by omega) hy hB0 (by simp)).mono ?_
  rintro e w1 ⟨rfl, ho, hf⟩
  rw [foldU_out] at ho
  obtain ⟨v, hb, hown⟩ := ho
  have c0 := hb.cell 0
  simp at c0
  have hown' : w1.ownsRow w.heap.size 3 1 v (allB l).length ((allB l).map (Value.int .i64)) := hown
  clear hown
  obtain ⟨r, cap, rfl, _, hrl⟩ := hown'.form (by simp [allB])
  have HO := Lib.hid hown'
  clear hown'
  go_wp2_with fail
  go_ret
  exact ⟨_, rfl, HO.out, bfr hW hf (fun i hi => hi)⟩
end Go.Proofs.YteekabaoocaghaaGreat
