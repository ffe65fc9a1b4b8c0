/-
  The document's lines: copyistref6.All and Native.
-/
import Derived.Test.YteekabaoocaghaaGreatLRf7
set_option linter.unusedSimpArgs false
set_option linter.unusedVariables false
namespace Go.Proofs.YteekabaoocaghaaGreat
open Go.RowKit

/-- all lines of a list of atoms, and the tail behind them -/
def allG : List Int → Int → Int → List Ln
  | [], f, i => [⟨f, i, i, 0⟩]
  | a :: r, f, i => if a = 10 then ⟨f, i, i + 1, 1⟩ :: allG r (i + 1) (i + 1) else if a = 13 then (if r.head? = some 10 then ⟨f, i, i + 2, 2⟩ :: allG r.tail (i + 2) (i + 2) else ⟨f, i, i + 1, 3⟩ :: allG r (i + 1) (i + 1)) else allG r f (i + 1)
termination_by l => l.length
decreasing_by all_goals (simp; try omega)
theorem allG_nil (f i : Int) : allG [] f i = [⟨f, i, i, 0⟩] := by rw [allG]
theorem allG_cons (a : Int) (r : List Int) (f i : Int) : allG (a :: r) f i = if a = 10 then ⟨f, i, i + 1, 1⟩ :: allG r (i + 1) (i + 1) else if a = 13 then (if r.head? = some 10 then ⟨f, i, i + 2, 2⟩ :: allG r.tail (i + 2) (i + 2) else ⟨f, i, i + 1, 3⟩ :: allG r (i + 1) (i + 1)) else allG r f (i + 1) := by rw [allG]
theorem allG_head (A : List Int) : ∀ f i, ∃ L ls, allG A f i = L :: ls ∧ L.brk = brk1 A := by
  induction A with
  | nil => intro f i; exact ⟨_, _, allG_nil f i, rfl⟩
  | cons a r ih =>
    intro f i
    rw [allG_cons, brk1]
    split
    · exact ⟨_, _, rfl, rfl⟩
    · split
      · split
        · exact ⟨_, _, rfl, rfl⟩
        · exact ⟨_, _, rfl, rfl⟩
      · exact ih f (i + 1)
def lineZ : Value := .agg #[.int .i64 0, .int .i64 0, .int .i64 0, .int .i64 0]
theorem rline_info : (Tryz.prog.info? 174).map (fun i => (i.zero, i.size, i.bytes)) = some (some lineZ, 4, 32) := by kernel_rfl
theorem rline_row : ∃ i z, Tryz.prog.info? 174 = some i ∧ i.zero = some z ∧ i.size = 4 ∧ i.bytes = 32 ∧ z.cells.size = 4 := by
  obtain ⟨i, h1, h2, h3, h4⟩ := info_parts rline_info
  exact ⟨i, lineZ, h1, h2, h3, h4, rfl⟩
theorem line_one (a b c d : Int) : ∀ u ∈ [Value.int .i64 a, .int .i64 b, .int .i64 c, .int .i64 d], u.oneCell' = true := by
  intro u hu
  simp at hu
  rcases hu with rfl | rfl | rfl | rfl <;> rfl
def lnCells (ls : List Ln) : List Value := ls.flatMap fun l => l.cells.toList
theorem lnCells_snoc (ls : List Ln) (l : Ln) : lnCells (ls ++ [l]) = lnCells ls ++ [.int .i64 l.from_, .int .i64 l.to_, .int .i64 l.next, .int .i64 l.brk] := by
  unfold lnCells
  rw [List.flatMap_append]
  simp [Ln.cells]
def AllR (A : List Int) (w : World) (k : Nat) (q4 q5 q6 : Value) (wr : World) : Prop :=
  ∃ (i : Nat) (f : Int) (ls : List Ln) (v : Value), q4 = v ∧ q5 = .int .i64 f ∧ q6 = .int .i64 (i : Int) ∧ i ≤ A.length ∧ A.length - i ≤ k ∧ 0 ≤ f ∧ f ≤ i ∧ ls.length ≤ i ∧ Hid (allG A 0 0 = ls ++ allG (A.drop i) f i) ∧ Hid (wr.ownsRow w.heap.size 174 4 v ls.length (lnCells ls)) ∧ Below w.heap.size w wr
def AllPost (A : List Int) (w : World) (e : Ending) (w' : World) : Prop :=
  ∃ (v : Value) (n : Int), e = .returned (.tuple #[v, .int .i64 n]) ∧ w'.ownsRow w.heap.size 174 4 v (allG A 0 0).length (lnCells (allG A 0 0)) ∧ Below w.heap.size w w'
set_option maxRecDepth 100000 in
set_option maxHeartbeats 8000000 in
theorem rall_any (D : Nat → Prop) (A : Option Addr) (n c : Nat) (l : List Int) (w : World) (hl : Ints w D A n l) (hn : n ≤ 1073741824) :
    Calls Tryz.prog 86 #[.slice A n c] w fun e w' => AllPost l w e w' := by
  have hle := hl.len
  obtain ⟨ip, zp, hip, hp0, hp1, hp2, hp3⟩ := rline_row
  go_enter Tryz.func86, Tryz.ntmps86
  go_wp2_with fail
  go_loopg [4, 5, 6] n (fun k q4 q5 q6 wr => AllR l w k q4 q5 q6 wr)
  case atStart => exact ⟨0, 0, [], .slice none 0 0, rfl, rfl, rfl, Nat.zero_le _, by omega, by omega, by omega, Nat.le_refl _, Lib.hid (by simp), Lib.hid (World.ownsRow_nil _ _ _ _), Below.refl _ _⟩
  case round =>
    obtain ⟨i, f, ls, v, rfl, rfl, rfl, hi, hk, hf0, hf1, hls, hall, hown, hb⟩ := hrel
    by_cases hlt : i < n
    · obtain ⟨ad, hA, _, c1⟩ := Ints.at_ (Reads.below hl hb) hlt
      subst hA
      have hdr := drop_getD l i (by omega)
      have hst := hall.out
      obtain ⟨x, hx⟩ : ∃ x, l.getD i 0 = x := ⟨_, rfl⟩
      rw [hx] at c1 hdr
      rw [hdr, allG_cons] at hst
      have hnext : i + 1 < n → ∃ y, wr.cell? (ad.add (i + 1)) = some (.int .i64 y) ∧ (l.drop (i + 1)).head? = some y ∧ (l.drop (i + 1)).tail = l.drop (i + 2) := by
        intro h
        obtain ⟨ad', hA, _, c2⟩ := Ints.at_ (Reads.below hl hb) h
        obtain rfl : ad = ad' := by injection hA
        refine ⟨_, c2, ?_, ?_⟩
        · rw [drop_getD l (i + 1) (by omega)]; rfl
        · rw [List.tail_drop]
      have hno : ¬ i + 1 < n → (l.drop (i + 1)).head? = none := by
        intro h
        rw [List.drop_eq_nil_of_le (by omega)]; rfl
      have HST := Lib.hid hst
      have HNX := Lib.hid hnext
      have HNO := Lib.hid hno
      clear hx hdr hst hnext hno
      have hwr := hb.size
      by_cases h10 : x = 10
      · subst h10
        go_wp2_with (at_builtin; refine wpList_append_own_at _ rfl (.tmp 19) (.tmp 25) 171 rfl w.heap.size 174 ip zp 4 32 Tryz.underlying171 hip hp0 hp1 hp2 hp3 (by decide) u4 ls.length _ rfl (hown.out.alloc _) ⟨wr.heap.size, 0, none⟩ 1 1 [.int .i64 f, .int .i64 (i : Int), .int .i64 ((i : Int) + 1), .int .i64 1] rfl rfl (cells_new _ _ _) (line_one _ _ _ _) (by unfold maxLen; omega) (by omega) (by simp; omega) ?_)
        intro v1 w1 hown1 hgr _ _
        have hb1 : Below w.heap.size w w1 := below_grown2 (balloc hb) hgr (fun k hk => own_ge hown.out hk)
        have HO := Lib.hid hown1
        clear hown1 hgr hip hp0 hp1 hp2 hp3
        go_wp2_with fail
        go_roundg (n - (i + 1))
        case measure => omega
        case rel =>
          refine ⟨i + 1, (i : Int) + 1, ls ++ [⟨f, i, (i : Int) + 1, 1⟩], v1, rfl, rfl, by go_num, by omega, by omega, by omega, by omega, by simp; omega, Lib.hid ?_, Lib.hid ?_, hb1⟩
          · rw [HST.out, if_true, List.append_assoc]; rfl
          · rw [lnCells_snoc, List.length_append]; exact HO.out
      · have q10 : (x == 10) = false := by rw [beq_eq_false_iff_ne]; exact h10
        by_cases h13 : x = 13
        · subst h13
          clear h10
          by_cases h2 : i + 1 < n
          · obtain ⟨y, c2, hy1, hy2⟩ := HNX.out h2
            have c2' : wr.cell? ⟨ad.block, ad.off + (i + 1), none⟩ = some (.int .i64 y) := by rw [← add_pos ad (i + 1) (by omega)]; exact c2
            have q2 : ((i : Int) + 1 < (n : Int)) = True := by simp; omega
            have HY1 := Lib.hid hy1
            have HY2 := Lib.hid hy2
            clear hy1 hy2
            by_cases hy : y = 10
            · subst hy
              go_wp2_with (at_builtin; refine wpList_append_own_at _ rfl (.tmp 49) (.tmp 55) 171 rfl w.heap.size 174 ip zp 4 32 Tryz.underlying171 hip hp0 hp1 hp2 hp3 (by decide) u4 ls.length _ rfl (hown.out.alloc _) ⟨wr.heap.size, 0, none⟩ 1 1 [.int .i64 f, .int .i64 (i : Int), .int .i64 ((i : Int) + 2), .int .i64 2] rfl rfl (cells_new _ _ _) (line_one _ _ _ _) (by unfold maxLen; omega) (by omega) (by simp; omega) ?_)
              intro v1 w1 hown1 hgr _ _
              have hb1 : Below w.heap.size w w1 := below_grown2 (balloc hb) hgr (fun k hk => own_ge hown.out hk)
              have HO := Lib.hid hown1
              clear hown1 hgr hip hp0 hp1 hp2 hp3
              go_wp2_with fail
              go_roundg (n - (i + 2))
              case measure => omega
              case rel =>
                refine ⟨i + 2, (i : Int) + 2, ls ++ [⟨f, i, (i : Int) + 2, 2⟩], v1, rfl, rfl, by go_num, by omega, by omega, by omega, by omega, by simp; omega, Lib.hid ?_, Lib.hid ?_, hb1⟩
                · rw [HST.out, if_neg (by omega), if_true, if_pos HY1.out, HY2.out, List.append_assoc]; rfl
                · rw [lnCells_snoc, List.length_append]; exact HO.out
            · have qy : (y == 10) = false := by rw [beq_eq_false_iff_ne]; exact hy
              go_wp2_with (at_builtin; refine wpList_append_own_at _ rfl (.tmp 66) (.tmp 72) 171 rfl w.heap.size 174 ip zp 4 32 Tryz.underlying171 hip hp0 hp1 hp2 hp3 (by decide) u4 ls.length _ rfl (hown.out.alloc _) ⟨wr.heap.size, 0, none⟩ 1 1 [.int .i64 f, .int .i64 (i : Int), .int .i64 ((i : Int) + 1), .int .i64 3] rfl rfl (cells_new _ _ _) (line_one _ _ _ _) (by unfold maxLen; omega) (by omega) (by simp; omega) ?_)
              intro v1 w1 hown1 hgr _ _
              have hb1 : Below w.heap.size w w1 := below_grown2 (balloc hb) hgr (fun k hk => own_ge hown.out hk)
              have HO := Lib.hid hown1
              clear hown1 hgr hip hp0 hp1 hp2 hp3
              go_wp2_with fail
              go_roundg (n - (i + 1))
              case measure => omega
              case rel =>
                refine ⟨i + 1, (i : Int) + 1, ls ++ [⟨f, i, (i : Int) + 1, 3⟩], v1, rfl, rfl, by go_num, by omega, by omega, by omega, by omega, by simp; omega, Lib.hid ?_, Lib.hid ?_, hb1⟩
                · rw [HST.out, if_neg (by omega), if_true, if_neg (by rw [HY1.out]; simpa using hy), List.append_assoc]; rfl
                · rw [lnCells_snoc, List.length_append]; exact HO.out
          · have q2 : ((i : Int) + 1 < (n : Int)) = False := by simp; omega
            go_wp2_with (at_builtin; refine wpList_append_own_at _ rfl (.tmp 66) (.tmp 72) 171 rfl w.heap.size 174 ip zp 4 32 Tryz.underlying171 hip hp0 hp1 hp2 hp3 (by decide) u4 ls.length _ rfl (hown.out.alloc _) ⟨wr.heap.size, 0, none⟩ 1 1 [.int .i64 f, .int .i64 (i : Int), .int .i64 ((i : Int) + 1), .int .i64 3] rfl rfl (cells_new _ _ _) (line_one _ _ _ _) (by unfold maxLen; omega) (by omega) (by simp; omega) ?_)
            intro v1 w1 hown1 hgr _ _
            have hb1 : Below w.heap.size w w1 := below_grown2 (balloc hb) hgr (fun k hk => own_ge hown.out hk)
            have HO := Lib.hid hown1
            clear hown1 hgr hip hp0 hp1 hp2 hp3
            go_wp2_with fail
            go_roundg (n - (i + 1))
            case measure => omega
            case rel =>
              refine ⟨i + 1, (i : Int) + 1, ls ++ [⟨f, i, (i : Int) + 1, 3⟩], v1, rfl, rfl, by go_num, by omega, by omega, by omega, by omega, by simp; omega, Lib.hid ?_, Lib.hid ?_, hb1⟩
              · rw [HST.out, if_neg (by omega), if_true, if_neg (by rw [HNO.out h2]; simp), List.append_assoc]; rfl
              · rw [lnCells_snoc, List.length_append]; exact HO.out
        · have q13 : (x == 13) = false := by rw [beq_eq_false_iff_ne]; exact h13
          go_wp2_with fail
          go_roundg (n - (i + 1))
          case measure => omega
          case rel =>
            refine ⟨i + 1, f, ls, u4, rfl, rfl, by go_num, by omega, by omega, by omega, by omega, by omega, Lib.hid ?_, hown, hb⟩
            rw [HST.out, if_neg h10, if_neg h13]; rfl
    · obtain rfl : i = l.length := by omega
      have hst := hall.out
      rw [List.drop_length, allG_nil] at hst
      have HST := Lib.hid hst
      have hwr := hb.size
      obtain ⟨N, hN⟩ : ∃ N, l.length = N := ⟨_, rfl⟩
      have HN := Lib.hid hN
      obtain ⟨A4, c4, hv4, hc4⟩ := own_slice hown.out
      subst hv4
      clear hst hall hN
      go_wp2_with (at_builtin; refine wpList_append_own_at _ rfl (.tmp 78) (.tmp 85) 171 rfl w.heap.size 174 ip zp 4 32 Tryz.underlying171 hip hp0 hp1 hp2 hp3 (by decide) (.slice A4 ls.length c4) ls.length _ rfl (hown.out.alloc _) ⟨wr.heap.size, 0, none⟩ 1 1 [.int .i64 f, .int .i64 (n : Int), .int .i64 (n : Int), .int .i64 0] rfl rfl (cells_new _ _ _) (line_one _ _ _ _) (by unfold maxLen; omega) (by omega) (by simp; omega) ?_)
      intro v1 w1 hown1 hgr _ _
      have hb1 : Below w.heap.size w w1 := below_grown2 (balloc hb) hgr (fun k hk => own_ge hown.out hk)
      have hfin : w1.ownsRow w.heap.size 174 4 v1 (allG l 0 0).length (lnCells (allG l 0 0)) := by
        rw [HST.out, lnCells_snoc, List.length_append, HN.out, hle.symm.trans HN.out |>.symm]
        exact hown1
      have HF := Lib.hid hfin
      have hn0 : ((n : Int) == 0) = true ∨ (((n : Int) == 0) = false ∧ (f < (n : Int)) = True) ∨ (((n : Int) == 0) = false ∧ (f < (n : Int)) = False) := by
        rw [beq_iff_eq, beq_eq_false_iff_ne]; simp; omega
      obtain ⟨r1, c1, hv1, _, _⟩ := hown1.form (by omega)
      subst hv1
      clear hown1 hgr hfin hip hp0 hp1 hp2 hp3
      rcases hn0 with h1 | ⟨h1, h2⟩ | ⟨h1, h2⟩
      all_goals
        go_wp2_with fail
        go_ret2
        exact ⟨_, _, rfl, HF.out, hb1⟩
end Go.Proofs.YteekabaoocaghaaGreat
