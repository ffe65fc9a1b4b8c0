/-
  The small functions of package copyistladder: right, num, among, twin.
-/
import Derived.Test.YtoafogibfokblaaGreatLOpen
import Derived.Laws.AppendOwnNone
set_option linter.unusedSimpArgs false
set_option linter.unusedVariables false
namespace Go.Proofs.YtoafogibfokblaaGreat
open Go.RowKit

theorem num_any (x : Int) (w : World) : Calls Tryz.prog 7 #[.int .i64 x] w fun e w' => e = .returned (.int .i64 x) ∧ w = w' := by
  go_enter Tryz.func7, Tryz.ntmps7
  go_wp2
  go_ret
  exact ⟨rfl, rfl⟩
def rightF (enc : Int) (n : Nat) : Bool := decide (1 ≤ enc) && decide (enc ≤ 4) && decide (n ≤ 65536)
theorem right_any (enc : Int) (A : Option Addr) (n c : Nat) (w : World) :
    Calls Tryz.prog 4 #[.int .i64 enc, .slice A n c] w fun e w' => e = .returned (.bool (rightF enc n)) ∧ w = w' := by
  by_cases h1 : 1 ≤ enc <;> by_cases h2 : enc ≤ 4 <;> by_cases h3 : n ≤ 65536
  all_goals
    have h3' : ((n : Int) ≤ 65536) = (n ≤ 65536) := by simp; omega
    go_enter Tryz.func4, Tryz.ntmps4
    go_wp2
    go_ret
    refine ⟨ret_b ?_, rfl⟩
    simp [rightF, h1, h2, h3]
/-- a number from 0 up to n, made of any -/
def amongF (i n : Int) : Int := if i < 0 then (-(i + 1)).tmod n else i.tmod n
theorem among_any (i n : Int) (w : World) (hi : -9223372036854775808 ≤ i ∧ i ≤ 9223372036854775807) (hn : 0 < n ∧ n ≤ 1073741825) :
    Calls Tryz.prog 9 #[.int .i64 i, .int .i64 n] w fun e w' => (∃ k : Nat, e = .returned (.int .i64 (k : Int)) ∧ (k : Int) < n) ∧ w = w' := by
  have key : ∀ x : Int, 0 ≤ x → ∃ k : Nat, x.tmod n = (k : Int) ∧ (k : Int) < n := fun x hx => by
    have h1 := Int.tmod_nonneg n hx
    have h2 := Int.tmod_lt_of_pos x hn.1
    exact ⟨(x.tmod n).toNat, by omega, by omega⟩
  have hn0 : (n = 0) = False := by simp; omega
  have hn1 : (n == 0) = false := by rw [beq_eq_false_iff_ne]; omega
  have hn2 : (n = -1) = False := by simp; omega
  have hn3 : (n == -1) = false := by rw [beq_eq_false_iff_ne]; omega
  by_cases h : i < 0
  · have e1 : IntKind.i64.wrap (i + 1) = i + 1 := IntWalk.i64_in _ (by omega)
    have e2 : IntKind.i64.wrap (-(i + 1)) = -(i + 1) := IntWalk.i64_in _ (by omega)
    obtain ⟨k, hk, hk2⟩ := key (-(i + 1)) (by omega)
    have e3 : IntKind.i64.wrap ((-(i + 1)).tmod n) = (k : Int) := by rw [hk]; exact IntWalk.i64_in _ (by omega)
    go_enter Tryz.func9, Tryz.ntmps9
    go_wp2
    go_ret
    exact ⟨⟨k, by rw [← e3]; rfl, hk2⟩, rfl⟩
  · obtain ⟨k, hk, hk2⟩ := key i (by omega)
    have e3 : IntKind.i64.wrap (i.tmod n) = (k : Int) := by rw [hk]; exact IntWalk.i64_in _ (by omega)
    go_enter Tryz.func9, Tryz.ntmps9
    go_wp2
    go_ret
    exact ⟨⟨k, by rw [← e3]; rfl, hk2⟩, rfl⟩
theorem u8_info : (Tryz.prog.info? 5).map (fun i => (i.zero, i.size, i.bytes)) = some (some (.int .u8 0), 1, 1) := by kernel_rfl
set_option maxRecDepth 100000 in
set_option maxHeartbeats 1000000 in
theorem twin_any (A : Option Addr) (n c : Nat) (l : List Int) (w : World) (hl : Bts w Any A n l) (hA : A = none → c = 0) (hn : n ≤ 65536) :
    Calls Tryz.prog 6 #[.slice A n c] w fun e w' => (∃ A' c', e = .returned (.slice A' n c') ∧ Bts w' (fun b => w.heap.size ≤ b) A' n l ∧ n ≤ c') ∧ Below w.heap.size w w' := by
  obtain ⟨i0, hi, hz0, hz1, hz2⟩ := info_parts u8_info
  have hle := hl.len
  have hown := World.ownsRow_nil w w.heap.size 5 1
  cases A with
  | none =>
    have hn0 : n = 0 := by
      rcases Nat.eq_zero_or_pos n with h | h
      · exact h
      · obtain ⟨ad, e, _⟩ := hl.2 h; cases e
    subst hn0
    rw [hA rfl]
    have e0 : l = [] := List.eq_nil_of_length_eq_zero hle
    subst e0
    go_enter Tryz.func6, Tryz.ntmps6
    go_wp2_with (at_builtin; refine wpList_append_own_none rfl (.const (.slice none 0 0)) (.tmp 3) 22 rfl w.heap.size 5 i0 1 Tryz.underlying22 hi (.slice none 0 0) 0 _ rfl hown rfl ?_)
    go_ret
    exact ⟨⟨none, ⟨0, rfl⟩, ⟨rfl, fun h => absurd h (by omega)⟩⟩, Below.refl _ _⟩
  | some ad =>
    have hx := hl.2
    go_enter Tryz.func6, Tryz.ntmps6
    go_wp2_with (at_builtin; refine wpList_append_own _ rfl (.const (.slice none 0 0)) (.tmp 3) 22 rfl w.heap.size 5 i0 (.int .u8 0) 1 1 Tryz.underlying22 hi hz0 hz1 hz2 rfl (by decide) (.slice none 0 0) 0 _ rfl hown ad n c (l.map (Value.int .u8)) rfl ?c1 ?c2 ?c3 ?c4 ?c5 ?c6 ?_)
    case c1 => simp [hle]
    case c2 =>
      intro j u hu
      have hlt : j < n := by
        have := (List.getElem?_eq_some_iff.1 hu).1
        simpa [hle] using this
      obtain ⟨ad', e, _, hc⟩ := hx (by omega)
      have : ad' = ad := by injection e with e; exact e.symm
      subst this
      exact hc j u hu
    case c3 =>
      intro u hu
      obtain ⟨x, _, rfl⟩ := List.mem_map.1 hu
      rfl
    case c4 => unfold maxLen; omega
    case c5 => omega
    case c6 => exact Nat.le_refl _
    intro v1 w1 hown1 hgr _
    have hb : Below w.heap.size w w1 := (Fr.of_grown (S := No) hgr (fun k hk _ => by simp [Value.ownBlock] at hk)).below (fun _ _ h => h)
    have hfin : ∃ A' c', v1 = .slice A' n c' ∧ Bts w1 (fun b => w.heap.size ≤ b) A' n l ∧ n ≤ c' := by
      rcases Nat.eq_zero_or_pos n with h | h
      · subst h
        have e0 : l = [] := List.eq_nil_of_length_eq_zero hle
        subst e0
        rcases hown1.2 with ⟨rfl, _⟩ | ⟨g, cap, cur, rfl, _, _, hcap⟩
        · exact ⟨none, 0, rfl, ⟨rfl, fun h => absurd h (by omega)⟩, Nat.le_refl _⟩
        · exact ⟨_, cap, rfl, ⟨by simp, fun h => absurd h (by omega)⟩, by omega⟩
      · rcases hown1.2 with ⟨rfl, h0⟩ | ⟨g, cap, cur, rfl, _, _, hcap⟩
        · omega
        · exact ⟨_, cap, rfl, Reads.of_own hown1, by omega⟩
    obtain ⟨A', c', rfl, h1, h2⟩ := hfin
    go_wp2_with fail
    go_ret
    exact ⟨⟨A', c', rfl, h1, h2⟩, hb⟩
end Go.Proofs.YtoafogibfokblaaGreat
