/-
  The walks of package tree at the pieces, fifth part: sums of lists, Upto.
-/
import Derived.Test.YtcdhfmkfkhhnoaaGreatLTree4
set_option linter.unusedSimpArgs false
set_option linter.unusedVariables false
namespace Go.Proofs.YtcdhfmkfkhhnoaaGreat
open Go.RowKit

theorem addF_zero_left (s : Sums) : addF zeroS s = s := by unfold addF; exact if_pos rfl
theorem addF_zero_right {s : Sums} (h : s.good) : addF s zeroS = s := by
  unfold addF
  split
  · rename_i h0; exact (h.2.2.2.1 h0).symm
  · exact if_pos rfl
theorem addF_nz {s o : Sums} (h1 : s.atoms ≠ 0) (h2 : o.atoms ≠ 0) : addF s o = { atoms := s.atoms + o.atoms, bytes := s.bytes + o.bytes, breaks := if (s.cr && o.lf) = true then s.breaks + o.breaks - 1 else s.breaks + o.breaks, lf := s.lf, cr := o.cr } := by
  unfold addF; rw [if_neg h1, if_neg h2]
theorem addF_assoc {a b c : Sums} (ha : a.good) (hb : b.good) (hc : c.good) : addF (addF a b) c = addF a (addF b c) := by
  by_cases h1 : a.atoms = 0
  · rw [ha.2.2.2.1 h1, addF_zero_left, addF_zero_left]
  by_cases h2 : b.atoms = 0
  · rw [hb.2.2.2.1 h2, addF_zero_left, addF_zero_right ha]
  by_cases h3 : c.atoms = 0
  · rw [hc.2.2.2.1 h3, addF_zero_right hb, addF_zero_right (addF_good ha hb).1]
  have n1 : 0 ≤ a.atoms := by obtain ⟨x, y, _⟩ := ha; omega
  have n2 : 0 ≤ b.atoms := by obtain ⟨x, y, _⟩ := hb; omega
  have n3 : 0 ≤ c.atoms := by obtain ⟨x, y, _⟩ := hc; omega
  have g1 := (addF_good ha hb).2.1
  have g2 := (addF_good hb hc).2.1
  rw [addF_nz (s := addF a b) (by omega) h3, addF_nz (o := addF b c) h1 (by omega), addF_nz h1 h2, addF_nz h2 h3]
  dsimp only
  rw [Int.add_assoc, Int.add_assoc]
  congr 1
  split <;> split <;> omega
/-- the sum of a list of pieces -/
def sumL (ps : List Pc) : Sums := ps.foldr (fun p s => addF p.sum s) zeroS
theorem sumL_nil : sumL [] = zeroS := rfl
theorem sumL_cons (p : Pc) (ps : List Pc) : sumL (p :: ps) = addF p.sum (sumL ps) := rfl
theorem sumL_good {ps : List Pc} (h : AllGood ps) : (sumL ps).good ∧ (sumL ps).bytes = totB ps := by
  induction ps with
  | nil => exact ⟨zeroS_good, rfl⟩
  | cons p ps ih =>
    have h1 := ih (fun q hq => h q (List.mem_cons_of_mem _ hq))
    have h2 := addF_good (h p List.mem_cons_self) h1.1
    rw [sumL_cons, totB_cons]
    exact ⟨h2.1, by rw [h2.2.2, h1.2]⟩
theorem sumL_app {a b : List Pc} (ha : AllGood a) (hb : AllGood b) : sumL (a ++ b) = addF (sumL a) (sumL b) := by
  induction a with
  | nil => rw [List.nil_append, sumL_nil, addF_zero_left]
  | cons p ps ih =>
    have h1 : AllGood ps := fun q hq => ha q (List.mem_cons_of_mem _ hq)
    rw [List.cons_append, sumL_cons, ih h1, sumL_cons, addF_assoc (ha p List.mem_cons_self) (sumL_good h1).1 (sumL_good hb).1]
theorem Tr.good_l {l : Tr} {x : Pc} {r : Tr} (h : AllGood (Tr.node l x r).list) : AllGood l.list := fun p hp => h p (by simp [Tr.list, hp])
theorem Tr.good_r {l : Tr} {x : Pc} {r : Tr} (h : AllGood (Tr.node l x r).list) : AllGood r.list := fun p hp => h p (by simp [Tr.list, hp])
theorem Tr.good_x {l : Tr} {x : Pc} {r : Tr} (h : AllGood (Tr.node l x r).list) : x.sum.good := h x (by simp [Tr.list])
theorem lsum_eq (l : Tr) (x : Pc) : lsum l x = addF l.sum x.sum := by
  cases l with
  | nil => exact (addF_zero_left _).symm
  | node => rfl
theorem rsum_eq {s : Sums} (h : s.good) (r : Tr) : rsum s r = addF s r.sum := by
  cases r with
  | nil => exact (addF_zero_right h).symm
  | node => rfl
theorem Tr.sum_list : ∀ t : Tr, AllGood t.list → t.sum = sumL t.list
  | .nil, _ => rfl
  | .node l x r, h => by
    have hl := Tr.sum_list l (Tr.good_l h)
    have hr := Tr.sum_list r (Tr.good_r h)
    have gl := sumL_good (Tr.good_l h)
    have gr := sumL_good (Tr.good_r h)
    have gx := Tr.good_x h
    rw [Tr.sum_node, rsum_eq (lsum_good l x (Tr.good_l h) gx).1, lsum_eq, hl, hr, Tr.list, sumL_app (Tr.good_l h) (fun p hp => h p (by simp only [Tr.list, List.mem_append]; exact Or.inr hp)), sumL_cons, addF_assoc gl.1 gx gr.1]
/-- a running sum and a left side -/
def accF (s : Sums) (l : Tr) : Sums := match l with | .nil => s | .node .. => addF s l.sum
theorem accF_eq {s : Sums} (h : s.good) (l : Tr) (hl : AllGood l.list) : accF s l = addF s (sumL l.list) := by
  cases l with
  | nil => exact (addF_zero_right h).symm
  | node a b c => show addF s (Tr.node a b c).sum = _; rw [Tr.sum_list _ hl]
theorem upto_left (l : Tr) (x : Pc) (r : Tr) (j : Int) (h : j ≤ l.list.length) : (Tr.node l x r).list.take j.toNat = l.list.take j.toNat := by
  rw [Tr.list, List.take_append_of_le_length (by omega)]
theorem upto_right (l : Tr) (x : Pc) (r : Tr) (j : Int) (h : (l.list.length : Int) < j) : (Tr.node l x r).list.take j.toNat = l.list ++ x :: r.list.take (j - l.list.length - 1).toNat := by
  rw [Tr.list, List.take_append, List.take_of_length_le (by omega), show j.toNat - l.list.length = (j - l.list.length - 1).toNat + 1 by omega, List.take_succ_cons]
theorem take_good {ps : List Pc} (h : AllGood ps) (k : Nat) : AllGood (ps.take k) := fun p hp => h p (List.mem_of_mem_take hp)
theorem upto_step {s : Sums} (hs : s.good) {l : Tr} {x : Pc} {r : Tr} (h : AllGood (Tr.node l x r).list) (j : Int) (hj : (l.list.length : Int) < j) :
    addF (addF (accF s l) x.sum) (sumL (r.list.take (j - l.list.length - 1).toNat)) = addF s (sumL ((Tr.node l x r).list.take j.toNat)) := by
  have hl := Tr.good_l h
  have hr := take_good (Tr.good_r h) (j - l.list.length - 1).toNat
  have hx := Tr.good_x h
  have gl := (sumL_good hl).1
  have gr := (sumL_good hr).1
  rw [upto_right l x r j hj, sumL_app hl (by intro p hp; rcases List.mem_cons.1 hp with rfl | hp; exact hx; exact hr p hp), sumL_cons, accF_eq hs l hl, addF_assoc (addF_good hs gl).1 hx gr, addF_assoc hs gl (addF_good hx gr).1]
end Go.Proofs.YtcdhfmkfkhhnoaaGreat
