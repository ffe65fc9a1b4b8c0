/-
  The walks of package tree at the pieces: Items, an iterator: its inner function, by induction on the tree.
-/
import Derived.Test.YtflhiohjikgedaaGreatDoorLTree9
import Derived.RangeFuncNested
import Derived.RangeFuncBound
import Derived.RangeFuncLeaves
import Derived.Shelf.Abstract
import Derived.Shelf.RegionOpen
import Derived.OwnWalkIn
import Derived.TacticsInMore
import Derived.LoopNIn
import Derived.LoopIn
import Derived.Stop.RegionWithIn
import Derived.Sort.LoopGhostIn
import Derived.Sort.CutIn
set_option linter.unusedSimpArgs false
set_option linter.unusedVariables false
set_option maxRecDepth 100000
set_option maxHeartbeats 32000000
namespace Go.Proofs.YtflhiohjikgedaaGreatDoor
open Go.RowKit
def KTy (T : TypeId) : Prop := T = 134 \/ T = 153 \/ T = 152 \/ T = 94
instance (T : TypeId) : Decidable (KTy T) := inferInstanceAs (Decidable (_ \/ _))
theorem KTy.ne {T T' : TypeId} (h : KTy T) (h' : ¬ KTy T') : T ≠ T' := fun e => h' (e ▸ h)
def KT (w w' : World) : Prop := w.heap.size <= w'.heap.size /\ ∀ (b : Nat) (cs : Array Value) (T : TypeId), KTy T -> Blk w b T cs -> Blk w' b T cs
theorem KT.refl (w : World) : KT w w := ⟨Nat.le_refl _, fun _ _ _ _ h => h⟩
theorem KT.trans {a b c : World} (h : KT a b) (k : KT b c) : KT a c := ⟨Nat.le_trans h.1 k.1, fun i cs T h1 hb => k.2 i cs T h1 (h.2 i cs T h1 hb)⟩
theorem KT.below {w w' : World} (h : Below w.heap.size w w') : KT w w' := ⟨h.size, fun _ _ _ _ hb => hb.below h⟩
theorem KT.drew (w : World) : KT w w.drew := ⟨Nat.le_refl _, fun _ _ _ _ h => h⟩
theorem KT.drewN (w : World) (n : Nat) : KT w (w.drewN n) := ⟨Nat.le_refl _, fun _ _ _ _ h => h⟩
theorem KT.node {w w' : World} (hk : KT w w') : ∀ (t : Tr) (a : Option Addr), NodeAt w t a -> NodeAt w' t a := by
 intro t
 induction t with
 | nil => intro a h; exact h
 | node l x r ihl ihr =>
  rintro a ⟨b, al, ar, e, h, hl, hr⟩
  exact ⟨b, al, ar, e, hk.2 b _ _ (by decide) h, ihl al hl, ihr ar hr⟩
def YSpec (l : Nat) (G : Pc -> Prop) (J Jx : List Pc -> World -> Prop) (L : List Pc) : Prop := ∀ (m : Nat) (pre : List Pc) (x : Pc) (W : World), G x -> J pre W -> pre ++ [x] <+: L ->
 YieldAt Fence.wide m Tryz.prog l #[.agg x.cells] W fun e W' => (e = .returned (.bool true) /\ J (pre ++ [x]) W' /\ KT W W') \/ (e = .returned (.bool false) /\ Jx (pre ++ [x]) W')
def YP (J Jx : List Pc -> World -> Prop) (pre xs : List Pc) (W : World) (b : Bool) (W' : World) : Prop :=
 (b = true -> J (pre ++ xs) W' /\ KT W W') /\ (b = false -> ∃ q, q <+: xs /\ Jx (pre ++ q) W')
def WkPost (J Jx : List Pc -> World -> Prop) (pre xs : List Pc) (W : World) (e : Ending) (W' : World) : Prop := ∃ b, e = .returned (.bool b) /\ YP J Jx pre xs W b W'
def WkCut (J Jx : List Pc -> World -> Prop) (pre xs : List Pc) (W : World) (s : Value) (W' : World) : Prop := ∃ b, s = .bool (!b) /\ YP J Jx pre xs W b W'
section
variable {J Jx : List Pc -> World -> Prop} {pre xs ys : List Pc} {W W1 W2 : World} {b : Bool}
theorem YP.nil (h : J pre W1) (hk : KT W W1) : YP J Jx pre [] W true W1 := ⟨fun _ => ⟨by rwa [List.append_nil], hk⟩, fun h => by cases h⟩
theorem YP.more (h : YP J Jx pre xs W true W1) (k : YP J Jx (pre ++ xs) ys W1 b W2) : YP J Jx pre (xs ++ ys) W b W2 := by
 refine ⟨fun hb => ?_, fun hb => ?_⟩
 ·have h1 := h.1 rfl
  have h2 := k.1 hb
  exact ⟨by rw [<- List.append_assoc]; exact h2.1, h1.2.trans h2.2⟩
 ·obtain ⟨q, hq, hx⟩ := k.2 hb
  exact ⟨xs ++ q, (List.prefix_append_right_inj xs).2 hq, by rw [<- List.append_assoc]; exact hx⟩
theorem YP.no (h : YP J Jx pre xs W false W1) (ys : List Pc) : YP J Jx pre (xs ++ ys) W false W1 :=
 ⟨(fun h => by cases h), fun _ => by obtain ⟨q, hq, hx⟩ := h.2 rfl; exact ⟨q, hq.trans (List.prefix_append xs ys), hx⟩⟩
theorem YP.from_ (h : YP J Jx pre xs W1 b W2) (hk : KT W W1) : YP J Jx pre xs W b W2 := ⟨fun hb => ⟨(h.1 hb).1, hk.trans (h.1 hb).2⟩, h.2⟩
end
theorem YSpec.at_ {l : Nat} {G : Pc -> Prop} {J Jx : List Pc -> World -> Prop} {L : List Pc} (h : YSpec l G J Jx L) (m : Nat) (pre : List Pc) (x : Pc) (W : World) (hG : G x) (hJ : J pre W) (hN : pre ++ [x] <+: L) :
  YieldAt Fence.wide m Tryz.prog l #[.agg x.cells] W fun e W' => WkPost J Jx pre [x] W e W' := by
 refine (h m pre x W hG hJ hN).mono ?_
 rintro e W' (⟨rfl, h1, h2⟩ | ⟨rfl, h1⟩)
 ·exact ⟨true, rfl, fun _ => ⟨h1, h2⟩, fun h => by cases h⟩
 ·exact ⟨false, rfl, (fun h => by cases h), fun _ => ⟨[x], List.prefix_refl _, h1⟩⟩
theorem drop_node (l : Tr) (x : Pc) (r : Tr) (i : Int) (hi : 0 <= i) :
  (Tr.node l x r).list.drop i.toNat = (l.list.drop i.toNat ++ (if i <= l.size then [x] else [])) ++ r.list.drop (max 0 (i - l.size - 1)).toNat := by
 have hs := Tr.size_list l
 rw [Tr.list, List.drop_append]
 split
 ·rw [show (max 0 (i - l.size - 1)).toNat = 0 by omega, show i.toNat - l.list.length = 0 by omega]
  simp
 ·rw [List.drop_eq_nil_of_le (by omega), show i.toNat - l.list.length = (max 0 (i - l.size - 1)).toNat + 1 by omega]
  simp
theorem pre_one {pre a b c L : List Pc} (h : pre ++ ((a ++ b) ++ c) <+: L) : pre ++ a <+: L := by
 refine List.IsPrefix.trans ?_ h
 rw [List.append_assoc, <- List.append_assoc]
 exact List.prefix_append _ _
theorem pre_two {pre a b c L : List Pc} (h : pre ++ ((a ++ b) ++ c) <+: L) : pre ++ a ++ b <+: L := by
 refine List.IsPrefix.trans ?_ h
 rw [<- List.append_assoc, <- List.append_assoc]
 exact List.prefix_append _ _
theorem pre_three {pre a b c L : List Pc} (h : pre ++ ((a ++ b) ++ c) <+: L) : (pre ++ (a ++ b)) ++ c <+: L := by
 rw [List.append_assoc]
 exact h
theorem items2_any (l : Nat) (G : Pc -> Prop) (J Jx : List Pc -> World -> Prop) (L : List Pc) (Bw By : Nat) (hJ : (∀ s W, J s W -> J s W.drew) /\ ∀ s W n, J s W -> J s (W.drewN n)) (hY : YSpec l G J Jx L) : ∀ (t : Tr) (a : Option Addr) (i : Int) (pre : List Pc) (W : World),
  NodeAt W t a -> (∀ p ∈ t.list, G p) -> Blk W Bw 153 #[.func (.func 74) #[] #[.pointer (some ⟨Bw, 0, none⟩), .pointer (some ⟨By, 0, none⟩)]] ->
  Blk W By 152 #[.func (.yield l) #[] #[]] -> 0 <= i -> i <= 2147483648 -> t.list.length <= 1073741824 -> J pre W -> pre ++ t.list.drop i.toNat <+: L ->
  Calls Tryz.prog 74 #[.pointer a, .int .i64 i, .pointer (some ⟨Bw, 0, none⟩), .pointer (some ⟨By, 0, none⟩)] W fun e W' => WkPost J Jx pre (t.list.drop i.toNat) W e W' := by
 intro t
 induction t with
 | nil =>
  intro a i pre W hn _ _ _ _ _ _ hj _
  cases hn
  go_enter Tryz.func74, Tryz.ntmps74
  go_wp2_with fail
  go_ret
  exact ⟨true, rfl, fun _ => ⟨by simp [Tr.list]; exact hj, KT.refl _⟩, fun h => by cases h⟩
 | node tl x tr ihl ihr =>
  intro a i pre W hn hG hw hy i0 i1 hlen hj hN
  have hGl : ∀ p ∈ tl.list, G p := fun p hp => hG p (by simp [Tr.list, hp])
  have hGr : ∀ p ∈ tr.list, G p := fun p hp => hG p (by simp [Tr.list, hp])
  have hGx : G x := hG x (by simp [Tr.list])
  clear hG
  have hs := Tr.size_list tl
  have hsr := Tr.size_list tr
  have hll : (Tr.node tl x tr).list.length = tl.list.length + tr.list.length + 1 := by simp only [Tr.list, List.length_append, List.length_cons]; omega
  have hss : (Tr.node tl x tr).size = tl.size + 1 + tr.size := rfl
  have hdn := drop_node tl x tr i i0
  rw [hdn] at hN ⊢
  obtain ⟨b, al, ar, rfl, hb, hnl, hnr⟩ := hn
  obtain ⟨tot, htot⟩ : ∃ s, (Tr.node tl x tr).size = s := ⟨_, rfl⟩
  obtain ⟨tal, htal⟩ : ∃ s, (Tr.node tl x tr).tall = s := ⟨_, rfl⟩
  obtain ⟨sm, hsm⟩ : ∃ s, (Tr.node tl x tr).sum = s := ⟨_, rfl⟩
  obtain ⟨sz, hsz⟩ : ∃ s, tl.size = s := ⟨_, rfl⟩
  obtain ⟨xs1, h1⟩ : ∃ y, tl.list.drop i.toNat = y := ⟨_, rfl⟩
  obtain ⟨j, hj1⟩ : ∃ j, max 0 (i - tl.size - 1) = j := ⟨_, rfl⟩
  rw [hj1] at hN ⊢
  obtain ⟨xs3, h3⟩ : ∃ y, tr.list.drop j.toNat = y := ⟨_, rfl⟩
  obtain ⟨xs2, h2⟩ : ∃ y, (if i <= tl.size then [x] else []) = y := ⟨_, rfl⟩
  rw [h1, h2, h3] at hN ⊢
  rw [htot, htal, hsm] at hb
  have IL := ihl al i pre
  have IR := ihr ar j (pre ++ (xs1 ++ xs2))
  rw [h1] at IL
  rw [h3] at IR
  have c0 := hb.cell 0
  have c1 := hb.cell 9
  simp [nodeC] at c0 c1
  have hcnt := count_any tl al W hnl
  rw [hsz] at hcnt hs h2 hss hj1
  have HIL := Lib.hid IL
  have HIR := Lib.hid IR
  have HC := Lib.hid hcnt
  have H1 := Lib.hid h1
  have H2 := Lib.hid h2
  have H3 := Lib.hid h3
  have HJ1 := Lib.hid hj1
  have k0 : 0 <= sz := by omega
  have k1 : sz <= 1073741824 := by omega
  have k2 : 0 <= j := by omega
  have k3 : j <= 2147483648 := by omega
  have HT := Lib.hid (show tot = sz + 1 + tr.size by omega)
  have HL1 := Lib.hid hs
  have HL2 := Lib.hid hsr
  have HL3 := Lib.hid hll
  have HN := Lib.hid hN
  have HYY := Lib.hid hY
  clear IL IR ihl ihr hcnt h1 h2 h3 hj1 hN hss htot hs hsr hll hdn htal hsm hsz hY
  by_cases hge : tot <= i
  ·have e1 : xs1 = [] := by rw [<- H1.out]; exact List.drop_eq_nil_of_le (by have := HL1.out; have := HT.out; have := HL2.out; omega)
   have e2 : xs2 = [] := by rw [<- H2.out]; exact if_neg (by have := HT.out; have := HL2.out; omega)
   have e3 : xs3 = [] := by rw [<- H3.out]; exact List.drop_eq_nil_of_le (by have := HJ1.out; have := HT.out; have := HL2.out; omega)
   subst e1 e2 e3
   clear H1 H2 H3 HJ1 HIL HIR
   go_enter Tryz.func74, Tryz.ntmps74
   go_wp2_with fail
   go_ret
   exact ⟨true, rfl, YP.nil hj (KT.refl _)⟩
  ·have hge' : i < tot := by omega
   go_enter Tryz.func74, Tryz.ntmps74
   go_wp2_with fail
   refine (HC.out).mono ?_
   rintro e w1 ⟨rfl, rfl⟩
   clear HC
   go_upto_region 4 with fail
   go_cut [35] (fun s wx => WkCut J Jx pre xs1 W s wx)
   case first =>
    have b0 := hw.cell 0
    simp at b0
    by_cases hlt : i < sz
    ·have hlt' : decide (i < sz) = true := by simpa using hlt
     have hc := HIL.out W.drew ((KT.drew W).node _ _ hnl) hGl hw hy i0 i1 (by have := HL3.out; omega) (hJ.1 _ _ hj) (pre_one HN.out)
     have HCC := Lib.hid hc
     have he := Tryz.call74
     clear hc HIL HIR HYY
     go_still_tail 10, (by kernel_rfl)
     all_goals
      go_wp2_with (first | (go_at_call 74; refine (HCC.out).mono ?_; rintro e w1 ⟨b1, rfl, hyp⟩))
      go_meet
      exact ⟨b1, rfl, hyp.from_ (KT.drew _)⟩
    ·have hlt' : decide (i < sz) = false := by simpa using hlt
     have e1 : xs1 = [] := by rw [<- H1.out]; exact List.drop_eq_nil_of_le (by have := HL1.out; omega)
     subst e1
     clear HIL HIR HYY H1
     go_quiet (fail)
     all_goals
      go_wp2_with fail
      go_meet
      exact ⟨true, rfl, YP.nil (hJ.2 _ _ _ hj) (KT.drewN _ _)⟩
   case rest =>
    obtain ⟨b1, rfl, hyp1⟩ := hcut
    clear HIL
    cases b1
    ·go_wp2_with fail
     go_ret
     exact ⟨false, rfl, (hyp1.no _).no _⟩
    ·have hj1 := (hyp1.1 rfl).1
     have hk1 := (hyp1.1 rfl).2
     have hb1 := hk1.2 _ _ _ (by decide) hb
     have hw1 := hk1.2 _ _ _ (by decide) hw
     have hy1 := hk1.2 _ _ _ (by decide) hy
     have hnr1 := hk1.node _ _ hnr
     clear hnl c0 c1 hj hk1
     go_upto_region 6 with fail
     go_cut [47] (fun s wx => WkCut J Jx pre (xs1 ++ xs2) W s wx)
     case first =>
      have b0 := hy1.cell 0
      simp at b0
      by_cases hle : i <= sz
      ·have hle' : decide (i <= sz) = true := by simpa using hle
       have e2 : xs2 = [x] := by rw [<- H2.out]; exact if_pos hle
       subst e2
       obtain ⟨fn, tmps, assign, body, hyy, hR⟩ := HYY.out.at_ 0 (pre ++ xs1) x wc.drew hGx (hJ.1 _ _ hj1) (pre_two HN.out)
       obtain ⟨d0, d1, hit⟩ := node_facts2 hb1
       obtain ⟨m0, m1, m2, m3, m4, m5, m6⟩ := hit
       clear HIR HYY H2
       simp only [Pc.cells, partC] at hyy
       refine (wpIn_wide (n := 0)).1 ?_
       gi_region_with (first | (refine ⟨rfl, ?_⟩; refine hR.mono ?_; rintro e w1 ⟨b2, rfl, hyp2⟩))
       all_goals
        gi_wp2
        gi_meet
        exact ⟨b2, rfl, hyp1.more (hyp2.from_ (KT.drew _))⟩
      ·have hle' : decide (i <= sz) = false := by simpa using hle
       have e2 : xs2 = [] := by rw [<- H2.out]; exact if_neg hle
       subst e2
       clear HIR HYY H2
       go_quiet (fail)
       all_goals
        go_wp2_with fail
        go_meet
        exact ⟨true, rfl, hyp1.more (YP.nil (hJ.2 _ _ _ hj1) (KT.drewN _ _))⟩
     case rest =>
      obtain ⟨b2, rfl, hyp2⟩ := hcut
      cases b2
      ·go_wp2_with fail
       go_ret
       exact ⟨false, rfl, hyp2.no _⟩
      ·have hj2 := (hyp2.1 rfl).1
       have hk2 := (hyp2.1 rfl).2
       have hb2 := hk2.2 _ _ _ (by decide) hb
       have hw2 := hk2.2 _ _ _ (by decide) hw
       have hy2 := hk2.2 _ _ _ (by decide) hy
       have hnr2 := hk2.node _ _ hnr
       have c0 := hb2.cell 1
       have b0 := hw2.cell 0
       simp [nodeC] at c0 b0
       have hc := HIR.out wc.drew ((KT.drew _).node _ _ hnr2) hGr hw2 hy2 k2 k3 (by have := HL3.out; omega) (hJ.1 _ _ hj2) (pre_three HN.out)
       have he := Tryz.call74
       clear hb hw hy hnr hb1 hw1 hy1 hnr1 hj1 hyp1 HIR HYY hnr2
       by_cases hjj : 0 < i - sz - 1
       all_goals
        first
         | (have hj0 : j = i - sz - 1 := by have := HJ1.out; omega)
         | (have hj0 : j = 0 := by have := HJ1.out; omega)
        rw [hj0] at hc
        have HCC := Lib.hid hc
        have x0 : IntKind.i64.wrap (i - sz) = i - sz := IntWalk.i64_in _ (by omega)
        have x1 : IntKind.i64.wrap (i - sz - 1) = i - sz - 1 := IntWalk.i64_in _ (by omega)
        clear hc hj0 HJ1 k2 k3
        go_wp2_with fail
        go_still_tail 10, (by kernel_rfl)
        all_goals
         go_wp2_with (first | (go_at_call 74; refine (HCC.out).mono ?_; rintro e w1 ⟨b3, rfl, hyp3⟩))
         go_ret
         exact ⟨b3, rfl, by have := hyp2.more (hyp3.from_ (KT.drew _)); simpa only [List.append_assoc] using this⟩
end Go.Proofs.YtflhiohjikgedaaGreatDoor
