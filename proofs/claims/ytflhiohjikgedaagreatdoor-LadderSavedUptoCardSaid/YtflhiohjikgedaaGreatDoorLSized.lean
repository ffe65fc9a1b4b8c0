/-
  An atom's size is told by the atom: a text is its atoms and tags (plain).
-/
import Derived.Test.YtflhiohjikgedaaGreatDoorLSums
set_option linter.unusedSimpArgs false
set_option linter.unusedVariables false
set_option maxRecDepth 100000
set_option maxHeartbeats 32000000
namespace Go.Proofs.YtflhiohjikgedaaGreatDoor
open Go.RowKit
def singleF (a z : Int) : Sums := { atoms := 1, bytes := z, breaks := if a = 10 \/ a = 13 then 1 else 0, lf := a == 10, cr := a == 13 }
theorem single_any (a z : Int) (w : World) :
  Calls Tryz.prog 60 #[.int .i64 a, .int .i64 z] w fun e w' => e = .returned (.agg (singleF a z).cells) /\ Below w.heap.size w w' := by
 by_cases h1 : a = 10
 ·subst h1
  go_enter Tryz.func60, Tryz.ntmps60
  go_wp2
  refine bodyPost_ret (v := .agg (singleF 10 z).cells) (by simp [results, Tryz.results60, go_sem, singleF, Sums.cells]) rfl ⟨rfl, ?_⟩
  repeat (first | exact Below.refl _ _ | apply balloc)
 by_cases h2 : a = 13
 ·subst h2
  go_enter Tryz.func60, Tryz.ntmps60
  go_wp2
  refine bodyPost_ret (v := .agg (singleF 13 z).cells) (by simp [results, Tryz.results60, go_sem, singleF, Sums.cells]) rfl ⟨rfl, ?_⟩
  repeat (first | exact Below.refl _ _ | apply balloc)
 ·have q1 : (a == 10) = false := by rw [beq_eq_false_iff_ne]; exact h1
  have q2 : (a == 13) = false := by rw [beq_eq_false_iff_ne]; exact h2
  have e : singleF a z = ⟨1, z, 0, false, false⟩ := by unfold singleF; rw [if_neg (by omega), q1, q2]
  rw [e]
  clear h1 h2 e
  go_enter Tryz.func60, Tryz.ntmps60
  go_wp2
  refine bodyPost_ret (v := .agg (Sums.mk 1 z 0 false false).cells) (by simp [results, Tryz.results60, go_sem, Sums.cells]) rfl ⟨rfl, ?_⟩
  repeat (first | exact Below.refl _ _ | apply balloc)
theorem size8_bd (l : List Int) (h : 0 < l.length) : 1 <= size8 l /\ size8 l <= l.length := by
 unfold size8
 have h1 := rowHave_le l h
 have h2 := bdN_le (l.getD 0 0)
 split
 ·omega
 ·rename_i hr
  unfold rawF at hr
  simp only [decide_eq_true_eq] at hr
  omega
theorem size16_bd (o : Int) (l : List Int) (h : 0 < l.length) : 1 <= size16 o l /\ size16 o l <= l.length := by
 unfold size16
 split
 ·omega
 ·split
  ·rename_i hp
   unfold pairF at hp
   simp only [Bool.and_eq_true, decide_eq_true_eq] at hp
   omega
  ·omega
theorem sizeAt_bd (enc : Int) (l : List Int) (h : 0 < l.length) : 1 <= sizeAt enc l /\ sizeAt enc l <= l.length := by
 unfold sizeAt
 split
 ·exact size8_bd l h
 ·split
  ·exact size16_bd 0 l h
  ·split
   ·exact size16_bd 1 l h
   ·omega
def decF (enc : Int) : Nat -> List Int -> List (Int × Int)
 | 0, _ => []
 | f + 1, l => if l.length = 0 then [] else (atomAt enc l, sizeAt enc l) :: decF enc f (l.drop (sizeAt enc l).toNat)
theorem decF_nil (enc : Int) (f : Nat) (l : List Int) (h : l.length = 0) : decF enc f l = [] := by cases f <;> simp [decF, h]
theorem decF_fuel (enc : Int) : ∀ (f f' : Nat) (l : List Int), l.length <= f -> l.length <= f' -> decF enc f l = decF enc f' l := by
 intro f
 induction f with
 | zero => intro f' l h h'; rw [decF_nil enc f' l (by omega)]; rfl
 | succ f ih =>
  intro f' l h h'
  cases f' with
  | zero => rw [decF_nil enc (f + 1) l (by omega)]; rfl
  | succ f' =>
   simp only [decF]
   split
   ·rfl
   ·have := sizeAt_bd enc l (by omega)
    rw [ih f' _ (by rw [List.length_drop]; omega) (by rw [List.length_drop]; omega)]
def dec (enc : Int) (l : List Int) : List (Int × Int) := decF enc l.length l
theorem dec_nil (enc : Int) : dec enc [] = [] := rfl
theorem dec_cons (enc : Int) (l : List Int) (h : 0 < l.length) : dec enc l = (atomAt enc l, sizeAt enc l) :: dec enc (l.drop (sizeAt enc l).toNat) := by
 unfold dec
 have := sizeAt_bd enc l h
 rw [decF_fuel enc l.length (l.length + 1) l (by omega) (by omega)]
 simp only [decF]
 rw [if_neg (by omega), decF_fuel enc l.length _ _ (by rw [List.length_drop]; omega) (Nat.le_refl _)]
def zeroS : Sums := ⟨0, 0, 0, false, false⟩
def stepS (s : Sums) (d : Int × Int) : Sums := addF s (singleF d.1 d.2)
def sumsOf (ds : List (Int × Int)) : Sums := ds.foldl stepS zeroS
theorem stepS_bd (s : Sums) (a z : Int) (h1 : 0 <= s.atoms) (h2 : 0 <= s.breaks) (hz : 0 <= z) (h3 : s.atoms = 0 -> s.bytes = 0) :
  (stepS s (a, z)).atoms = s.atoms + 1 /\ (stepS s (a, z)).bytes = s.bytes + z /\ 0 <= (stepS s (a, z)).breaks /\ (s.breaks <= s.atoms -> (stepS s (a, z)).breaks <= s.atoms + 1) := by
 by_cases h : s.atoms = 0
 ·have := h3 h
  simp only [stepS, addF, singleF, h, if_true]
  refine ⟨by omega, by omega, ?_, fun _ => ?_⟩ <;> split <;> omega
 ·have e : stepS s (a, z) = { atoms := s.atoms + 1, bytes := s.bytes + z, breaks := if (s.cr && a == 10) = true then s.breaks + (if a = 10 \/ a = 13 then 1 else 0) - 1 else s.breaks + (if a = 10 \/ a = 13 then 1 else 0), lf := s.lf, cr := a == 13 } := by
   unfold stepS addF
   rw [if_neg h, if_neg (show ¬ (singleF a z).atoms = 0 by simp [singleF])]
   rfl
  rw [e]
  dsimp only
  refine ⟨rfl, rfl, ?_, ?_⟩
  ·split
   ·rename_i hc
    simp only [Bool.and_eq_true, beq_iff_eq] at hc
    rw [if_pos (.inl hc.2)]; omega
   ·split <;> omega
  ·intro _
   split <;> split <;> omega
def sz8 (a : Int) : Int := if a < -256 \/ (-129 < a /\ a < 0) \/ 1114111 < a \/ (55296 <= a /\ a <= 57343) then 0 else if a < 128 then 1 else if a < 2048 then 2 else if a < 65536 then 3 else 4
def sz16 (a : Int) : Int := if a < -256 \/ 1114111 < a then 0 else if a < 0 then 1 else if a < 65536 then 2 else 4
def szL (a : Int) : Int := if a < 0 \/ 255 < a then 0 else 1
def szA (enc a : Int) : Int := if enc = 1 then sz8 a else if enc = 2 then sz16 a else if enc = 3 then sz16 a else szL a
def put8 (a : Int) : List Int :=
 if a < 0 then [-1 - a] else if a < 128 then [a] else if a < 2048 then [192 + a / 64, 128 + a % 64] else if a < 65536 then [224 + a / 4096, 128 + a / 64 % 64, 128 + a % 64] else [240 + a / 262144, 128 + a / 4096 % 64, 128 + a / 64 % 64, 128 + a % 64]
def half16 (o u : Int) : List Int := if o = 0 then [u % 256, u / 256 % 256] else [u / 256 % 256, u % 256]
def put16 (o a : Int) : List Int := if a < 0 then [-1 - a] else if a < 65536 then half16 o a else half16 o (55296 + (a - 65536) / 1024) ++ half16 o (56320 + a % 1024)
def putA (enc a : Int) : List Int := if enc = 1 then put8 a else if enc = 2 then put16 0 a else if enc = 3 then put16 1 a else [a]
def Plain (a : Int) : Prop := 0 <= a /\ ¬ (55296 <= a /\ a <= 57343)
theorem put8_len (a : Int) (h : 0 < sz8 a) : ((put8 a).length : Int) = sz8 a /\ Byt (put8 a) := by
 unfold sz8 at h ⊢
 unfold put8
 split at h
 ·omega
 ·rename_i h0
  rw [if_neg h0]
  (repeat' split) <;> (refine ⟨by simp <;> omega, fun x hx => ?_⟩; simp at hx; omega)
theorem half16_len (o u : Int) : (half16 o u).length = 2 /\ Byt (half16 o u) := by
 unfold half16
 split <;> (refine ⟨rfl, fun x hx => ?_⟩; simp at hx; omega)
theorem put16_len (o a : Int) (h : 0 < sz16 a) : ((put16 o a).length : Int) = sz16 a /\ Byt (put16 o a) := by
 unfold sz16 at h ⊢
 unfold put16
 split at h
 ·omega
 ·rename_i h0
  rw [if_neg h0]
  have h1 := half16_len o a
  have h2 := half16_len o (55296 + (a - 65536) / 1024)
  have h3 := half16_len o (56320 + a % 1024)
  split
  ·refine ⟨rfl, fun x hx => ?_⟩
   simp at hx
   omega
  ·split
   ·exact ⟨by rw [h1.1]; rfl, h1.2⟩
   ·refine ⟨by rw [List.length_append, h2.1, h3.1]; rfl, fun x hx => ?_⟩
    rcases List.mem_append.1 hx with hx | hx
    ·exact h2.2 x hx
    ·exact h3.2 x hx
theorem putA_len (enc a : Int) (h : 0 < szA enc a) : ((putA enc a).length : Int) = szA enc a /\ Byt (putA enc a) := by
 unfold szA at h ⊢
 unfold putA
 split
 ·rename_i h1; rw [if_pos h1] at h; exact put8_len a h
 ·rename_i h1
  rw [if_neg h1] at h
  split
  ·rename_i h2; rw [if_pos h2] at h; exact put16_len 0 a h
  ·rename_i h2
   rw [if_neg h2] at h
   split
   ·rename_i h3; rw [if_pos h3] at h; exact put16_len 1 a h
   ·rename_i h3
    rw [if_neg h3] at h
    unfold szL at h ⊢
    split at h
    ·omega
    ·rename_i h4
     rw [if_neg h4]
     refine ⟨rfl, fun x hx => ?_⟩
     simp at hx
     omega
theorem first8_put (a : Int) (rest : List Int) (h : 0 < sz8 a) (hp : Plain a \/ rest = []) : atom8 (put8 a ++ rest) = a /\ size8 (put8 a ++ rest) = sz8 a := by
 unfold Plain at hp
 unfold sz8 at h ⊢
 split at h
 ·omega
 ·rename_i h0
  rw [if_neg h0]
  unfold put8
  by_cases h1 : a < 0
  ·rw [if_pos h1, if_pos (by omega)]
   obtain rfl : rest = [] := hp.resolve_left (by omega)
   obtain ⟨b, hb⟩ : ∃ b, -1 - a = b := ⟨_, rfl⟩
   have hr : rawF [b] = true := by
    unfold rawF rowHave
    rw [decide_eq_true_eq]
    simp only [List.getD_cons_zero, List.length_cons, List.length_nil]
    have := bdN_le b
    by_cases h2 : bdN b < 2
    ·left
     unfold bdN at h2 ⊢
     (repeat' split at h2) <;> (repeat' split) <;> omega
    ·right
     rw [if_neg h2, if_pos (.inl (by omega))]
     omega
   unfold atom8 size8
   rw [hb]
   simp only [List.append_nil]
   rw [hr]
   simp
   omega
  ·rw [if_neg h1]
   have hsur : ¬ (55296 <= a /\ a <= 57343) := by omega
   by_cases h2 : a < 128
   ·rw [if_pos h2, if_pos h2]
    have e1 : bdN a = 1 := by unfold bdN; rw [if_pos h2]
    have hr : rawF ([a] ++ rest) = false := by
     unfold rawF rowHave
     simp only [List.cons_append, List.nil_append, List.getD_cons_zero, e1]
     simp
    unfold atom8 size8 valF8
    rw [hr]
    simp [e1, leadF]
   ·rw [if_neg h2, if_neg h2]
    by_cases h3 : a < 2048
    ·rw [if_pos h3, if_pos h3]
     have e1 : bdN (192 + a / 64) = 2 := by unfold bdN; rw [if_neg (by omega), if_neg (by omega), if_pos (by omega)]
     have e2 : bdLo (192 + a / 64) = 128 := by unfold bdLo; rw [if_neg (by omega), if_pos (by omega)]
     have e3 : bdHi (192 + a / 64) = 191 := by unfold bdHi; rw [if_neg (by omega), if_pos (by omega)]
     have hr : rawF ([192 + a / 64, 128 + a % 64] ++ rest) = false := by
      unfold rawF rowHave
      simp only [List.cons_append, List.nil_append, List.getD_cons_zero, List.getD_cons_succ, e1, e2, e3, List.length_cons]
      rw [if_neg (by omega), if_neg (by omega)]
      simp only [decide_eq_false_iff_not]
      omega
     unfold atom8 size8 valF8
     rw [hr]
     simp only [List.cons_append, List.nil_append, List.getD_cons_zero, e1, List.drop_succ_cons, List.drop_zero, Bool.false_eq_true, if_false]
     simp [leadF, goOn]
     omega
    ·rw [if_neg h3, if_neg h3]
     by_cases h4 : a < 65536
     ·rw [if_pos h4, if_pos h4]
      obtain ⟨c, hc⟩ : ∃ c, 224 + a / 4096 = c := ⟨_, rfl⟩
      obtain ⟨d, hd⟩ : ∃ d, 128 + a / 64 % 64 = d := ⟨_, rfl⟩
      have e1 : bdN c = 3 := by unfold bdN; rw [if_neg (by omega), if_neg (by omega), if_neg (by omega), if_pos (by omega)]
      have e2 : bdLo c <= d := by unfold bdLo; (repeat' split) <;> omega
      have e3 : d <= bdHi c := by unfold bdHi; (repeat' split) <;> omega
      have hr : rawF ([c, d, 128 + a % 64] ++ rest) = false := by
       unfold rawF rowHave
       simp only [List.cons_append, List.nil_append, List.getD_cons_zero, List.getD_cons_succ, e1, List.length_cons, List.drop_succ_cons, List.drop_zero]
       rw [if_neg (by omega), if_neg (by omega), show ((3 : Int) - 2).toNat = 1 by rfl]
       rw [decide_eq_false_iff_not]
       simp only [contF]
       rw [if_pos (by omega)]
       omega
      rw [hc, hd]
      unfold atom8 size8 valF8
      rw [hr]
      simp only [List.cons_append, List.nil_append, List.getD_cons_zero, e1, List.drop_succ_cons, List.drop_zero, Bool.false_eq_true, if_false]
      simp [leadF, goOn]
      omega
     ·rw [if_neg h4, if_neg h4]
      obtain ⟨c, hc⟩ : ∃ c, 240 + a / 262144 = c := ⟨_, rfl⟩
      obtain ⟨d, hd⟩ : ∃ d, 128 + a / 4096 % 64 = d := ⟨_, rfl⟩
      have e1 : bdN c = 4 := by unfold bdN; rw [if_neg (by omega), if_neg (by omega), if_neg (by omega), if_neg (by omega), if_pos (by omega)]
      have e2 : bdLo c <= d := by unfold bdLo; (repeat' split) <;> omega
      have e3 : d <= bdHi c := by unfold bdHi; (repeat' split) <;> omega
      have hr : rawF ([c, d, 128 + a / 64 % 64, 128 + a % 64] ++ rest) = false := by
       unfold rawF rowHave
       simp only [List.cons_append, List.nil_append, List.getD_cons_zero, List.getD_cons_succ, e1, List.length_cons, List.drop_succ_cons, List.drop_zero]
       rw [if_neg (by omega), if_neg (by omega), show ((4 : Int) - 2).toNat = 2 by rfl]
       rw [decide_eq_false_iff_not]
       simp only [contF]
       rw [if_pos (by omega), if_pos (by omega)]
       omega
      rw [hc, hd]
      unfold atom8 size8 valF8
      rw [hr]
      simp only [List.cons_append, List.nil_append, List.getD_cons_zero, e1, List.drop_succ_cons, List.drop_zero, Bool.false_eq_true, if_false]
      simp [leadF, goOn]
      omega
theorem unit_half (o u : Int) (rest : List Int) (ho : o = 0 \/ o = 1) (h0 : 0 <= u) (h1 : u < 65536) : unitF o (half16 o u ++ rest) = u := by
 unfold unitF half16
 rcases ho with rfl | rfl
 ·simp
  omega
 ·simp
  omega
theorem first16_put (o a : Int) (rest : List Int) (ho : o = 0 \/ o = 1) (h : 0 < sz16 a) (hp : Plain a \/ rest = []) : atom16 o (put16 o a ++ rest) = a /\ size16 o (put16 o a ++ rest) = sz16 a := by
 unfold Plain at hp
 unfold sz16 at h ⊢
 split at h
 ·omega
 ·rename_i h0
  rw [if_neg h0]
  unfold put16
  by_cases h1 : a < 0
  ·rw [if_pos h1, if_pos h1]
   obtain rfl : rest = [] := hp.resolve_left (by omega)
   unfold atom16 size16
   simp
   omega
  ·rw [if_neg h1, if_neg h1]
   by_cases h2 : a < 65536
   ·rw [if_pos h2, if_pos h2]
    have hu := unit_half o a rest ho (by omega) h2
    have hl := (half16_len o a).1
    have hpr : pairF o (half16 o a ++ rest) = false := by
     unfold pairF
     rw [hu]
     rcases hp with hp | hp
     ·have : highF a = false := by unfold highF; rw [decide_eq_false_iff_not]; omega
      rw [this]
      rfl
     ·subst hp
      rw [List.append_nil, hl]
      simp
    unfold atom16 size16
    rw [hpr, hu, List.length_append, hl, if_neg (show ¬ 2 + rest.length = 1 by omega), if_neg (show ¬ 2 + rest.length = 1 by omega)]
    simp
   ·rw [if_neg h2, if_neg h2]
    obtain ⟨u, hu⟩ : ∃ u, 55296 + (a - 65536) / 1024 = u := ⟨_, rfl⟩
    obtain ⟨v, hv⟩ : ∃ v, 56320 + a % 1024 = v := ⟨_, rfl⟩
    rw [hu, hv]
    have hl1 := (half16_len o u).1
    have hl2 := (half16_len o v).1
    have e1 := unit_half o u (half16 o v ++ rest) ho (by omega) (by omega)
    have e2 := unit_half o v rest ho (by omega) (by omega)
    have e3 : (half16 o u ++ half16 o v ++ rest).drop 2 = half16 o v ++ rest := by
     rw [List.append_assoc, List.drop_append, hl1, List.drop_eq_nil_of_le (by omega)]
     simp
    have hpr : pairF o (half16 o u ++ half16 o v ++ rest) = true := by
     unfold pairF
     rw [e3, List.append_assoc, e1, e2, List.length_append, List.length_append, hl1, hl2]
     have q1 : highF u = true := by unfold highF; rw [decide_eq_true_eq]; omega
     have q2 : lowF v = true := by unfold lowF; rw [decide_eq_true_eq]; omega
     rw [q1, q2]
     simp
     omega
    unfold atom16 size16
    rw [hpr, e3, e2, List.append_assoc, e1, List.length_append, List.length_append, hl1, hl2, if_neg (show ¬ 2 + (2 + rest.length) = 1 by omega), if_neg (show ¬ 2 + (2 + rest.length) = 1 by omega)]
    simp
    omega
theorem first_put (enc a : Int) (rest : List Int) (he : enc = 1 \/ enc = 2 \/ enc = 3 \/ enc = 4) (h : 0 < szA enc a) (hp : Plain a \/ rest = []) : atomAt enc (putA enc a ++ rest) = a /\ sizeAt enc (putA enc a ++ rest) = szA enc a := by
 unfold szA at h ⊢
 unfold atomAt sizeAt putA
 rcases he with rfl | rfl | rfl | rfl
 ·exact first8_put a rest h hp
 ·exact first16_put 0 a rest (.inl rfl) h hp
 ·exact first16_put 1 a rest (.inr rfl) h hp
 ·refine ⟨?_, ?_⟩
  ·simp [atomL]
  ·simp at h ⊢
   unfold szL at h ⊢
   split at h
   ·omega
   ·rename_i h0; rw [if_neg h0]
theorem dec_put (enc a : Int) (rest : List Int) (he : enc = 1 \/ enc = 2 \/ enc = 3 \/ enc = 4) (h : 0 < szA enc a) (hp : Plain a \/ rest = []) : dec enc (putA enc a ++ rest) = (a, szA enc a) :: dec enc rest := by
 have h1 := first_put enc a rest he h hp
 have h2 := putA_len enc a h
 rw [dec_cons enc _ (by rw [List.length_append]; omega), h1.1, h1.2]
 congr 2
 rw [List.drop_append]
 rw [show (szA enc a).toNat = (putA enc a).length by omega]
 simp
def putL (enc : Int) (xs : List Int) : List Int := xs.flatMap (putA enc)
theorem putL_nil (enc : Int) : putL enc [] = [] := rfl
theorem putL_cons (enc a : Int) (xs : List Int) : putL enc (a :: xs) = putA enc a ++ putL enc xs := List.flatMap_cons
theorem putL_app (enc : Int) (xs bs : List Int) : putL enc (xs ++ bs) = putL enc xs ++ putL enc bs := List.flatMap_append
def Fit (enc : Int) (xs : List Int) : Prop := ∀ a ∈ xs, 0 < szA enc a
def withSz (enc : Int) (xs : List Int) : List (Int × Int) := xs.map fun a => (a, szA enc a)
theorem dec_putL (enc : Int) (he : enc = 1 \/ enc = 2 \/ enc = 3 \/ enc = 4) : ∀ xs : List Int, Fit enc xs -> (∀ a ∈ xs, Plain a) -> dec enc (putL enc xs) = withSz enc xs := by
 intro xs
 induction xs with
 | nil => intro _ _; rfl
 | cons a xs ih =>
  intro hf hp
  rw [putL_cons, dec_put enc a _ he (hf a List.mem_cons_self) (.inl (hp a List.mem_cons_self)), ih (fun x hx => hf x (List.mem_cons_of_mem _ hx)) (fun x hx => hp x (List.mem_cons_of_mem _ hx))]
  rfl
theorem dec_put1 (enc a : Int) (he : enc = 1 \/ enc = 2 \/ enc = 3 \/ enc = 4) (h : 0 < szA enc a) : dec enc (putA enc a) = [(a, szA enc a)] := by
 have := dec_put enc a [] he h (.inr rfl)
 rwa [List.append_nil] at this
theorem putL_byt (enc : Int) (xs : List Int) (hf : Fit enc xs) : Byt (putL enc xs) := by
 intro x hx
 obtain ⟨a, ha, hx⟩ := List.mem_flatMap.1 hx
 exact (putA_len enc a (hf a ha)).2 x hx
theorem putL_len (enc : Int) (xs : List Int) (hf : Fit enc xs) : ((putL enc xs).length : Int) = ((withSz enc xs).map Prod.snd).sum := by
 induction xs with
 | nil => rfl
 | cons a xs ih =>
  have h1 := (putA_len enc a (hf a List.mem_cons_self)).1
  have h2 := ih (fun x hx => hf x (List.mem_cons_of_mem _ hx))
  rw [putL_cons, List.length_append]
  unfold withSz at h2 ⊢
  rw [List.map_cons, List.map_cons, List.sum_cons, <- h2]
  dsimp only
  omega
theorem size8_atom (l : List Int) (hB : Byt l) (h0 : 0 < l.length) : size8 l = sz8 (atom8 l) := by
 cases l with
 | nil => simp at h0
 | cons b l =>
  have hb := hB b List.mem_cons_self
  have hr0 : rawF (b :: l) = decide (bdN b = 0 \/ rowHave (b :: l) < bdN b) := by unfold rawF; rfl
  unfold size8 atom8
  simp only [List.getD_cons_zero]
  cases hr : rawF (b :: l) with
  | true =>
   rw [hr0, decide_eq_true_eq] at hr
   have hge : 128 <= b := by
    rcases Int.lt_or_le b 128 with h | h
    ·exfalso
     have e1 : bdN b = 1 := by unfold bdN; rw [if_pos h]
     have e2 : rowHave (b :: l) = 1 := by unfold rowHave; simp only [List.getD_cons_zero]; rw [e1]; rfl
     omega
    ·exact h
   simp only [if_true]
   unfold sz8
   rw [if_neg (by omega), if_pos (by omega)]
  | false =>
   rw [hr0, decide_eq_false_iff_not, not_or] at hr
   obtain ⟨hr1, hr2⟩ := hr
   simp only [Bool.false_eq_true, if_false]
   unfold valF8
   simp only [List.getD_cons_zero, List.drop_succ_cons, List.drop_zero]
   unfold rowHave at hr2
   simp only [List.getD_cons_zero, List.getD_cons_succ, List.length_cons, List.drop_succ_cons] at hr2
   have hN : bdN b = 1 \/ bdN b = 2 \/ bdN b = 3 \/ bdN b = 4 := by have := bdN_le b; omega
   by_cases h1 : bdN b = 1
   ·have hlt : b < 128 := by unfold bdN at h1; (repeat' split at h1) <;> omega
    rw [h1]
    simp [leadF]
    unfold sz8
    rw [if_neg (by omega), if_pos hlt]
   ·rw [if_neg (by omega)] at hr2
    split at hr2
    ·omega
    ·rename_i hc
     cases l with
     | nil => simp at hc
     | cons c l =>
      have hc2 := hB c (by simp)
      simp only [List.getD_cons_zero, List.length_cons] at hc hr2
      simp only [List.drop_succ_cons, List.drop_zero] at hr2
      have h2c : bdLo b <= c /\ c <= bdHi b := by omega
      obtain ⟨hlo, hhi⟩ := h2c
      clear hc
      by_cases h2 : bdN b = 2
      ·rw [h2] at hr2 ⊢
       have hlt : 194 <= b /\ b < 224 := by unfold bdN at h2; (repeat' split at h2) <;> omega
       have e2 : bdLo b = 128 := by unfold bdLo; rw [if_neg (by omega), if_pos (by omega)]
       have e3 : bdHi b = 191 := by unfold bdHi; rw [if_neg (by omega), if_pos (by omega)]
       simp [leadF, goOn]
       unfold sz8
       rw [if_neg (by omega), if_neg (by omega), if_pos (by omega)]
      ·cases l with
       | nil =>
        exfalso
        have : contF (bdN b - 2).toNat ([] : List Int) = 0 := by cases (bdN b - 2).toNat <;> rfl
        rw [this] at hr2
        omega
       | cons d l =>
        have hd2 := hB d (by simp)
        by_cases h3 : bdN b = 3
        ·rw [h3] at hr2 ⊢
         rw [show ((3 : Int) - 2).toNat = 1 by rfl] at hr2
         simp only [contF] at hr2
         have hd3 : 128 <= d /\ d < 192 := by
          split at hr2
          ·assumption
          ·omega
         have hlt : 224 <= b /\ b < 240 := by unfold bdN at h3; (repeat' split at h3) <;> omega
         simp [leadF, goOn]
         have k1 : b = 224 -> 160 <= c := fun h => by subst h; unfold bdLo at hlo; simp at hlo; exact hlo
         have k2 : b = 237 -> c <= 159 := fun h => by subst h; unfold bdHi at hhi; simp at hhi; exact hhi
         have k3 : 128 <= c := by unfold bdLo at hlo; (repeat' split at hlo) <;> omega
         have k4 : c <= 191 := by unfold bdHi at hhi; (repeat' split at hhi) <;> omega
         have hval : (b % 16 * 64 + c % 64) * 64 + d % 64 = (b - 224) * 4096 + (c - 128) * 64 + (d - 128) := by omega
         rw [hval]
         have m1 : 2048 <= (b - 224) * 4096 + (c - 128) * 64 + (d - 128) := by
          by_cases h : b = 224
          ·have := k1 h; omega
          ·omega
         have m2 : (b - 224) * 4096 + (c - 128) * 64 + (d - 128) < 65536 := by omega
         have m3 : ¬ (55296 <= (b - 224) * 4096 + (c - 128) * 64 + (d - 128) /\ (b - 224) * 4096 + (c - 128) * 64 + (d - 128) <= 57343) := by
          intro hx
          have : b = 237 := by omega
          have := k2 this
          omega
         unfold sz8
         rw [if_neg (by omega), if_neg (by omega), if_neg (by omega), if_pos (by omega)]
        ·have h4 : bdN b = 4 := by omega
         rw [h4] at hr2 ⊢
         rw [show ((4 : Int) - 2).toNat = 2 by rfl] at hr2
         cases l with
         | nil =>
          exfalso
          simp only [contF] at hr2
          split at hr2 <;> omega
         | cons e l =>
          have he2 := hB e (by simp)
          simp only [contF] at hr2
          have hd3 : (128 <= d /\ d < 192) /\ 128 <= e /\ e < 192 := by
           split at hr2
           ·split at hr2
            ·exact ⟨by assumption, by assumption⟩
            ·omega
           ·omega
          have hlt : 240 <= b /\ b <= 244 := by unfold bdN at h4; (repeat' split at h4) <;> omega
          simp [leadF, goOn]
          have k1 : b = 240 -> 144 <= c := fun h => by subst h; unfold bdLo at hlo; simp at hlo; exact hlo
          have k2 : b = 244 -> c <= 143 := fun h => by subst h; unfold bdHi at hhi; simp at hhi; exact hhi
          have k3 : 128 <= c := by unfold bdLo at hlo; (repeat' split at hlo) <;> omega
          have k4 : c <= 191 := by unfold bdHi at hhi; (repeat' split at hhi) <;> omega
          have hval : ((b % 8 * 64 + c % 64) * 64 + d % 64) * 64 + e % 64 = (b - 240) * 262144 + (c - 128) * 4096 + (d - 128) * 64 + (e - 128) := by omega
          rw [hval]
          have m1 : 65536 <= (b - 240) * 262144 + (c - 128) * 4096 + (d - 128) * 64 + (e - 128) := by
           by_cases h : b = 240
           ·have := k1 h; omega
           ·omega
          have m2 : (b - 240) * 262144 + (c - 128) * 4096 + (d - 128) * 64 + (e - 128) <= 1114111 := by
           by_cases h : b = 244
           ·have := k2 h; omega
           ·omega
          unfold sz8
          rw [if_neg (by omega), if_neg (by omega), if_neg (by omega), if_neg (by omega)]
theorem size16_atom (o : Int) (l : List Int) (hB : Byt l) (h0 : 0 < l.length) : size16 o l = sz16 (atom16 o l) := by
 have hu := unitF_bd o l hB
 have hv := unitF_bd o (l.drop 2) (hB.drop 2)
 have hb := hB.at_ 0
 unfold size16 atom16 sz16
 by_cases h1 : l.length = 1
 ·rw [if_pos h1, if_pos h1, if_neg (by omega), if_pos (by omega)]
 ·rw [if_neg h1, if_neg h1]
  cases pairF o l with
  | true => simp only [if_true]; rw [if_neg (by omega), if_neg (by omega), if_neg (by omega)]
  | false => simp only [Bool.false_eq_true, if_false]; rw [if_neg (by omega), if_neg (by omega), if_pos (by omega)]
theorem size_atom (enc : Int) (l : List Int) (he : enc = 1 \/ enc = 2 \/ enc = 3 \/ enc = 4) (hB : Byt l) (h0 : 0 < l.length) : sizeAt enc l = szA enc (atomAt enc l) := by
 unfold sizeAt atomAt szA
 rcases he with rfl | rfl | rfl | rfl
 ·exact size8_atom l hB h0
 ·exact size16_atom 0 l hB h0
 ·exact size16_atom 1 l hB h0
 ·have hb := hB.at_ 0
  simp [atomL]
  unfold szL
  rw [if_neg (by simp at hb; omega)]
theorem dec_sized (enc : Int) (he : enc = 1 \/ enc = 2 \/ enc = 3 \/ enc = 4) : ∀ (n : Nat) (l : List Int), l.length <= n -> Byt l -> dec enc l = withSz enc ((dec enc l).map Prod.fst) := by
 intro n
 induction n with
 | zero =>
  intro l h _
  have e : l = [] := List.eq_nil_of_length_eq_zero (by omega)
  subst e
  rfl
 | succ n ih =>
  intro l h hB
  by_cases h0 : 0 < l.length
  ·have hz := sizeAt_bd enc l h0
   rw [dec_cons enc l h0]
   have := ih (l.drop (sizeAt enc l).toNat) (by rw [List.length_drop]; omega) (hB.drop _)
   unfold withSz at this ⊢
   rw [List.map_cons, List.map_cons, <- this]
   rw [size_atom enc l he hB h0]
  ·have e : l = [] := List.eq_nil_of_length_eq_zero (by omega)
   subst e
   rfl
end Go.Proofs.YtflhiohjikgedaaGreatDoor
