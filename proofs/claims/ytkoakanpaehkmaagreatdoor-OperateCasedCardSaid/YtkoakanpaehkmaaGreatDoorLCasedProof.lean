/-
  The tables of great and small letters (plain): what greatOf and smallOf tell; twice is once. What a change of case makes of a text (plain). operate.Shift's act, walked through. operate.Shift on a desk whose book changes. operate.Case's act: what a change of case takes, and what it leaves. operate.Case's act, walked through. glyph.Upper, glyph.Lower: the tables in memory; greatOf and smallOf walked through. operate.Case on a desk whose book changes. What the law of cases asks beside Case: how many groups there are; what stays. Drawn regions of the third kind: heavy operations in one line, reads, and calls that answer one value and change nothing that was there: those stand in no order to the heavy ones (an allocation that may be drawn at any time). Drawn regions of the fourth kind: reads, operations that only add blocks (their values are known by a predicate that adding keeps), and at the end barriers: operations that may do anything, or panic. The walk of OperateCased. OperateCased answers true at every input, and writes nothing that was there; the three tables of letters hold what the program's text lays in them (the card ties them to it). Conditions: none. (The frame of the row's proof follows the kit's proof-skeleton.mjs and the worked card of the toy mapy; the walk is cased_any of the text Cased.)
-/
import Derived.Test.YtkoakanpaehkmaaGreatDoorLHeavy
import Derived.Test.YtkoakanpaehkmaaGreatDoorLShift1
import Derived.Test.YtkoakanpaehkmaaGreatDoorLCluster
import Derived.Laws.Rows
import Derived.Test.YtkoakanpaehkmaaGreatDoorLLawKit
import Derived.Test.YtkoakanpaehkmaaGreatDoorRows
import Derived.Test.YtkoakanpaehkmaaGreatDoorCards
import Derived.Test.YtkoakanpaehkmaaGreatDoorTie
import Derived.WalkKit
import Derived.ProofKit
import Derived.OpenShut
import Derived.ShutString
import Derived.ChangeOld
import Derived.Below
import Derived.LaidMore
import Derived.Lib.LaidTab
import Derived.SevenTiedAt
import Derived.Stop.Joined
set_option linter.unusedSimpArgs false
set_option linter.unusedVariables false
set_option maxRecDepth 100000
set_option maxHeartbeats 32000000
namespace Go.Proofs.YtkoakanpaehkmaaGreatDoor
open Go.RowKit
def oneT : List (Int × Int × Int) := [(181, 924, 181), (305, 73, 305), (383, 83, 383), (962, 931, 962), (304, 304, 105), (7838, 7838, 223), (8486, 8486, 969), (8490, 8490, 107), (8491, 8491, 229)]
def disT : List (Int × Int × Int) := [(65, 90, 32), (192, 214, 32), (216, 222, 32), (904, 906, 37), (913, 929, 32), (931, 939, 32), (1024, 1039, 80), (1040, 1071, 32), (1329, 1366, 48), (8544, 8559, 16), (9398, 9423, 26), (65313, 65338, 32), (66560, 66599, 40), (376, 376, -121), (902, 902, 38), (908, 908, 64), (910, 911, 63), (975, 975, 8), (1216, 1216, 15)]
def parT : List (Int × Int) := [(256, 303), (306, 311), (313, 328), (330, 375), (377, 382), (461, 476), (478, 495), (504, 543), (546, 563), (582, 591), (880, 883), (886, 887), (984, 1007), (1120, 1153), (1162, 1215), (1217, 1230), (1232, 1327), (7680, 7829), (7840, 7935)]
def oneG (z : Int) (a : Int) : List (Int × Int × Int) -> Int
 | [] => z
 | t :: r => if t.1 = a then t.2.1 else oneG z a r
def disG (z : Int) (a : Int) : List (Int × Int × Int) -> Int
 | [] => z
 | t :: r => if t.1 <= a - t.2.2 /\ a - t.2.2 <= t.2.1 then a - t.2.2 else disG z a r
def parG (z : Int) (a : Int) : List (Int × Int) -> Int
 | [] => z
 | t :: r => if t.1 <= a /\ a <= t.2 /\ (a - t.1) % 2 = 1 then a - 1 else parG z a r
def oneS (z : Int) (a : Int) : List (Int × Int × Int) -> Int
 | [] => z
 | t :: r => if t.1 = a then t.2.2 else oneS z a r
def disS (z : Int) (a : Int) : List (Int × Int × Int) -> Int
 | [] => z
 | t :: r => if t.1 <= a /\ a <= t.2.1 then a + t.2.2 else disS z a r
def parS (z : Int) (a : Int) : List (Int × Int) -> Int
 | [] => z
 | t :: r => if t.1 <= a /\ a <= t.2 /\ (a - t.1) % 2 = 0 then a + 1 else parS z a r
def greatF (a : Int) : Int := oneG (disG (parG a a parT) a disT) a oneT
def smallF (a : Int) : Int := oneS (disS (parS a a parT) a disT) a oneT
def rngI (lo : Int) (n : Nat) : List Int := (List.range n).map fun i : Nat => lo + (i : Int)
def rng2 (lo : Int) (n : Nat) : List Int := (List.range n).map fun i : Nat => lo + 2 * (i : Int)
theorem rngI_mem {lo x : Int} {n : Nat} (h0 : lo <= x) (h1 : x < lo + n) : x ∈ rngI lo n := List.mem_map.2 ⟨(x - lo).toNat, List.mem_range.2 (by omega), by omega⟩
theorem rng2_mem {lo x : Int} {n : Nat} (h0 : lo <= x) (h1 : x < lo + 2 * n) (h2 : (x - lo) % 2 = 0) : x ∈ rng2 lo n := List.mem_map.2 ⟨((x - lo) / 2).toNat, List.mem_range.2 (by omega), by omega⟩
def bigR : List Int := oneT.map (fun t => t.2.1) ++ (disT.flatMap (fun t => rngI t.1 (t.2.1 - t.1 + 1).toNat) ++ parT.flatMap (fun t => rng2 t.1 ((t.2 - t.1 + 1) / 2).toNat))
def lowR : List Int := oneT.map (fun t => t.2.2) ++ (disT.flatMap (fun t => rngI (t.1 + t.2.2) (t.2.1 - t.1 + 1).toNat) ++ parT.flatMap (fun t => rng2 (t.1 + 1) ((t.2 - t.1) / 2 + 1).toNat))
theorem big_fix : (bigR.all fun b => decide (greatF b = b) && decide (b ≠ 10) && decide (b ≠ 13)) = true := by decide +kernel
theorem low_fix : (lowR.all fun b => decide (smallF b = b) && decide (b ≠ 10) && decide (b ≠ 13)) = true := by decide +kernel
theorem oneG_mem (z a : Int) : ∀ l, oneG z a l = z \/ oneG z a l ∈ l.map (fun t => t.2.1) := by
 intro l
 induction l with
 | nil => exact .inl rfl
 | cons t r ih =>
  unfold oneG
  split
  ·exact .inr (by rw [List.map_cons]; exact List.mem_cons_self)
  ·rcases ih with h | h
   ·exact .inl h
   ·exact .inr (by rw [List.map_cons]; exact List.mem_cons_of_mem _ h)
theorem disG_mem (z a : Int) : ∀ l, disG z a l = z \/ disG z a l ∈ l.flatMap (fun t => rngI t.1 (t.2.1 - t.1 + 1).toNat) := by
 intro l
 induction l with
 | nil => exact .inl rfl
 | cons t r ih =>
  unfold disG
  split
  ·rename_i h
   exact .inr (by rw [List.flatMap_cons]; exact List.mem_append_left _ (rngI_mem h.1 (by omega)))
  ·rcases ih with h | h
   ·exact .inl h
   ·exact .inr (by rw [List.flatMap_cons]; exact List.mem_append_right _ h)
theorem parG_mem (z a : Int) : ∀ l, parG z a l = z \/ parG z a l ∈ l.flatMap (fun t => rng2 t.1 ((t.2 - t.1 + 1) / 2).toNat) := by
 intro l
 induction l with
 | nil => exact .inl rfl
 | cons t r ih =>
  unfold parG
  split
  ·rename_i h
   exact .inr (by rw [List.flatMap_cons]; exact List.mem_append_left _ (rng2_mem (by omega) (by omega) (by omega)))
  ·rcases ih with h | h
   ·exact .inl h
   ·exact .inr (by rw [List.flatMap_cons]; exact List.mem_append_right _ h)
theorem oneS_mem (z a : Int) : ∀ l, oneS z a l = z \/ oneS z a l ∈ l.map (fun t => t.2.2) := by
 intro l
 induction l with
 | nil => exact .inl rfl
 | cons t r ih =>
  unfold oneS
  split
  ·exact .inr (by rw [List.map_cons]; exact List.mem_cons_self)
  ·rcases ih with h | h
   ·exact .inl h
   ·exact .inr (by rw [List.map_cons]; exact List.mem_cons_of_mem _ h)
theorem disS_mem (z a : Int) : ∀ l, disS z a l = z \/ disS z a l ∈ l.flatMap (fun t => rngI (t.1 + t.2.2) (t.2.1 - t.1 + 1).toNat) := by
 intro l
 induction l with
 | nil => exact .inl rfl
 | cons t r ih =>
  unfold disS
  split
  ·rename_i h
   exact .inr (by rw [List.flatMap_cons]; exact List.mem_append_left _ (rngI_mem (by omega) (by omega)))
  ·rcases ih with h | h
   ·exact .inl h
   ·exact .inr (by rw [List.flatMap_cons]; exact List.mem_append_right _ h)
theorem parS_mem (z a : Int) : ∀ l, parS z a l = z \/ parS z a l ∈ l.flatMap (fun t => rng2 (t.1 + 1) ((t.2 - t.1) / 2 + 1).toNat) := by
 intro l
 induction l with
 | nil => exact .inl rfl
 | cons t r ih =>
  unfold parS
  split
  ·rename_i h
   exact .inr (by rw [List.flatMap_cons]; exact List.mem_append_left _ (rng2_mem (by omega) (by omega) (by omega)))
  ·rcases ih with h | h
   ·exact .inl h
   ·exact .inr (by rw [List.flatMap_cons]; exact List.mem_append_right _ h)
theorem great_mem (a : Int) : greatF a = a \/ greatF a ∈ bigR := by
 unfold greatF bigR
 rcases oneG_mem (disG (parG a a parT) a disT) a oneT with h | h
 ·rw [h]
  rcases disG_mem (parG a a parT) a disT with h | h
  ·rw [h]
   rcases parG_mem a a parT with h | h
   ·exact .inl h
   ·exact .inr (List.mem_append_right _ (List.mem_append_right _ h))
  ·exact .inr (List.mem_append_right _ (List.mem_append_left _ h))
 ·exact .inr (List.mem_append_left _ h)
theorem small_mem (a : Int) : smallF a = a \/ smallF a ∈ lowR := by
 unfold smallF lowR
 rcases oneS_mem (disS (parS a a parT) a disT) a oneT with h | h
 ·rw [h]
  rcases disS_mem (parS a a parT) a disT with h | h
  ·rw [h]
   rcases parS_mem a a parT with h | h
   ·exact .inl h
   ·exact .inr (List.mem_append_right _ (List.mem_append_right _ h))
  ·exact .inr (List.mem_append_right _ (List.mem_append_left _ h))
 ·exact .inr (List.mem_append_left _ h)
theorem great_fact {a : Int} (h : greatF a ≠ a) : greatF (greatF a) = greatF a /\ greatF a ≠ 10 /\ greatF a ≠ 13 := by
 have h1 := List.all_eq_true.1 big_fix _ ((great_mem a).resolve_left h)
 simp only [Bool.and_eq_true, decide_eq_true_eq] at h1
 exact ⟨h1.1.1, h1.1.2, h1.2⟩
theorem small_fact {a : Int} (h : smallF a ≠ a) : smallF (smallF a) = smallF a /\ smallF a ≠ 10 /\ smallF a ≠ 13 := by
 have h1 := List.all_eq_true.1 low_fix _ ((small_mem a).resolve_left h)
 simp only [Bool.and_eq_true, decide_eq_true_eq] at h1
 exact ⟨h1.1.1, h1.1.2, h1.2⟩
def isSc (a : Int) : Bool := decide (0 <= a /\ a < 55296 \/ 57343 < a /\ a <= 1114111)
def upF (a : Int) : Int := if isSc a = true then greatF a else a
def loF (a : Int) : Int := if isSc a = true then smallF a else a
structure Cas (F : Int -> Int) : Prop where
 idem : ∀ a, F (F a) = F a
 ten : F 10 = 10 /\ F 13 = 13
 no : ∀ a, F a ≠ a -> F a ≠ 10 /\ F a ≠ 13
theorem upF_cas : Cas upF := by
 refine ⟨fun a => ?_, by decide +kernel, fun a h => ?_⟩
 ·by_cases h1 : isSc a = true
  ·have e : upF a = greatF a := if_pos h1
   rw [e]
   have h2 : greatF (greatF a) = greatF a := by
    by_cases h3 : greatF a = a
    ·rw [h3, h3]
    ·exact (great_fact h3).1
   unfold upF
   split
   ·exact h2
   ·rfl
  ·have e : upF a = a := if_neg h1
   rw [e, e]
 ·unfold upF at h ⊢
  split at h
  ·rw [if_pos (by assumption)]
   exact (great_fact h).2
  ·exact absurd rfl h
theorem loF_cas : Cas loF := by
 refine ⟨fun a => ?_, by decide +kernel, fun a h => ?_⟩
 ·by_cases h1 : isSc a = true
  ·have e : loF a = smallF a := if_pos h1
   rw [e]
   have h2 : smallF (smallF a) = smallF a := by
    by_cases h3 : smallF a = a
    ·rw [h3, h3]
    ·exact (small_fact h3).1
   unfold loF
   split
   ·exact h2
   ·rfl
  ·have e : loF a = a := if_neg h1
   rw [e, e]
 ·unfold loF at h ⊢
  split at h
  ·rw [if_pos (by assumption)]
   exact (small_fact h).2
  ·exact absurd rfl h
def caP (F : Int -> Int) (enc a : Int) : Bool := decide (F a ≠ a) && decide (0 < szA enc (F a))
def caE (F : Int -> Int) (enc x a : Int) : List (Int × Int × List Int) := if caP F enc a = true then [(x, x + 1, [F a])] else []
def caL (F : Int -> Int) (enc : Int) : Int -> List Int -> List (Int × Int × List Int)
 | _, [] => []
 | x, a :: r => caE F enc x a ++ caL F enc (x + 1) r
def caM (F : Int -> Int) (enc : Int) (p : Int × Int) : Int × Int := if caP F enc p.1 = true then (F p.1, -1) else p
theorem caL_app (F : Int -> Int) (enc : Int) : ∀ (l1 l2 : List Int) (x : Int), caL F enc x (l1 ++ l2) = caL F enc x l1 ++ caL F enc (x + l1.length) l2 := by
 intro l1
 induction l1 with
 | nil => intro l2 x; simp [caL]
 | cons a r ih =>
  intro l2 x
  rw [List.cons_append, caL, caL, ih, List.append_assoc, List.length_cons]
  congr 3
  omega
theorem caL_len (F : Int -> Int) (enc : Int) : ∀ (l : List Int) (x : Int), (caL F enc x l).length <= l.length := by
 intro l
 induction l with
 | nil => intro x; exact Nat.le_refl _
 | cons a r ih =>
  intro x
  have := ih (x + 1)
  rw [caL, List.length_append, List.length_cons]
  unfold caE
  split <;> simp <;> omega
theorem caL_nil (F : Int -> Int) (enc : Int) : ∀ (l : List Int) (x : Int), (∀ a ∈ l, caP F enc a = false) -> caL F enc x l = [] := by
 intro l
 induction l with
 | nil => intro x _; rfl
 | cons a r ih =>
  intro x h
  rw [caL, ih _ (fun b hb => h b (List.mem_cons_of_mem _ hb))]
  unfold caE
  rw [h a List.mem_cons_self]
  rfl
theorem edA_ca (F : Int -> Int) (enc : Int) : ∀ (M A R : List (Int × Int)) (es : List Ed), es.map abE = caL F enc A.length (M.map Prod.fst) -> edA es (A ++ (M ++ R)) = A ++ (M.map (caM F enc) ++ R) := by
 intro M
 induction M with
 | nil =>
  intro A R es h
  have : es = [] := by simpa [caL] using h
  subst this
  rfl
 | cons p M ih =>
  intro A R es h
  rw [List.map_cons, caL] at h
  have e1 : A ++ (p :: M ++ R) = (A ++ [p]) ++ (M ++ R) := by simp
  by_cases hp : caP F enc p.1 = true
  ·unfold caE at h
   rw [if_pos hp] at h
   cases es with
   | nil => cases h
   | cons e es =>
    rw [List.map_cons] at h
    injection h with h1 h2
    have h3 := ih (A ++ [p]) R es (by rw [List.length_append]; exact h2)
    injection h1 with h4 h5
    injection h5 with h5 h6
    have e2 : edA (e :: es) (A ++ (p :: M ++ R)) = ed1 (fun x => (x, -1)) e (edA es (A ++ (p :: M ++ R))) := rfl
    rw [e2, e1, h3]
    have e4 : caM F enc p = (F p.1, -1) := if_pos hp
    unfold ed1
    rw [h4, h5, h6, List.map_cons, List.map_cons, e4]
    have e3 : ((A.length : Int) + 1).toNat = (A ++ [p]).length := by rw [List.length_append]; simp
    have e5 : ((A ++ [p]) ++ (M.map (caM F enc) ++ R)).drop (A ++ [p]).length = M.map (caM F enc) ++ R := List.drop_left
    have e6 : ((A ++ [p]) ++ (M.map (caM F enc) ++ R)).take A.length = A := by rw [List.append_assoc]; exact List.take_left
    rw [e3, e5, Int.toNat_natCast, e6]
    simp
  ·unfold caE at h
   rw [if_neg hp] at h
   have h3 := ih (A ++ [p]) R es (by rw [List.length_append]; exact h)
   rw [e1, h3, List.map_cons]
   have e4 : caM F enc p = p := if_neg hp
   rw [e4]
   simp
structure CaEd (F : Int -> Int) (enc : Int) (x y : Nat) (ats ats' : List (Int × Int)) : Prop where
 len : ats'.length = ats.length
 at_ : ∀ i p, ats[i]? = some p -> ats'[i]? = some (if x <= i /\ i < y then caM F enc p else p)
theorem caEd_of {F : Int -> Int} {enc : Int} {x y : Nat} {ats : List (Int × Int)} {es : List Ed} (hxy : x <= y) (hy : y <= ats.length) (h : es.map abE = caL F enc (x : Int) (seg (x : Int) (y : Int) (ats.map Prod.fst))) : CaEd F enc x y ats (edA es ats) := by
 have e : ats = ats.take x ++ ((ats.drop x).take (y - x) ++ ats.drop y) := by
  conv => lhs; rw [<- List.take_append_drop x ats, <- List.take_append_drop (y - x) (ats.drop x)]
  rw [List.drop_drop, show x + (y - x) = y by omega]
 have hl : (ats.take x).length = x := by rw [List.length_take]; omega
 have h1 : edA es ats = ats.take x ++ (((ats.drop x).take (y - x)).map (caM F enc) ++ ats.drop y) := by
  conv => lhs; rw [e]
  refine edA_ca F enc _ _ _ es ?_
  rw [hl, h]
  unfold seg
  rw [Int.toNat_natCast, Int.toNat_natCast, List.map_take, List.map_drop]
 constructor
 ·rw [h1]
  conv => rhs; rw [e]
  simp only [List.length_append, List.length_map]
 ·intro i p hp
  rw [h1]
  have hi : i < ats.length := by
   rcases Nat.lt_or_ge i ats.length with h | h
   ·exact h
   ·rw [List.getElem?_eq_none h] at hp; cases hp
  rcases Nat.lt_or_ge i x with h2 | h2
  ·rw [List.getElem?_append_left (by omega), List.getElem?_take, if_pos h2, if_neg (by omega)]
   exact hp
  ·rw [List.getElem?_append_right (by omega), hl]
   have hl2 : (((ats.drop x).take (y - x)).map (caM F enc)).length = y - x := by rw [List.length_map, List.length_take, List.length_drop]; omega
   rcases Nat.lt_or_ge i y with h3 | h3
   ·rw [List.getElem?_append_left (by omega), List.getElem?_map, List.getElem?_take, if_pos (by omega), List.getElem?_drop, show x + (i - x) = i by omega, hp, if_pos ⟨h2, h3⟩]
    rfl
   ·rw [List.getElem?_append_right (by omega), hl2, List.getElem?_drop, show y + (i - x - (y - x)) = i by omega, if_neg (by omega)]
    exact hp
theorem ca_ord {F : Int -> Int} {enc : Int} : ∀ (l : List Int) (x a size : Int) (es : List Ed), es.map abE = caL F enc x l -> a <= x -> x + l.length <= size -> ordF a size es = true := by
 intro l
 induction l with
 | nil =>
  intro x a size es h _ _
  have : es = [] := by simpa [caL] using h
  subst this
  rfl
 | cons b r ih =>
  intro x a size es h ha hs
  rw [List.length_cons] at hs
  rw [caL] at h
  unfold caE at h
  split at h
  ·cases es with
   | nil => cases h
   | cons e es =>
    rw [List.map_cons] at h
    injection h with h1 h2
    injection h1 with h4 h5
    injection h5 with h5 h6
    have h3 := ih (x + 1) e.t size es h2 (by omega) (by omega)
    unfold ordF
    rw [if_neg (by omega)]
    exact h3
  ·exact ih (x + 1) a size es h (by omega) (by omega)
theorem ca_mem {F : Int -> Int} {enc : Int} : ∀ (l : List Int) (x : Int) (es : List Ed), es.map abE = caL F enc x l -> ∀ e ∈ es, ∃ a ∈ l, caP F enc a = true /\ e.put = [F a] := by
 intro l
 induction l with
 | nil =>
  intro x es h e he
  have : es = [] := by simpa [caL] using h
  subst this
  cases he
 | cons b r ih =>
  intro x es h e he
  rw [caL] at h
  unfold caE at h
  split at h
  ·rename_i hb
   cases es with
   | nil => cases h
   | cons e1 es =>
    rw [List.map_cons] at h
    injection h with h1 h2
    injection h1 with h4 h5
    injection h5 with h5 h6
    rcases List.mem_cons.1 he with rfl | he
    ·exact ⟨b, List.mem_cons_self, hb, h6⟩
    ·obtain ⟨a, h7, h8⟩ := ih (x + 1) es h2 e he
     exact ⟨a, List.mem_cons_of_mem _ h7, h8⟩
  ·obtain ⟨a, h7, h8⟩ := ih (x + 1) es h e he
   exact ⟨a, List.mem_cons_of_mem _ h7, h8⟩
theorem ca_putN {F : Int -> Int} {enc : Int} : ∀ (l : List Int) (x : Int) (es : List Ed), es.map abE = caL F enc x l -> putN es <= l.length := by
 intro l
 induction l with
 | nil =>
  intro x es h
  have : es = [] := by simpa [caL] using h
  subst this
  exact Nat.le_refl _
 | cons b r ih =>
  intro x es h
  rw [caL] at h
  unfold caE at h
  split at h
  ·cases es with
   | nil => cases h
   | cons e1 es =>
    rw [List.map_cons] at h
    injection h with h1 h2
    injection h1 with h4 h5
    injection h5 with h5 h6
    have := ih (x + 1) es h2
    unfold putN at this ⊢
    rw [List.map_cons, List.sum_cons, h6, List.length_cons]
    simp only [List.length_cons, List.length_nil]
    omega
  ·have := ih (x + 1) es h
   rw [List.length_cons]
   omega
theorem ca_ref {F : Int -> Int} {enc lim : Int} {ds : List (Int × Int)} (hl : ds.length <= 65536) {x : Int} {l : List Int} {es : List Ed} (he : es.map abE = caL F enc x l) (hx : 0 <= x) (hxl : x + l.length <= ds.length) : refF enc lim ds es = 0 \/ refF enc lim ds es = 50 := by
 have h1 := congrArg List.length he
 rw [List.length_map] at h1
 have h2 := caL_len F enc l x
 have h3 : fitF enc es = true := by
  unfold fitF
  rw [List.all_eq_true]
  intro e hm
  obtain ⟨a, _, h4, h5⟩ := ca_mem l x es he e hm
  unfold caP at h4
  simp only [Bool.and_eq_true, decide_eq_true_eq] at h4
  rw [h5]
  unfold fitP
  simp only [List.all_cons, List.all_nil, Bool.and_true, bne_iff_ne]
  omega
 unfold refF
 rw [if_neg (by omega), if_neg (by rw [ca_ord l x 0 _ es he hx (by omega)]; decide), if_neg (by rw [h3]; decide)]
 split
 ·exact .inr rfl
 ·exact .inl rfl
structure SameE (A A' : List Int) : Prop where
 len : A'.length = A.length
 lf : ∀ p, A'.getD p 0 = 10 ↔ A.getD p 0 = 10
 cr : ∀ p, A'.getD p 0 = 13 ↔ A.getD p 0 = 13
theorem SameE.isE {A A' : List Int} (h : SameE A A') (p : Nat) : isE A' p = isE A p := by
 unfold Go.Proofs.YtkoakanpaehkmaaGreatDoor.isE
 have e1 : ∀ q, (A'.getD q 0 = 10) = (A.getD q 0 = 10) := fun q => propext (h.lf q)
 have e2 : ∀ q, (A'.getD q 0 = 13) = (A.getD q 0 = 13) := fun q => propext (h.cr q)
 simp only [h.len, e1, e2]
theorem SameE.cnt {A A' : List Int} (h : SameE A A') (p : Nat) : cntE A' p = cntE A p := by
 induction p with
 | zero => rfl
 | succ p ih => rw [cntE_succ, cntE_succ, ih, h.isE]
section
variable {ds ds' : List (Int × Int)} (hp : PosD ds) (hp' : PosD ds') (h : SameE (ds.map Prod.fst) (ds'.map Prod.fst))
include h
theorem SameE.dlen : ds'.length = ds.length := by
 have := h.len
 simpa using this
theorem SameE.tot : totE ds' = totE ds := by
 unfold totE
 rw [h.dlen, h.cnt]
include hp hp'
theorem SameE.sk_ {k : Nat} (hk : k <= totE ds) : sk ds' k = sk ds k := by
 rcases Nat.eq_zero_or_pos k with h0 | h0
 ·subst h0; rfl
 ·obtain ⟨_, h2, h3⟩ := sk_spec hp h0 hk
  exact sk_uniq hp' h0 (by rw [h.tot]; exact hk) (by rw [h.isE]; exact h2) (by rw [h.cnt]; exact h3)
theorem SameE.line {i : Nat} (hi : i <= totE ds) : lineF ds' i = lineF ds i := by
 unfold lineF
 rw [h.tot, h.dlen]
 split
 ·rename_i h1
  rw [h.sk_ hp hp' hi, h.sk_ hp hp' h1]
  unfold closedF
  have e13 : ∀ p : Nat, ((ds'.map Prod.fst).getD p 0 = 13) = ((ds.map Prod.fst).getD p 0 = 13) := fun p => propext (h.cr p)
  simp only [e13]
 ·rw [h.sk_ hp hp' hi]
theorem SameE.count : countF ds' = countF ds := by
 unfold countF endB
 rw [h.tot, h.sk_ hp hp' (Nat.le_refl _), h.dlen]
theorem SameE.rowIx_ (x : Int) : rowIx ds' x false = rowIx ds x false := by
 unfold rowIx ofF
 rw [h.dlen, h.cnt, h.count hp hp']
end
theorem CaEd.same {F : Int -> Int} {enc : Int} {x y : Nat} {ats ats' : List (Int × Int)} (hF : Cas F) (h : CaEd F enc x y ats ats') : SameE (ats.map Prod.fst) (ats'.map Prod.fst) := by
 have hl : (ats'.map Prod.fst).length = (ats.map Prod.fst).length := by rw [List.length_map, List.length_map, h.len]
 have hat : ∀ p : Nat, p < ats.length -> (ats'.map Prod.fst).getD p 0 = (ats.map Prod.fst).getD p 0 \/ ((ats'.map Prod.fst).getD p 0 = F ((ats.map Prod.fst).getD p 0) /\ F ((ats.map Prod.fst).getD p 0) ≠ (ats.map Prod.fst).getD p 0) := fun p hp => by
  have h1 := h.at_ p ats[p] (List.getElem?_eq_getElem hp)
  have e1 : (ats.map Prod.fst).getD p 0 = ats[p].1 := by rw [List.getD_eq_getElem?_getD, List.getElem?_map, List.getElem?_eq_getElem hp]; rfl
  have e2 : (ats'.map Prod.fst).getD p 0 = (if x <= p /\ p < y then caM F enc ats[p] else ats[p]).1 := by rw [List.getD_eq_getElem?_getD, List.getElem?_map, h1]; rfl
  rw [e1, e2]
  split
  ·unfold caM
   split
   ·rename_i h2
    unfold caP at h2
    simp only [Bool.and_eq_true, decide_eq_true_eq] at h2
    exact .inr ⟨rfl, h2.1⟩
   ·exact .inl rfl
  ·exact .inl rfl
 have hout : ∀ p : Nat, ats.length <= p -> (ats'.map Prod.fst).getD p 0 = (ats.map Prod.fst).getD p 0 := fun p hp => by
  rw [List.getD_eq_getElem?_getD, List.getD_eq_getElem?_getD, List.getElem?_eq_none (by rw [List.length_map, h.len]; exact hp), List.getElem?_eq_none (by rw [List.length_map]; exact hp)]
 have key : ∀ (p : Nat) (c : Int), (c = 10 \/ c = 13) -> ((ats'.map Prod.fst).getD p 0 = c ↔ (ats.map Prod.fst).getD p 0 = c) := fun p c hc => by
  rcases Nat.lt_or_ge p ats.length with hp | hp
  ·rcases hat p hp with h1 | ⟨h1, h2⟩
   ·rw [h1]
   ·rw [h1]
    have h3 := hF.no _ h2
    have h4 := hF.ten
    constructor
    ·intro h5; omega
    ·intro h5
     rw [h5]
     rcases hc with rfl | rfl
     ·exact h4.1
     ·exact h4.2
  ·rw [hout p hp]
 exact ⟨hl, fun p => key p 10 (.inl rfl), fun p => key p 13 (.inr rfl)⟩
theorem CaEd.done {F : Int -> Int} {enc : Int} {x y : Nat} {ats ats' : List (Int × Int)} (hF : Cas F) (h : CaEd F enc x y ats ats') : ∀ a ∈ seg (x : Int) (y : Int) (ats'.map Prod.fst), caP F enc a = false := by
 intro a ha
 unfold seg at ha
 rw [Int.toNat_natCast, Int.toNat_natCast] at ha
 obtain ⟨j, hj, hja⟩ := List.mem_iff_getElem.1 ha
 have hj2 : j < y - x /\ x + j < ats'.length := by
  rw [List.length_take, List.length_drop, List.length_map] at hj
  omega
 have e1 : a = (ats'[x + j]'hj2.2).1 := by
  rw [<- hja]
  simp
 have h1 := h.at_ (x + j) (ats[x + j]'(by have := h.len; omega)) (List.getElem?_eq_getElem _)
 rw [List.getElem?_eq_getElem hj2.2, if_pos (by omega)] at h1
 injection h1 with h1
 rw [e1, h1]
 unfold caM
 split
 ·unfold caP
  rw [hF.idem]
  simp
 ·rename_i h2
  simpa using h2
def shiftO (st : BkS) (es : List Ed) (c : Int) : OpS := ⟨st.ats, c, [es.map mvOf], st.state, es.any chg⟩
def shiftS (st : BkS) (es : List Ed) (c x : Int) : BkS := endF { st with ats := edA es st.ats, now := some (shiftO st es c) } (shiftO st es c) x
theorem PutV.sole (w : World) (base : Nat) (hb : base <= w.heap.size) (x : Int) : PutV (w.alloc (.cells #[.int .i64 x] 3)) base (.slice (some ⟨w.heap.size, 0, none⟩) 1 1) 1 [x] := by
 obtain ⟨v, hv, hp, _⟩ := PutV.of_new (l := [x]) (w := w) (w' := w.alloc (.cells #[.int .i64 x] 3)) (e := .returned (.slice (some ⟨w.heap.size, 0, none⟩) 1 1)) ⟨_, rfl, ⟨rfl, .inr ⟨w.heap.size, 1, #[.int .i64 x], rfl, Nat.le_refl _, heap_alloc_new w _, Nat.le_refl _, by decide, rfl, rfl⟩⟩, balloc (Below.refl _ _)⟩ hb
 injection hv with hv
 rw [hv]
 exact hp
theorem cells_new1 (w : World) (o : Obj) (t : TypeId) (cs : Array Value) : ∀ j u, cs.toList[j]? = some u -> ((w.alloc o).alloc (.cells cs t)).cell? ((⟨w.heap.size + 1, 0, none⟩ : Addr).add j) = some u := by
 have := cells_new (w.alloc o) t cs
 rwa [show (w.alloc o).heap.size = w.heap.size + 1 by simp] at this
def caX (ds : List (Int × Int)) (a kd : Int) : Int := if kd = 1 then (lineF ds (rowIx ds a false)).from_ else a
def caY (ds : List (Int × Int)) (a b kd : Int) : Int := if kd = 1 then (lineF ds (rowIx ds (max a (b - 1)) false)).next else b
theorem caXY {ds : List (Int × Int)} (hp : PosD ds) {a b kd : Int} (ha : 0 <= a /\ a <= b /\ b <= (ds.length : Int)) : 0 <= caX ds a kd /\ caX ds a kd <= caY ds a b kd /\ caY ds a b kd <= (ds.length : Int) := by
 unfold caX caY
 split
 ·have h1 := rowIx_mono ds (show a <= max a (b - 1) by omega)
  have h2 := rowIx_le ds (max a (b - 1)) false
  have h3 := lineF_bd hp (Nat.le_trans h1 h2)
  have h4 := lineF_bd hp h2
  refine ⟨h3.1, ?_, h4.2.2.2⟩
  have h5 : (lineF ds (rowIx ds a false)).from_ <= (lineF ds (rowIx ds (max a (b - 1)) false)).from_ := by
   rw [line_from, line_from]
   rcases Nat.lt_or_ge (rowIx ds a false) (rowIx ds (max a (b - 1)) false) with h | h
   ·have := sk_mono hp h h2
    omega
   ·rw [show rowIx ds a false = rowIx ds (max a (b - 1)) false by omega]
    exact Int.le_refl _
  omega
 ·exact ha
theorem caX_1 (ds : List (Int × Int)) (a : Int) : caX ds a 1 = (lineF ds (rowIx ds a false)).from_ := rfl
theorem caY_1 (ds : List (Int × Int)) (a b : Int) : caY ds a b 1 = (lineF ds (rowIx ds (max a (b - 1)) false)).next := rfl
theorem caX_0 (ds : List (Int × Int)) (a : Int) : caX ds a 0 = a := rfl
theorem caY_0 (ds : List (Int × Int)) (a b : Int) : caY ds a b 0 = b := rfl
def CaR (F : Int -> Int) (enc x : Int) (C : List Int) (w : World) (m : Nat) (q8 q46 : Value) (wr : World) : Prop :=
 ∃ (j : Nat) (es : List Ed), q46 = .int .i64 (j : Int) /\ j <= C.length /\ C.length - j <= m /\ Hid (EdsS wr w.heap.size q8 es) /\ Hid (es.map abE = caL F enc x (C.take j)) /\ Below w.heap.size w wr
theorem CaR.same {F : Int -> Int} {enc x a : Int} {C : List Int} {w wr w2 : World} {m j : Nat} {q8 : Value} {es : List Ed} (hj : C[j]? = some a) (hE : EdsS wr w.heap.size q8 es) (he : es.map abE = caL F enc x (C.take j)) (hb : Below w.heap.size w wr) (hb2 : Below wr.heap.size wr w2)
  (hm : C.length - (j + 1) <= m) (ha : caP F enc a = false) : CaR F enc x C w m q8 (.int .i64 ((j + 1 : Nat) : Int)) w2 := by
 have hl : j < C.length := by
  rcases Nat.lt_or_ge j C.length with h | h
  ·exact h
  ·rw [List.getElem?_eq_none h] at hj; cases hj
 refine ⟨j + 1, es, rfl, hl, hm, Lib.hid (hE.bel hb2), Lib.hid ?_, bseq hb hb2⟩
 rw [take_snoc C j a hj, caL_app, he]
 have : caL F enc (x + ((C.take j).length : Int)) [a] = [] := caL_nil F enc [a] _ (fun b hb => by rw [List.mem_singleton] at hb; rw [hb]; exact ha)
 rw [this, List.append_nil]
theorem CaR.more {F : Int -> Int} {enc x a : Int} {C : List Int} {w w2 : World} {m j : Nat} {q8 : Value} {es : List Ed} {e : Ed} (hj : C[j]? = some a) (hE : EdsS w2 w.heap.size q8 (es ++ [e])) (he : es.map abE = caL F enc x (C.take j)) (hb : Below w.heap.size w w2)
  (hm : C.length - (j + 1) <= m) (ha : caP F enc a = true) (hee : abE e = (x + (j : Int), x + (j : Int) + 1, [F a])) : CaR F enc x C w m q8 (.int .i64 ((j + 1 : Nat) : Int)) w2 := by
 have hl : j < C.length := by
  rcases Nat.lt_or_ge j C.length with h | h
  ·exact h
  ·rw [List.getElem?_eq_none h] at hj; cases hj
 refine ⟨j + 1, es ++ [e], rfl, hl, hm, Lib.hid hE, Lib.hid ?_, hb⟩
 rw [take_snoc C j a hj, caL_app, List.map_append, he, List.length_take, Nat.min_eq_left (Nat.le_of_lt hl)]
 congr 1
 rw [caL, caL, List.append_nil, List.map_cons, List.map_nil, hee]
 unfold caE
 rw [if_pos ha]
structure CaFn (F : Int -> Int) (fid : FuncId) (w : World) : Prop where
 enter : ∀ args w, (callFunc fid args).run Tryz.prog w = .ok (.enter fid args) w
 call : ∀ (a : Int) (w' : World), Below w.heap.size w w' -> Calls Tryz.prog fid #[.int .i64 a] w' fun e w'' => e = .returned (.int .i64 (F a)) /\ Below w'.heap.size w' w''
def Case1Ok (B gd gb g : Nat) (enc lim : Int) (n : Nat) (st : BkS) (o : OpS) (dc : Array Value) (F : Int -> Int) (x y kd : Int) (w : World) (e : Ending) (w' : World) : Prop :=
 ∃ (es : List Ed) (j : Nat), (kd = 0 -> x ≠ y) /\ es.map abE = caL F enc x (seg x y (st.ats.map Prod.fst)) /\ refF enc lim (sizedA enc st.ats) es = 0 /\ ClampOk (sizedA enc (edA es st.ats)) x j /\ j <= nC (cont (sizedA enc (edA es st.ats)) (rowIx (sizedA enc (edA es st.ats)) x false)) /\
  e = .returned (.int .i64 ((lineF (sizedA enc (edA es st.ats)) (rowIx (sizedA enc (edA es st.ats)) x false)).from_ + (mkb (cont (sizedA enc (edA es st.ats)) (rowIx (sizedA enc (edA es st.ats)) x false)) j : Int))) /\
  DeskIs w' B gd gb g enc lim (n + 131072) { st with ats := edA es st.ats, now := some { o with moves := o.moves ++ [es.map mvOf], changed := o.changed || es.any chg } } dc /\ DFr B (fun _ => False) w w'
def Case1Bad (B gd gb g : Nat) (enc lim : Int) (n : Nat) (st : BkS) (dc : Array Value) (F : Int -> Int) (x y kd : Int) (w : World) (e : Ending) (w' : World) : Prop :=
 ∃ c : Int, ((c = 120 /\ kd = 0 /\ x = y) \/ (c = 50 /\ ∃ es : List Ed, es.map abE = caL F enc x (seg x y (st.ats.map Prod.fst)) /\ refF enc lim (sizedA enc st.ats) es = 50)) /\ e = .panicked [errPanic c] /\ DeskIs w' B gd gb g enc lim n st dc /\ DFr B (fun _ => False) w w'
theorem case1_any (B gd gb g n b0 b1 b2 : Nat) (enc lim a b kd : Int) (F : Int -> Int) (fid : FuncId) (st : BkS) (o : OpS) (dc : Array Value) (w : World) (h : DeskIs w B gd gb g enc lim n st dc) (hn : st.now = some o) (hom : o.moves.length < 1048576)
  (k0 : Blk w b0 27 #[.pointer (some ⟨gd, 0, none⟩)]) (k1 : Blk w b1 26 #[.int .i64 a, .int .i64 b, .int .i64 kd]) (k2 : Blk w b2 40 #[.func (.func fid) #[] #[]]) (hF : CaFn F fid w)
  (hk : kd = 0 \/ kd = 1) (ha : 0 <= a /\ a <= b /\ b <= (st.ats.length : Int)) (hnn : n + 131072 <= 1073741824) :
  Calls Tryz.prog 33 #[.pointer (some ⟨b0, 0, none⟩), .pointer (some ⟨b1, 0, none⟩), .pointer (some ⟨b2, 0, none⟩)] w fun e w' => Case1Ok B gd gb g enc lim n st o dc F (caX (sizedA enc st.ats) a kd) (caY (sizedA enc st.ats) a b kd) kd w e w' \/ Case1Bad B gd gb g enc lim n st dc F (caX (sizedA enc st.ats) a kd) (caY (sizedA enc st.ats) a b kd) kd w e w' := by
 have hp := h.pos
 have hlen := h.len
 have hE4 := h.enc4
 have hxy := caXY hp (kd := kd) (a := a) (b := b) (by rw [sizedA_len]; exact ha)
 rw [sizedA_len] at hxy
 have hfs : (sizedA enc st.ats).map Prod.fst = st.ats.map Prod.fst := sizedA_fst _ _
 have HCK := Lib.hid (checked_ok h a b kd hk ha)
 have HRW := Lib.hid (fun (w' : World) (hb : Below w.heap.size w w') => rows_desk (h.below hb) a b kd ha)
 have hll := rowIx_le (sizedA enc st.ats) (max a (b - 1)) false
 have hfl := rowIx_mono (sizedA enc st.ats) (show a <= max a (b - 1) by omega)
 have hX1 := caX_1 (sizedA enc st.ats) a
 have hY1 := caY_1 (sizedA enc st.ats) a b
 have HX0 := Lib.hid (And.intro (caX_0 (sizedA enc st.ats) a) (caY_0 (sizedA enc st.ats) a b))
 obtain ⟨f, hf⟩ : ∃ f, rowIx (sizedA enc st.ats) a false = f := ⟨_, rfl⟩
 obtain ⟨l, hl⟩ : ∃ l, rowIx (sizedA enc st.ats) (max a (b - 1)) false = l := ⟨_, rfl⟩
 rw [hf, hl] at HRW hfl
 rw [hl] at hll hY1
 rw [hf] at hX1
 have hlf := fun (w' : World) (hb : Below w.heap.size w w') => line_desk (h.below hb) f (Nat.le_trans hfl hll)
 have hln := fun (w' : World) (hb : Below w.heap.size w w') => line_desk (h.below hb) l hll
 unfold Ln.cells at hlf hln
 obtain ⟨⟨p0, p1, p2, p3⟩, hL0⟩ : ∃ L, lineF (sizedA enc st.ats) f = L := ⟨_, rfl⟩
 obtain ⟨⟨s0, s1, s2, s3⟩, hL1⟩ : ∃ L, lineF (sizedA enc st.ats) l = L := ⟨_, rfl⟩
 rw [hL0] at hlf hX1
 rw [hL1] at hln hY1
 dsimp only at hlf hln hX1 hY1
 have HX1 := Lib.hid (And.intro hX1 hY1)
 have HLF := Lib.hid hlf
 have HLN := Lib.hid hln
 have lf := fun (w : World) => lfield0 p0 p1 p2 p3 w
 have ln := fun (w : World) => (show (Instr.field 75 (.agg #[.int .i64 s0, .int .i64 s1, .int .i64 s2, .int .i64 s3]) 2).run Tryz.prog w = .ok (.int .i64 s2) w by kernel_rfl)
 obtain ⟨x, hx⟩ : ∃ x, caX (sizedA enc st.ats) a kd = x := ⟨_, rfl⟩
 obtain ⟨y, hy⟩ : ∃ y, caY (sizedA enc st.ats) a b kd = y := ⟨_, rfl⟩
 rw [hx, hy] at hxy ⊢
 have HXY := Lib.hid (And.intro hx hy)
 have HH := Lib.hid h
 have HN := Lib.hid hn
 have HOM := Lib.hid hom
 have HFN := Lib.hid hF
 have HK0 := Lib.hid k0
 have hcw : ∀ w', Below w.heap.size w w' -> w'.cell? ⟨b0, 0, none⟩ = some (.pointer (some ⟨gd, 0, none⟩)) /\ w'.cell? ⟨b1, 0, none⟩ = some (.int .i64 a) /\ w'.cell? ⟨b1, 1, none⟩ = some (.int .i64 b) /\ w'.cell? ⟨b1, 2, none⟩ = some (.int .i64 kd) /\ w'.cell? ⟨b2, 0, none⟩ = some (.func (.func fid) #[] #[]) := fun w' hb =>
  ⟨(k0.below hb).cell 0, (k1.below hb).cell 0, (k1.below hb).cell 1, (k1.below hb).cell 2, (k2.below hb).cell 0⟩
 have HCW := Lib.hid hcw
 have HATL := Lib.hid (fun (w' : World) (hb : Below w.heap.size w w') => hfs ▸ tatoms_any Any g enc (sizedA enc st.ats) x y w' (h.below hb).at_ (by omega) (by omega))
 have HT := Lib.hid (fun (w' : World) (hb : Below w.heap.size w w') => text_desk (h.below hb))
 have HEN := Lib.hid (fun (w' : World) (hb : Below w.heap.size w w') => tenc_any Any g enc (sizedA enc st.ats) w' (h.below hb).at_)
 have HE4 := Lib.hid hE4
 obtain ⟨y0, y1, y2, y3, y4⟩ := hcw w (Below.refl _ _)
 clear h hn hom k0 k1 k2 hcw hf hl ha hL0 hL1 hX1 hY1 hlf hln hx hy hfs hp hll hfl hF hE4
 go_enter Tryz.func33, Tryz.ntmps33
 go_wp2_with fail
 refine (HCK.out).mono ?_
 rintro e w1 ⟨rfl, hb1⟩
 clear y0 y1 y2 y3 y4 HCK
 go_upto_region 2 with fail
 refine wp_region_steady (fun w' => Below w1.heap.size w1 w') (by kernel_rfl) (by kernel_rfl) (Below.drew (Below.refl _ _)) ?_
 repeat ((first
  | (refine wpSt_read (v := ?_) (by rfl) (fun w6 hSw => ?_) ?_; rotate_left; (· (obtain ⟨y0, y1, y2, y3, y4⟩ := HCW.out _ (bseq hb1 hSw); go_simp; try with_reducible rfl)))
  | refine wpSt_not (by rfl) ?_); (try simp only [Act.put, pA, pB, pC]))
 refine wpSt_nil ?_
 intro w2 hb2
 have hb12 := bseq hb1 hb2
 obtain ⟨y0, y1, y2, y3, y4⟩ := HCW.out w2 hb12
 go_upto_if 21 with fail
 go_cut [4, 5] (fun q4 q5 wx => q4 = .int .i64 x /\ q5 = .int .i64 y /\ Hid (Below w.heap.size w wx) /\ Hid (kd = 0 -> x ≠ y))
 case first =>
  rcases hk with rfl | rfl
  ·have hx0 := HXY.out
   rw [HX0.out.1, HX0.out.2] at hx0
   obtain ⟨rfl, rfl⟩ := hx0
   by_cases hab : a = b
   ·have q : (a == b) = true := by rw [beq_iff_eq]; exact hab
    have HAB := Lib.hid hab
    clear hab
    go_wp2_with fail
    exact ⟨rfl, .inr ⟨120, .inl ⟨rfl, rfl, HAB.out⟩, rfl, HH.out.below hb12, DFr.of_below hb12⟩⟩
   ·have q : (a == b) = false := by rw [beq_eq_false_iff_ne]; exact hab
    go_wp2_with fail
    go_meet
    exact ⟨rfl, rfl, Lib.hid hb12, Lib.hid (fun _ => hab)⟩
  ·have hx0 := HXY.out
   rw [HX1.out.1, HX1.out.2] at hx0
   obtain ⟨rfl, rfl⟩ := hx0
   go_wp2_with fail
   refine (HRW.out _ hb12).mono ?_
   rintro e w3 ⟨rfl, hb3⟩
   have hb13 := bseq hb12 hb3
   clear y0 y1 y2 y3 y4
   go_upto_region 5 with fail
   refine wp_region_steady (fun w' => Below w3.heap.size w3 w') (by kernel_rfl) (by kernel_rfl) (Below.drew (Below.refl _ _)) ?_
   repeat ((first
    | (refine wpSt_read (v := ?_) (by rfl) (fun w6 hSw => ?_) ?_; rotate_left; (· (obtain ⟨y0, y1, y2, y3, y4⟩ := HCW.out _ (bseq hb13 hSw); have l0 := lf; have l1 := ln; go_simp; try with_reducible rfl)))
    | refine wpSt_not (by rfl) ?_
    | (refine wpSt_call (f := ?_) (args := ?_) (v := .agg #[.int .i64 p0, .int .i64 p1, .int .i64 p2, .int .i64 p3]) (by rfl) (fun w6 hSw => ?_) (fun w6 hSw => ?_) ?_; rotate_left 2; (· (obtain ⟨y0, y1, y2, y3, y4⟩ := HCW.out _ (bseq hb13 hSw); have l0 := lf; have l1 := ln; go_simp; first | done | (constructor <;> with_reducible rfl) | with_reducible rfl)); (· ((with_reducible refine (HLF.out _ (bseq hb13 hSw)).mono ?_); rintro e w5 ⟨rfl, hb5⟩; exact ⟨rfl, bseq hSw hb5⟩)))
    | (refine wpSt_call (f := ?_) (args := ?_) (v := .agg #[.int .i64 s0, .int .i64 s1, .int .i64 s2, .int .i64 s3]) (by rfl) (fun w6 hSw => ?_) (fun w6 hSw => ?_) ?_; rotate_left 2; (· (obtain ⟨y0, y1, y2, y3, y4⟩ := HCW.out _ (bseq hb13 hSw); have l0 := lf; have l1 := ln; go_simp; first | done | (constructor <;> with_reducible rfl) | with_reducible rfl)); (· ((with_reducible refine (HLN.out _ (bseq hb13 hSw)).mono ?_); rintro e w5 ⟨rfl, hb5⟩; exact ⟨rfl, bseq hSw hb5⟩)))); (try simp only [Act.put, pA, pB, pC]))
   refine wpSt_nil ?_
   intro w4 hb4
   go_wp2_with fail
   go_meet
   exact ⟨rfl, rfl, Lib.hid (bseq hb13 hb4), Lib.hid (fun h => absurd h (by decide))⟩
 case rest =>
  obtain ⟨rfl, rfl, hb3, HNE0⟩ := hcut
  obtain ⟨w3, hw3⟩ : ∃ z, wc = z := ⟨_, rfl⟩
  rw [hw3] at hb3 ⊢
  obtain ⟨C, hC⟩ : ∃ C, seg x y (st.ats.map Prod.fst) = C := ⟨_, rfl⟩
  rw [hC] at HATL
  have hCl : (C.length : Int) = y - x := by
   rw [<- hC]
   unfold seg
   rw [List.length_take, List.length_drop, List.length_map]
   omega
  have HCC := Lib.hid hC
  have HB3 := Lib.hid hb3.out
  obtain ⟨NC, hNC⟩ : ∃ NC, C.length = NC := ⟨_, rfl⟩
  rw [hNC] at hCl
  have hN1 : NC <= 65536 := by omega
  have hxN : x + (NC : Int) <= (st.ats.length : Int) := by omega
  have HNC := Lib.hid hNC
  obtain ⟨ie, ze, hie, he0, he1, he2, he3⟩ := edit_row
  have HIE := Lib.hid hie
  clear hw3 hC hb3 hCl hNC hie y0 y1 y2 y3 y4 HRW HLF HLN HX0 HX1 HXY lf ln hk hb12 hb1 hb2
  obtain ⟨y0, -, -, -, -⟩ := HCW.out w3 HB3.out
  go_wp2_with fail
  refine (HT.out _ HB3.out).mono ?_
  rintro e wz ⟨rfl, rfl⟩
  go_wp2_with fail
  refine (HATL.out _ HB3.out).mono ?_
  rintro e w4 ⟨v4, rfl, ho4, hb4⟩
  rw [HNC.out] at ho4
  obtain ⟨A4, c4, rfl, hc4⟩ := own_slice ho4
  have hI4 := (IntsI.of_own ho4).any
  have HI4 := Lib.hid hI4
  have HB4 := Lib.hid (bseq HB3.out hb4)
  clear hI4 ho4 hb4 y0 HATL
  go_wp2_with fail
  go_loopg [8, 46] NC (fun m q8 q46 wr => CaR F enc x C w4 m q8 q46 wr)
  case atStart => exact ⟨0, [], rfl, Nat.zero_le _, by have := HNC.out; omega, Lib.hid (EdsS.nil _ _), Lib.hid rfl, Below.refl _ _⟩
  case round =>
   obtain ⟨j, es, rfl, hjC, hm, hE, hes, hb⟩ := hrel
   rw [HNC.out] at hjC hm
   have hel : es.length <= j := by
    have h1 := congrArg List.length hes.out
    rw [List.length_map] at h1
    have h2 := caL_len F enc (C.take j) x
    rw [List.length_take] at h2
    omega
   have hs0 := hb.size
   have hwr := bseq HB4.out hb
   by_cases hgo : j < NC
   ·have q1 : ((j : Int) < (NC : Int)) = True := by simp; omega
    obtain ⟨ad, rfl, _, cx0⟩ := Ints.at_ (Reads.below HI4.out hb) hgo
    have hCj : C[j]? = some (C.getD j 0) := by
     rw [List.getD_eq_getElem?_getD, List.getElem?_eq_getElem (by have := HNC.out; omega)]
     rfl
    obtain ⟨a0, ha0⟩ : ∃ a0, C.getD j 0 = a0 := ⟨_, rfl⟩
    rw [ha0] at cx0 hCj
    obtain ⟨J1, hJ1⟩ : ∃ J1, j + 1 = J1 := ⟨_, rfl⟩
    have wj : IntKind.i64.wrap ((j : Int) + 1) = (J1 : Int) := by rw [IntWalk.i64_in _ (by omega)]; omega
    have HCJ := Lib.hid hCj
    have HJ1 := Lib.hid hJ1
    have he := HFN.out.enter
    obtain ⟨y0, -, -, -, y4⟩ := HCW.out wr hwr
    obtain ⟨fa, hfa⟩ : ∃ fa, F a0 = fa := ⟨_, rfl⟩
    have hcall := HFN.out.call a0
    rw [hfa] at hcall
    have HCALL := Lib.hid hcall
    have HFA := Lib.hid hfa
    clear ha0 hCj hJ1 hfa hcall
    go_wp2_with fail
    refine (HCALL.out _ hwr).mono ?_
    rintro e w5 ⟨rfl, hb5⟩
    have hw5 := bseq hwr hb5
    clear cx0 y0 y4 he
    obtain ⟨y0, -, -, -, -⟩ := HCW.out w5 hw5
    by_cases hne : fa = a0
    ·have q2 : (fa != a0) = false := by simp [hne]
     have hcp : caP F enc a0 = false := by
      unfold caP
      rw [HFA.out, decide_eq_false (fun h => h hne)]
      rfl
     have HCP := Lib.hid hcp
     clear hne hcp
     go_wp2_with fail
     go_roundg (NC - J1)
     case measure =>
      have := HJ1.out
      omega
     case rel =>
      have h1 := CaR.same HCJ.out hE.out hes.out hb hb5 (m := NC - J1) (by have := HJ1.out; have := HNC.out; omega) HCP.out
      rw [HJ1.out] at h1
      exact h1
    ·have q2 : (fa != a0) = true := by simp [hne]
     have HNE := Lib.hid hne
     have HFI := Lib.hid (cfits_any enc fa w5 HE4.out)
     clear hne
     go_wp2_with fail
     refine (HT.out _ hw5).mono ?_
     rintro e wz ⟨rfl, rfl⟩
     go_wp2_with fail
     refine (HEN.out _ hw5).mono ?_
     rintro e wz ⟨rfl, rfl⟩
     go_wp2_with fail
     refine (HFI.out).mono ?_
     rintro e w6 ⟨rfl, hb6⟩
     have hw56 := bseq hb5 hb6
     have hw46 := bseq hb hw56
     clear y0
     by_cases hft : 0 < szA enc fa
     ·have hcp : caP F enc a0 = true := by
       unfold caP
       rw [HFA.out, decide_eq_true HNE.out, decide_eq_true hft]
       rfl
      have HCP := Lib.hid hcp
      rw [decide_eq_true hft]
      clear hft hcp
      obtain ⟨A6, c6, rfl, hc6⟩ := own_slice hE.out.row
      have HP6 := Lib.hid (PutV.sole w6 w4.heap.size hw46.size fa)
      obtain ⟨z0, hz0⟩ : ∃ z0, x + (j : Int) = z0 := ⟨_, rfl⟩
      obtain ⟨z1, hz1⟩ : ∃ z1, z0 + 1 = z1 := ⟨_, rfl⟩
      have wz0 : IntKind.i64.wrap (x + (j : Int)) = z0 := by rw [IntWalk.i64_in _ (by omega)]; exact hz0
      have wz1 : IntKind.i64.wrap (z0 + 1) = z1 := by rw [IntWalk.i64_in _ (by omega)]; exact hz1
      have HZ := Lib.hid (And.intro hz0 hz1)
      clear hz0 hz1
      go_upto_region 14 with fail
      go_wp2_with (at_builtin; refine wpList_append_own_at _ rfl (.tmp 64) (.tmp 75) 77 rfl w4.heap.size 80 ie ze 3 40 Tryz.underlying77 HIE.out he0 he1 he2 he3 (by decide) (.slice A6 es.length c6) es.length _ rfl (((own_bel hE.out.row hw56).alloc _).alloc _) _ 1 1 [.int .i64 z0, .int .i64 z1, .slice (some ⟨w6.heap.size, 0, none⟩) 1 1] rfl rfl (cells_new1 _ _ _ _) (edit_one _ _ _ _ _) (by unfold maxLen; omega) (by omega) (by have := hw46.size; simp; omega) ?_)
      intro v1 w8 hown8 hgr _ _
      have hP8 := (PutV.at_ (f := z0) (t := z1) HP6.out).2.bel (balloc (o := .cells #[.int .i64 z0, .int .i64 z1, .slice (some ⟨w6.heap.size, 0, none⟩) 1 1] 80) (Below.refl _ _))
      have hE8 := hE.out.snoc (e := ⟨z0, z1, some ⟨w6.heap.size, 0, none⟩, 1, 1, [fa]⟩) (balloc (balloc hw56)) hP8 hgr hown8
      have hb8 : Below w4.heap.size w4 w8 := below_grown2 (balloc (balloc hw46)) hgr (fun k hk => own_ge hE.out.row hk)
      have HE8 := Lib.hid hE8
      clear hE8 hown8 hgr hP8
      go_wp2_with fail
      go_roundg (NC - J1)
      case measure =>
       have := HJ1.out
       omega
      case rel =>
       have h1 := CaR.more (m := NC - J1) HCJ.out HE8.out hes.out hb8 (by have := HJ1.out; have := HNC.out; omega) HCP.out (by unfold abE; rw [HFA.out, HZ.out.1, HZ.out.2])
       rw [HJ1.out] at h1
       exact h1
     ·have hcp : caP F enc a0 = false := by
       unfold caP
       rw [HFA.out, decide_eq_false hft, Bool.and_false]
      have HCP := Lib.hid hcp
      rw [decide_eq_false hft]
      clear hft hcp
      go_wp2_with fail
      go_roundg (NC - J1)
      case measure =>
       have := HJ1.out
       omega
      case rel =>
       have h1 := CaR.same HCJ.out hE.out hes.out hb hw56 (m := NC - J1) (by have := HJ1.out; have := HNC.out; omega) HCP.out
       rw [HJ1.out] at h1
       exact h1
   ·have q1 : ((j : Int) < (NC : Int)) = False := by simp; omega
    have hes' := hes.out
    rw [show C.take j = C by rw [List.take_of_length_le]; have := HNC.out; omega] at hes'
    have hpn := ca_putN C x es hes'
    have href := ca_ref (lim := lim) (ds := sizedA enc st.ats) (by rw [sizedA_len]; exact hlen) hes' (by omega) (by rw [sizedA_len, HNC.out]; exact hxN)
    obtain ⟨A6, c6, rfl, hc6⟩ := own_slice hE.out.row
    have hdc := dchange_any (c := c6) (HH.out.below hwr) HN.out (hE.out.eds rfl) (fun b hb _ => by
     rcases hb.2 with ⟨cs, hb⟩ | ⟨cs, hb⟩
     ·exact ⟨_, cs, hb, by decide⟩
     ·exact ⟨_, cs, hb, by decide⟩) (by have := HNC.out; omega) hnn HOM.out
    have HDC := Lib.hid hdc
    have HES := Lib.hid hes'
    have HRF := Lib.hid href
    obtain ⟨y0, -, -, -, -⟩ := HCW.out wr hwr
    clear hdc hes' hes hE hpn href
    go_wp2_with fail
    refine (HDC.out).mono ?_
    intro e w5 hP
    unfold DChgPost at hP
    rcases hP with ⟨h0, rfl, hd5, hf5⟩ | ⟨h0, rfl, hb5⟩
    ·have hf0 : DFr B (fun _ => False) w w5 := (DFr.of_below hwr).trans (DFr.of_bk hf5)
     clear y0
     have y0 := (hf5.blk (HK0.out.below hwr) (by decide)).cell 0
     simp only [List.getElem?_toArray, List.getElem?_cons_zero] at y0
     have HCL2 := Lib.hid (clamp_desk hd5 x)
     have HD5 := Lib.hid (And.intro h0 (And.intro hd5 hf0))
     clear h0 hd5 hf0 hf5
     go_wp2_with fail
     refine (HCL2.out).mono ?_
     rintro e w6 ⟨jj, rfl, hj1, hj2, hb6⟩
     have HJ := Lib.hid (And.intro hj1 (And.intro hj2 hb6))
     clear hj1 hj2 hb6
     go_wp2_with fail
     go_ret
     exact .inl ⟨es, jj, HNE0.out, by rw [HCC.out]; exact HES.out, HD5.out.1, HJ.out.1, HJ.out.2.1, rfl, HD5.out.2.1.below HJ.out.2.2, HD5.out.2.2.trans (DFr.of_below HJ.out.2.2)⟩
    ·have h50 := HRF.out.resolve_left h0
     rw [h50]
     have HZ := Lib.hid h50
     clear h0 h50
     go_wp2_with fail
     exact ⟨rfl, .inr ⟨50, .inr ⟨rfl, es, by rw [HCC.out]; exact HES.out, HZ.out⟩, rfl, (HH.out.below hwr).below hb5, DFr.of_below (bseq hwr hb5)⟩⟩
def tabC3 (l : List (Int × Int × Int)) : List Value := l.flatMap fun t => [.int .i64 t.1, .int .i64 t.2.1, .int .i64 t.2.2]
def tabC2 (l : List (Int × Int)) : List Value := l.flatMap fun t => [.int .i64 t.1, .int .i64 t.2]
def oneC : Array Value := (tabC3 oneT).toArray
def disC : Array Value := (tabC3 disT).toArray
def parC : Array Value := (tabC2 parT).toArray
def TabAt (w : World) (g : Nat) (cs : Array Value) : Prop := ∃ t fr, w.heap[g]? = some (.cells cs t fr)
theorem TabAt.lt {w : World} {g : Nat} {cs : Array Value} (h : TabAt w g cs) : g < w.heap.size := by
 obtain ⟨t, fr, h⟩ := h
 rcases Nat.lt_or_ge g w.heap.size with hlt | hge
 ·exact hlt
 ·rw [Array.getElem?_eq_none hge] at h; cases h
theorem TabAt.fr {w w' : World} {g : Nat} {cs : Array Value} {S : Nat -> Prop} (h : TabAt w g cs) (hf : Fr S w w') (hn : ¬ S g) : TabAt w' g cs := by
 have hl := h.lt
 obtain ⟨t, fr, h⟩ := h
 exact ⟨t, fr, (hf.block g hl hn).trans h⟩
theorem TabAt.below {w w' : World} {g : Nat} {cs : Array Value} (h : TabAt w g cs) (hb : Below w.heap.size w w') : TabAt w' g cs := by
 have hl := h.lt
 obtain ⟨t, fr, h⟩ := h
 exact ⟨t, fr, (hb.block g hl).trans h⟩
structure Tabs (w : World) : Prop where
 one : TabAt w 0 oneC
 dis : TabAt w 1 disC
 par : TabAt w 2 parC
theorem Tabs.below {w w' : World} (h : Tabs w) (hb : Below w.heap.size w w') : Tabs w' := ⟨h.one.below hb, h.dis.below hb, h.par.below hb⟩
theorem tab_sizes : (Tryz.prog.info? 150).map (·.size) = some oneC.size /\ (Tryz.prog.info? 151).map (·.size) = some disC.size /\ (Tryz.prog.info? 153).map (·.size) = some parC.size := ⟨by kernel_rfl, by kernel_rfl, by kernel_rfl⟩
theorem ix_one : ∀ (k : Nat), k < 9 -> ∃ u0 u1 u2 : Int, oneT.drop k = (u0, u1, u2) :: oneT.drop (k + 1) /\ (-1114111 <= u0 /\ u0 <= 1114111 /\ -1114111 <= u1 /\ u1 <= 1114111 /\ -1114111 <= u2 /\ u2 <= 1114111) /\ ∀ w, (Instr.index 150 (.agg oneC) (.int .i64 (k : Int))).run Tryz.prog w = .ok (.agg #[.int .i64 u0, .int .i64 u1, .int .i64 u2]) w
 | 0, _ => ⟨_, _, _, rfl, by decide, fun _ => by kernel_rfl⟩
 | 1, _ => ⟨_, _, _, rfl, by decide, fun _ => by kernel_rfl⟩
 | 2, _ => ⟨_, _, _, rfl, by decide, fun _ => by kernel_rfl⟩
 | 3, _ => ⟨_, _, _, rfl, by decide, fun _ => by kernel_rfl⟩
 | 4, _ => ⟨_, _, _, rfl, by decide, fun _ => by kernel_rfl⟩
 | 5, _ => ⟨_, _, _, rfl, by decide, fun _ => by kernel_rfl⟩
 | 6, _ => ⟨_, _, _, rfl, by decide, fun _ => by kernel_rfl⟩
 | 7, _ => ⟨_, _, _, rfl, by decide, fun _ => by kernel_rfl⟩
 | 8, _ => ⟨_, _, _, rfl, by decide, fun _ => by kernel_rfl⟩
 | k + 9, h => absurd h (by omega)
theorem ix_dis : ∀ (k : Nat), k < 19 -> ∃ u0 u1 u2 : Int, disT.drop k = (u0, u1, u2) :: disT.drop (k + 1) /\ (-1114111 <= u0 /\ u0 <= 1114111 /\ -1114111 <= u1 /\ u1 <= 1114111 /\ -1114111 <= u2 /\ u2 <= 1114111) /\ ∀ w, (Instr.index 151 (.agg disC) (.int .i64 (k : Int))).run Tryz.prog w = .ok (.agg #[.int .i64 u0, .int .i64 u1, .int .i64 u2]) w
 | 0, _ => ⟨_, _, _, rfl, by decide, fun _ => by kernel_rfl⟩
 | 1, _ => ⟨_, _, _, rfl, by decide, fun _ => by kernel_rfl⟩
 | 2, _ => ⟨_, _, _, rfl, by decide, fun _ => by kernel_rfl⟩
 | 3, _ => ⟨_, _, _, rfl, by decide, fun _ => by kernel_rfl⟩
 | 4, _ => ⟨_, _, _, rfl, by decide, fun _ => by kernel_rfl⟩
 | 5, _ => ⟨_, _, _, rfl, by decide, fun _ => by kernel_rfl⟩
 | 6, _ => ⟨_, _, _, rfl, by decide, fun _ => by kernel_rfl⟩
 | 7, _ => ⟨_, _, _, rfl, by decide, fun _ => by kernel_rfl⟩
 | 8, _ => ⟨_, _, _, rfl, by decide, fun _ => by kernel_rfl⟩
 | 9, _ => ⟨_, _, _, rfl, by decide, fun _ => by kernel_rfl⟩
 | 10, _ => ⟨_, _, _, rfl, by decide, fun _ => by kernel_rfl⟩
 | 11, _ => ⟨_, _, _, rfl, by decide, fun _ => by kernel_rfl⟩
 | 12, _ => ⟨_, _, _, rfl, by decide, fun _ => by kernel_rfl⟩
 | 13, _ => ⟨_, _, _, rfl, by decide, fun _ => by kernel_rfl⟩
 | 14, _ => ⟨_, _, _, rfl, by decide, fun _ => by kernel_rfl⟩
 | 15, _ => ⟨_, _, _, rfl, by decide, fun _ => by kernel_rfl⟩
 | 16, _ => ⟨_, _, _, rfl, by decide, fun _ => by kernel_rfl⟩
 | 17, _ => ⟨_, _, _, rfl, by decide, fun _ => by kernel_rfl⟩
 | 18, _ => ⟨_, _, _, rfl, by decide, fun _ => by kernel_rfl⟩
 | k + 19, h => absurd h (by omega)
theorem ix_par : ∀ (k : Nat), k < 19 -> ∃ u0 u1 : Int, parT.drop k = (u0, u1) :: parT.drop (k + 1) /\ (-1114111 <= u0 /\ u0 <= 1114111 /\ -1114111 <= u1 /\ u1 <= 1114111) /\ ∀ w, (Instr.index 153 (.agg parC) (.int .i64 (k : Int))).run Tryz.prog w = .ok (.agg #[.int .i64 u0, .int .i64 u1]) w
 | 0, _ => ⟨_, _, rfl, by decide, fun _ => by kernel_rfl⟩
 | 1, _ => ⟨_, _, rfl, by decide, fun _ => by kernel_rfl⟩
 | 2, _ => ⟨_, _, rfl, by decide, fun _ => by kernel_rfl⟩
 | 3, _ => ⟨_, _, rfl, by decide, fun _ => by kernel_rfl⟩
 | 4, _ => ⟨_, _, rfl, by decide, fun _ => by kernel_rfl⟩
 | 5, _ => ⟨_, _, rfl, by decide, fun _ => by kernel_rfl⟩
 | 6, _ => ⟨_, _, rfl, by decide, fun _ => by kernel_rfl⟩
 | 7, _ => ⟨_, _, rfl, by decide, fun _ => by kernel_rfl⟩
 | 8, _ => ⟨_, _, rfl, by decide, fun _ => by kernel_rfl⟩
 | 9, _ => ⟨_, _, rfl, by decide, fun _ => by kernel_rfl⟩
 | 10, _ => ⟨_, _, rfl, by decide, fun _ => by kernel_rfl⟩
 | 11, _ => ⟨_, _, rfl, by decide, fun _ => by kernel_rfl⟩
 | 12, _ => ⟨_, _, rfl, by decide, fun _ => by kernel_rfl⟩
 | 13, _ => ⟨_, _, rfl, by decide, fun _ => by kernel_rfl⟩
 | 14, _ => ⟨_, _, rfl, by decide, fun _ => by kernel_rfl⟩
 | 15, _ => ⟨_, _, rfl, by decide, fun _ => by kernel_rfl⟩
 | 16, _ => ⟨_, _, rfl, by decide, fun _ => by kernel_rfl⟩
 | 17, _ => ⟨_, _, rfl, by decide, fun _ => by kernel_rfl⟩
 | 18, _ => ⟨_, _, rfl, by decide, fun _ => by kernel_rfl⟩
 | k + 19, h => absurd h (by omega)
theorem TabR.step {α : Type} (f : List α -> Int) {T : List α} {k : Nat} {t : α} (hd : T.drop k = t :: T.drop (k + 1)) (hf : f T = f (T.drop k)) (hs : f (t :: T.drop (k + 1)) = f (T.drop (k + 1))) : f T = f (T.drop (k + 1)) := by rw [hf, hd, hs]
def TbR {α : Type} (f : List α -> Int) (T : List α) (N : Nat) (w : World) (m : Nat) (q : Value) (wr : World) : Prop :=
 ∃ k : Nat, q = .int .i64 (k : Int) /\ k <= N /\ N - k <= m /\ Hid (f T = f (T.drop k)) /\ Below w.heap.size w wr
theorem great_any (w : World) (hT : Tabs w) (a : Int) (ha : 0 <= a /\ a <= 1114111) : Calls Tryz.prog 42 #[.int .i64 a] w fun e w' => e = .returned (.int .i64 (greatF a)) /\ Below w.heap.size w w' := by
 have hl := fun (w' : World) (hb : Below w.heap.size w w') => (show TabAt w' 0 oneC /\ TabAt w' 1 disC /\ TabAt w' 2 parC from ⟨(hT.below hb).one, (hT.below hb).dis, (hT.below hb).par⟩)
 obtain ⟨z1, z2, z3⟩ := tab_sizes
 obtain ⟨C1, hC1⟩ : ∃ C, oneC = C := ⟨_, rfl⟩
 obtain ⟨C2, hC2⟩ : ∃ C, disC = C := ⟨_, rfl⟩
 obtain ⟨C3, hC3⟩ : ∃ C, parC = C := ⟨_, rfl⟩
 have i1 := ix_one
 have i2 := ix_dis
 have i3 := ix_par
 rw [hC1] at i1 hl z1
 rw [hC2] at i2 hl z2
 rw [hC3] at i3 hl z3
 have HL := Lib.hid hl
 have I1 := Lib.hid i1
 have I2 := Lib.hid i2
 have I3 := Lib.hid i3
 have Z1 := Lib.hid z1
 have Z2 := Lib.hid z2
 have Z3 := Lib.hid z3
 clear hC1 hC2 hC3 i1 i2 i3 hl hT z1 z2 z3
 have HG := Lib.hid (show greatF a = oneG (disG (parG a a parT) a disT) a oneT from rfl)
 go_enter Tryz.func42, Tryz.ntmps42
 obtain ⟨tt, fr, hg⟩ := (HL.out w (Below.refl _ _)).1
 go_wp2_with (refine wpList_load_row rfl 150 (.global 0) rfl 0 rfl tt C1 fr _ hg Tryz.underlying150 rfl Z1.out ?_)
 clear hg
 go_loopg [11] 9 (fun m q wr => TbR (oneG (disG (parG a a parT) a disT) a) oneT 9 w m q wr)
 case atStart => exact ⟨0, rfl, by omega, by omega, Lib.hid rfl, Below.refl _ _⟩
 case round =>
  obtain ⟨k, rfl, hk, hm, hf, hb⟩ := hrel
  by_cases hgo : k < 9
  ·have q : ((k : Int) < 9) = True := by simp; omega
   obtain ⟨u0, u1, u2, hd, hu, hix⟩ := I1.out k hgo
   have wk : IntKind.i64.wrap ((k : Int) + 1) = ((k + 1 : Nat) : Int) := by rw [IntWalk.i64_in _ (by omega)]; omega
   have HD := Lib.hid hd
   clear hd
   go_upto_region 4 with fail
   have hB := Blk.new wr 149 #[.int .i64 u0, .int .i64 u1, .int .i64 u2]
   have hb4 : Below w.heap.size w (wr.alloc (.cells #[.int .i64 u0, .int .i64 u1, .int .i64 u2] 149)) := hb.alloc hb.size _
   have c0 := hB.cell 0
   have c1 := hB.cell 1
   have c2 := hB.cell 2
   simp only [List.getElem?_toArray, List.getElem?_cons_succ, List.getElem?_cons_zero] at c0 c1 c2
   obtain ⟨w4, hw4⟩ : ∃ x, wr.alloc (.cells #[.int .i64 u0, .int .i64 u1, .int .i64 u2] 149) = x := ⟨_, rfl⟩
   rw [hw4] at hb4 c0 c1 c2 ⊢
   clear hw4 hB hix
   by_cases hua : u0 = a
   ·have q2 : (u0 == a) = true := by rw [beq_iff_eq]; exact hua
    have HU := Lib.hid hua
    clear hua
    go_wp2_with fail
    go_ret
    refine ⟨ret_i ?_, hb4⟩
    rw [HG.out, hf.out, HD.out]
    unfold oneG
    rw [if_pos HU.out]
   ·have q2 : (u0 == a) = false := by rw [beq_eq_false_iff_ne]; exact hua
    go_wp2_with fail
    go_roundg (9 - (k + 1))
    case measure => omega
    case rel =>
     refine ⟨k + 1, rfl, by omega, Nat.le_refl _, Lib.hid (TabR.step _ HD.out hf.out ?_), hb4⟩
     conv => lhs; unfold oneG
     rw [if_neg hua]
  ·have q : ((k : Int) < 9) = False := by simp; omega
   have hk9 : k = 9 := by omega
   have hg1 := hf.out
   rw [hk9, show oneT.drop 9 = [] from rfl] at hg1
   have HG := Lib.hid (HG.out.trans hg1)
   obtain ⟨w1, hw1⟩ : ∃ x, x = wr := ⟨_, rfl⟩
   subst hw1
   clear hk9 hg1 hf hk hm
   obtain ⟨tt, fr, hg⟩ := (HL.out w1 hb).2.1
   go_wp2_with (refine wpList_load_row rfl 151 (.global 1) rfl 1 rfl tt C2 fr _ hg Tryz.underlying151 rfl Z2.out ?_)
   clear hg q hgo
   go_loopg [22] 19 (fun m q wr => TbR (disG (parG a a parT) a) disT 19 w m q wr)
   case atStart => exact ⟨0, rfl, by omega, by omega, Lib.hid rfl, hb⟩
   case round =>
    obtain ⟨k, rfl, hk, hm, hf, hb⟩ := hrel
    by_cases hgo : k < 19
    ·have q : ((k : Int) < 19) = True := by simp; omega
     obtain ⟨u0, u1, u2, hd, hu, hix⟩ := I2.out k hgo
     have wk : IntKind.i64.wrap ((k : Int) + 1) = ((k + 1 : Nat) : Int) := by rw [IntWalk.i64_in _ (by omega)]; omega
     have HD := Lib.hid hd
     clear hd
     go_upto_region 10 with fail
     have hB := Blk.new wr 149 #[.int .i64 u0, .int .i64 u1, .int .i64 u2]
     have hb4 : Below w.heap.size w (wr.alloc (.cells #[.int .i64 u0, .int .i64 u1, .int .i64 u2] 149)) := hb.alloc hb.size _
     have c0 := hB.cell 0
     have c1 := hB.cell 1
     have c2 := hB.cell 2
     simp only [List.getElem?_toArray, List.getElem?_cons_succ, List.getElem?_cons_zero] at c0 c1 c2
     obtain ⟨w4, hw4⟩ : ∃ x, wr.alloc (.cells #[.int .i64 u0, .int .i64 u1, .int .i64 u2] 149) = x := ⟨_, rfl⟩
     rw [hw4] at hb4 c0 c1 c2 ⊢
     clear hw4 hB hix
     obtain ⟨x, hx⟩ : ∃ x, a - u2 = x := ⟨_, rfl⟩
     have wx : IntKind.i64.wrap (a - u2) = x := by rw [IntWalk.i64_in _ (by omega)]; exact hx
     have HX := Lib.hid hx
     clear hx
     have hiff : (u0 <= x /\ x <= u1) \/ ¬ (u0 <= x /\ x <= u1) := Classical.em _
     rcases hiff with hin | hin
     ·have q2 : (u0 <= x) = True := by simp; exact hin.1
      have q3 : (x <= u1) = True := by simp; exact hin.2
      have q4 : (x < u0) = False := by simp; omega
      have q5 : (u1 < x) = False := by simp; omega
      have HU := Lib.hid hin
      clear hin
      go_wp2_with fail
      go_ret
      refine ⟨ret_i ?_, hb4⟩
      rw [HG.out, hf.out, HD.out]
      unfold disG
      dsimp only
      rw [if_pos (by have := HU.out; have := HX.out; omega)]
      exact HX.out.symm
     ·have HU := Lib.hid hin
      have hno : disG (parG a a parT) a ((u0, u1, u2) :: disT.drop (k + 1)) = disG (parG a a parT) a (disT.drop (k + 1)) := by
       conv => lhs; unfold disG
       dsimp only
       rw [if_neg (by have := HX.out; omega)]
      have HNO := Lib.hid hno
      clear hno
      by_cases h1 : u0 <= x
      ·have h2 : ¬ x <= u1 := fun h => hin ⟨h1, h⟩
       have q2 : (u0 <= x) = True := by simp; exact h1
       have q3 : (x <= u1) = False := by simp; omega
       have q4 : (x < u0) = False := by simp; omega
       have q5 : (u1 < x) = True := by simp; omega
       clear hin h1 h2
       go_wp2_with fail
       go_roundg (19 - (k + 1))
       case measure => omega
       case rel => exact ⟨k + 1, rfl, by omega, Nat.le_refl _, Lib.hid (TabR.step _ HD.out hf.out HNO.out), hb4⟩
      ·have q2 : (u0 <= x) = False := by simp; omega
       have q4 : (x < u0) = True := by simp; omega
       clear hin h1
       go_wp2_with fail
       go_roundg (19 - (k + 1))
       case measure => omega
       case rel => exact ⟨k + 1, rfl, by omega, Nat.le_refl _, Lib.hid (TabR.step _ HD.out hf.out HNO.out), hb4⟩
    ·have q : ((k : Int) < 19) = False := by simp; omega
     have hk9 : k = 19 := by omega
     have hg1 := hf.out
     rw [hk9, show disT.drop 19 = [] from rfl] at hg1
     have HG := Lib.hid (HG.out.trans hg1)
     obtain ⟨w2, hw2⟩ : ∃ x, x = wr := ⟨_, rfl⟩
     subst hw2
     clear hk9 hg1 hf hk hm
     obtain ⟨tt, fr, hg⟩ := (HL.out w2 hb).2.2
     go_wp2_with (refine wpList_load_row rfl 153 (.global 2) rfl 2 rfl tt C3 fr _ hg Tryz.underlying153 rfl Z3.out ?_)
     clear hg q hgo
     go_loopg [42] 19 (fun m q wr => TbR (parG a a) parT 19 w m q wr)
     case atStart => exact ⟨0, rfl, by omega, by omega, Lib.hid rfl, hb⟩
     case round =>
      obtain ⟨k, rfl, hk, hm, hf, hb⟩ := hrel
      by_cases hgo : k < 19
      ·have q : ((k : Int) < 19) = True := by simp; omega
       obtain ⟨u0, u1, hd, hu, hix⟩ := I3.out k hgo
       have wk : IntKind.i64.wrap ((k : Int) + 1) = ((k + 1 : Nat) : Int) := by rw [IntWalk.i64_in _ (by omega)]; omega
       have HD := Lib.hid hd
       clear hd
       go_upto_region 17 with fail
       have hB := Blk.new wr 152 #[.int .i64 u0, .int .i64 u1]
       have hb4 : Below w.heap.size w (wr.alloc (.cells #[.int .i64 u0, .int .i64 u1] 152)) := hb.alloc hb.size _
       have c0 := hB.cell 0
       have c1 := hB.cell 1
       simp only [List.getElem?_toArray, List.getElem?_cons_succ, List.getElem?_cons_zero] at c0 c1
       obtain ⟨w4, hw4⟩ : ∃ x, wr.alloc (.cells #[.int .i64 u0, .int .i64 u1] 152) = x := ⟨_, rfl⟩
       rw [hw4] at hb4 c0 c1 ⊢
       clear hw4 hB hix
       obtain ⟨y, hy⟩ : ∃ y, a - u0 = y := ⟨_, rfl⟩
       have wy : IntKind.i64.wrap (a - u0) = y := by rw [IntWalk.i64_in _ (by omega)]; exact hy
       have HY := Lib.hid hy
       clear hy
       have hno : ¬ (u0 <= a /\ a <= u1 /\ (a - u0) % 2 = 1) -> parG a a ((u0, u1) :: parT.drop (k + 1)) = parG a a (parT.drop (k + 1)) := fun h => by
        conv => lhs; unfold parG
        dsimp only
        rw [if_neg h]
       have HNO := Lib.hid hno
       clear hno
       by_cases h1 : u0 <= a
       ·by_cases h2 : a <= u1
        ·have q2 : (u0 <= a) = True := by simp; exact h1
         have q3 : (a <= u1) = True := by simp; exact h2
         have q4 : (a < u0) = False := by simp; omega
         have q5 : (u1 < a) = False := by simp; omega
         have HT2 := Lib.hid (show y.tmod 2 = (a - u0) % 2 by rw [HY.out]; exact Int.tmod_eq_emod_of_nonneg (by have := HY.out; omega))
         have H12 := Lib.hid (And.intro h1 h2)
         clear h1 h2
         by_cases h3 : y.tmod 2 = 1
         ·have q6 : (y.tmod 2 == 1) = true := by rw [beq_iff_eq]; exact h3
          have wm : IntKind.i64.wrap (a - 1) = a - 1 := IntWalk.i64_in _ (by omega)
          have HIN := Lib.hid (show u0 <= a /\ a <= u1 /\ (a - u0) % 2 = 1 from ⟨H12.out.1, H12.out.2, by rw [<- HT2.out]; exact h3⟩)
          clear h3
          go_wp2_with fail
          go_ret
          refine ⟨ret_i ?_, hb4⟩
          rw [HG.out, hf.out, HD.out]
          unfold parG
          dsimp only
          rw [if_pos HIN.out]
          rfl
         ·have q6 : (y.tmod 2 == 1) = false := by rw [beq_eq_false_iff_ne]; exact h3
          have HIN := Lib.hid (show ¬ (u0 <= a /\ a <= u1 /\ (a - u0) % 2 = 1) from fun h => h3 (by rw [HT2.out]; exact h.2.2))
          clear h3
          go_wp2_with fail
          go_roundg (19 - (k + 1))
          case measure => omega
          case rel => exact ⟨k + 1, rfl, by omega, Nat.le_refl _, Lib.hid (TabR.step _ HD.out hf.out (HNO.out HIN.out)), hb4⟩
        ·have q2 : (u0 <= a) = True := by simp; exact h1
         have q3 : (a <= u1) = False := by simp; omega
         have q4 : (a < u0) = False := by simp; omega
         have q5 : (u1 < a) = True := by simp; omega
         have HIN := Lib.hid (show ¬ (u0 <= a /\ a <= u1 /\ (a - u0) % 2 = 1) from fun h => h2 h.2.1)
         clear h1 h2
         go_wp2_with fail
         go_roundg (19 - (k + 1))
         case measure => omega
         case rel => exact ⟨k + 1, rfl, by omega, Nat.le_refl _, Lib.hid (TabR.step _ HD.out hf.out (HNO.out HIN.out)), hb4⟩
       ·have q2 : (u0 <= a) = False := by simp; omega
        have q4 : (a < u0) = True := by simp; omega
        have HIN := Lib.hid (show ¬ (u0 <= a /\ a <= u1 /\ (a - u0) % 2 = 1) from fun h => h1 h.1)
        clear h1
        go_wp2_with fail
        go_roundg (19 - (k + 1))
        case measure => omega
        case rel => exact ⟨k + 1, rfl, by omega, Nat.le_refl _, Lib.hid (TabR.step _ HD.out hf.out (HNO.out HIN.out)), hb4⟩
      ·have q : ((k : Int) < 19) = False := by simp; omega
       have hk9 : k = 19 := by omega
       have hg1 := hf.out
       rw [hk9, show parT.drop 19 = [] from rfl] at hg1
       have HG := Lib.hid (HG.out.trans hg1)
       clear hk9 hg1 hf hk hm
       go_wp2_with fail
       go_ret
       exact ⟨ret_i HG.out.symm, hb⟩
theorem small_any (w : World) (hT : Tabs w) (a : Int) (ha : 0 <= a /\ a <= 1114111) : Calls Tryz.prog 43 #[.int .i64 a] w fun e w' => e = .returned (.int .i64 (smallF a)) /\ Below w.heap.size w w' := by
 have hl := fun (w' : World) (hb : Below w.heap.size w w') => (show TabAt w' 0 oneC /\ TabAt w' 1 disC /\ TabAt w' 2 parC from ⟨(hT.below hb).one, (hT.below hb).dis, (hT.below hb).par⟩)
 obtain ⟨z1, z2, z3⟩ := tab_sizes
 obtain ⟨C1, hC1⟩ : ∃ C, oneC = C := ⟨_, rfl⟩
 obtain ⟨C2, hC2⟩ : ∃ C, disC = C := ⟨_, rfl⟩
 obtain ⟨C3, hC3⟩ : ∃ C, parC = C := ⟨_, rfl⟩
 have i1 := ix_one
 have i2 := ix_dis
 have i3 := ix_par
 rw [hC1] at i1 hl z1
 rw [hC2] at i2 hl z2
 rw [hC3] at i3 hl z3
 have HL := Lib.hid hl
 have I1 := Lib.hid i1
 have I2 := Lib.hid i2
 have I3 := Lib.hid i3
 have Z1 := Lib.hid z1
 have Z2 := Lib.hid z2
 have Z3 := Lib.hid z3
 clear hC1 hC2 hC3 i1 i2 i3 hl hT z1 z2 z3
 have HG := Lib.hid (show smallF a = oneS (disS (parS a a parT) a disT) a oneT from rfl)
 go_enter Tryz.func43, Tryz.ntmps43
 obtain ⟨tt, fr, hg⟩ := (HL.out w (Below.refl _ _)).1
 go_wp2_with (refine wpList_load_row rfl 150 (.global 0) rfl 0 rfl tt C1 fr _ hg Tryz.underlying150 rfl Z1.out ?_)
 clear hg
 go_loopg [10] 9 (fun m q wr => TbR (oneS (disS (parS a a parT) a disT) a) oneT 9 w m q wr)
 case atStart => exact ⟨0, rfl, by omega, by omega, Lib.hid rfl, Below.refl _ _⟩
 case round =>
  obtain ⟨k, rfl, hk, hm, hf, hb⟩ := hrel
  by_cases hgo : k < 9
  ·have q : ((k : Int) < 9) = True := by simp; omega
   obtain ⟨u0, u1, u2, hd, hu, hix⟩ := I1.out k hgo
   have wk : IntKind.i64.wrap ((k : Int) + 1) = ((k + 1 : Nat) : Int) := by rw [IntWalk.i64_in _ (by omega)]; omega
   have HD := Lib.hid hd
   clear hd
   go_upto_region 4 with fail
   have hB := Blk.new wr 149 #[.int .i64 u0, .int .i64 u1, .int .i64 u2]
   have hb4 : Below w.heap.size w (wr.alloc (.cells #[.int .i64 u0, .int .i64 u1, .int .i64 u2] 149)) := hb.alloc hb.size _
   have c0 := hB.cell 0
   have c1 := hB.cell 1
   have c2 := hB.cell 2
   simp only [List.getElem?_toArray, List.getElem?_cons_succ, List.getElem?_cons_zero] at c0 c1 c2
   obtain ⟨w4, hw4⟩ : ∃ x, wr.alloc (.cells #[.int .i64 u0, .int .i64 u1, .int .i64 u2] 149) = x := ⟨_, rfl⟩
   rw [hw4] at hb4 c0 c1 c2 ⊢
   clear hw4 hB hix
   by_cases hua : u0 = a
   ·have q2 : (u0 == a) = true := by rw [beq_iff_eq]; exact hua
    have HU := Lib.hid hua
    clear hua
    go_wp2_with fail
    go_ret
    refine ⟨ret_i ?_, hb4⟩
    rw [HG.out, hf.out, HD.out]
    unfold oneS
    rw [if_pos HU.out]
   ·have q2 : (u0 == a) = false := by rw [beq_eq_false_iff_ne]; exact hua
    go_wp2_with fail
    go_roundg (9 - (k + 1))
    case measure => omega
    case rel =>
     refine ⟨k + 1, rfl, by omega, Nat.le_refl _, Lib.hid (TabR.step _ HD.out hf.out ?_), hb4⟩
     conv => lhs; unfold oneS
     rw [if_neg hua]
  ·have q : ((k : Int) < 9) = False := by simp; omega
   have hk9 : k = 9 := by omega
   have hg1 := hf.out
   rw [hk9, show oneT.drop 9 = [] from rfl] at hg1
   have HG := Lib.hid (HG.out.trans hg1)
   obtain ⟨w1, hw1⟩ : ∃ x, x = wr := ⟨_, rfl⟩
   subst hw1
   clear hk9 hg1 hf hk hm
   obtain ⟨tt, fr, hg⟩ := (HL.out w1 hb).2.1
   go_wp2_with (refine wpList_load_row rfl 151 (.global 1) rfl 1 rfl tt C2 fr _ hg Tryz.underlying151 rfl Z2.out ?_)
   clear hg q hgo
   go_loopg [21] 19 (fun m q wr => TbR (disS (parS a a parT) a) disT 19 w m q wr)
   case atStart => exact ⟨0, rfl, by omega, by omega, Lib.hid rfl, hb⟩
   case round =>
    obtain ⟨k, rfl, hk, hm, hf, hb⟩ := hrel
    by_cases hgo : k < 19
    ·have q : ((k : Int) < 19) = True := by simp; omega
     obtain ⟨u0, u1, u2, hd, hu, hix⟩ := I2.out k hgo
     have wk : IntKind.i64.wrap ((k : Int) + 1) = ((k + 1 : Nat) : Int) := by rw [IntWalk.i64_in _ (by omega)]; omega
     have HD := Lib.hid hd
     clear hd
     go_upto_region 10 with fail
     have hB := Blk.new wr 149 #[.int .i64 u0, .int .i64 u1, .int .i64 u2]
     have hb4 : Below w.heap.size w (wr.alloc (.cells #[.int .i64 u0, .int .i64 u1, .int .i64 u2] 149)) := hb.alloc hb.size _
     have c0 := hB.cell 0
     have c1 := hB.cell 1
     have c2 := hB.cell 2
     simp only [List.getElem?_toArray, List.getElem?_cons_succ, List.getElem?_cons_zero] at c0 c1 c2
     obtain ⟨w4, hw4⟩ : ∃ x, wr.alloc (.cells #[.int .i64 u0, .int .i64 u1, .int .i64 u2] 149) = x := ⟨_, rfl⟩
     rw [hw4] at hb4 c0 c1 c2 ⊢
     clear hw4 hB hix
     obtain ⟨x, hx⟩ : ∃ x, a + u2 = x := ⟨_, rfl⟩
     have wx : IntKind.i64.wrap (a + u2) = x := by rw [IntWalk.i64_in _ (by omega)]; exact hx
     have HX := Lib.hid hx
     clear hx
     have hiff : (u0 <= a /\ a <= u1) \/ ¬ (u0 <= a /\ a <= u1) := Classical.em _
     rcases hiff with hin | hin
     ·have q2 : (u0 <= a) = True := by simp; exact hin.1
      have q3 : (a <= u1) = True := by simp; exact hin.2
      have q4 : (a < u0) = False := by simp; omega
      have q5 : (u1 < a) = False := by simp; omega
      have HU := Lib.hid hin
      clear hin
      go_wp2_with fail
      go_ret
      refine ⟨ret_i ?_, hb4⟩
      rw [HG.out, hf.out, HD.out]
      unfold disS
      dsimp only
      rw [if_pos (by have := HU.out; have := HX.out; omega)]
      exact HX.out.symm
     ·have HU := Lib.hid hin
      have hno : disS (parS a a parT) a ((u0, u1, u2) :: disT.drop (k + 1)) = disS (parS a a parT) a (disT.drop (k + 1)) := by
       conv => lhs; unfold disS
       dsimp only
       rw [if_neg (by have := HX.out; omega)]
      have HNO := Lib.hid hno
      clear hno
      by_cases h1 : u0 <= a
      ·have h2 : ¬ a <= u1 := fun h => hin ⟨h1, h⟩
       have q2 : (u0 <= a) = True := by simp; exact h1
       have q3 : (a <= u1) = False := by simp; omega
       have q4 : (a < u0) = False := by simp; omega
       have q5 : (u1 < a) = True := by simp; omega
       clear hin h1 h2
       go_wp2_with fail
       go_roundg (19 - (k + 1))
       case measure => omega
       case rel => exact ⟨k + 1, rfl, by omega, Nat.le_refl _, Lib.hid (TabR.step _ HD.out hf.out HNO.out), hb4⟩
      ·have q2 : (u0 <= a) = False := by simp; omega
       have q4 : (a < u0) = True := by simp; omega
       clear hin h1
       go_wp2_with fail
       go_roundg (19 - (k + 1))
       case measure => omega
       case rel => exact ⟨k + 1, rfl, by omega, Nat.le_refl _, Lib.hid (TabR.step _ HD.out hf.out HNO.out), hb4⟩
    ·have q : ((k : Int) < 19) = False := by simp; omega
     have hk9 : k = 19 := by omega
     have hg1 := hf.out
     rw [hk9, show disT.drop 19 = [] from rfl] at hg1
     have HG := Lib.hid (HG.out.trans hg1)
     obtain ⟨w2, hw2⟩ : ∃ x, x = wr := ⟨_, rfl⟩
     subst hw2
     clear hk9 hg1 hf hk hm
     obtain ⟨tt, fr, hg⟩ := (HL.out w2 hb).2.2
     go_wp2_with (refine wpList_load_row rfl 153 (.global 2) rfl 2 rfl tt C3 fr _ hg Tryz.underlying153 rfl Z3.out ?_)
     clear hg q hgo
     go_loopg [40] 19 (fun m q wr => TbR (parS a a) parT 19 w m q wr)
     case atStart => exact ⟨0, rfl, by omega, by omega, Lib.hid rfl, hb⟩
     case round =>
      obtain ⟨k, rfl, hk, hm, hf, hb⟩ := hrel
      by_cases hgo : k < 19
      ·have q : ((k : Int) < 19) = True := by simp; omega
       obtain ⟨u0, u1, hd, hu, hix⟩ := I3.out k hgo
       have wk : IntKind.i64.wrap ((k : Int) + 1) = ((k + 1 : Nat) : Int) := by rw [IntWalk.i64_in _ (by omega)]; omega
       have HD := Lib.hid hd
       clear hd
       go_upto_region 16 with fail
       have hB := Blk.new wr 152 #[.int .i64 u0, .int .i64 u1]
       have hb4 : Below w.heap.size w (wr.alloc (.cells #[.int .i64 u0, .int .i64 u1] 152)) := hb.alloc hb.size _
       have c0 := hB.cell 0
       have c1 := hB.cell 1
       simp only [List.getElem?_toArray, List.getElem?_cons_succ, List.getElem?_cons_zero] at c0 c1
       obtain ⟨w4, hw4⟩ : ∃ x, wr.alloc (.cells #[.int .i64 u0, .int .i64 u1] 152) = x := ⟨_, rfl⟩
       rw [hw4] at hb4 c0 c1 ⊢
       clear hw4 hB hix
       obtain ⟨y, hy⟩ : ∃ y, a - u0 = y := ⟨_, rfl⟩
       have wy : IntKind.i64.wrap (a - u0) = y := by rw [IntWalk.i64_in _ (by omega)]; exact hy
       have HY := Lib.hid hy
       clear hy
       have hno : ¬ (u0 <= a /\ a <= u1 /\ (a - u0) % 2 = 0) -> parS a a ((u0, u1) :: parT.drop (k + 1)) = parS a a (parT.drop (k + 1)) := fun h => by
        conv => lhs; unfold parS
        dsimp only
        rw [if_neg h]
       have HNO := Lib.hid hno
       clear hno
       by_cases h1 : u0 <= a
       ·by_cases h2 : a <= u1
        ·have q2 : (u0 <= a) = True := by simp; exact h1
         have q3 : (a <= u1) = True := by simp; exact h2
         have q4 : (a < u0) = False := by simp; omega
         have q5 : (u1 < a) = False := by simp; omega
         have HT2 := Lib.hid (show y.tmod 2 = (a - u0) % 2 by rw [HY.out]; exact Int.tmod_eq_emod_of_nonneg (by have := HY.out; omega))
         have H12 := Lib.hid (And.intro h1 h2)
         clear h1 h2
         by_cases h3 : y.tmod 2 = 0
         ·have q6 : (y.tmod 2 == 0) = true := by rw [beq_iff_eq]; exact h3
          have wm : IntKind.i64.wrap (a + 1) = a + 1 := IntWalk.i64_in _ (by omega)
          have HIN := Lib.hid (show u0 <= a /\ a <= u1 /\ (a - u0) % 2 = 0 from ⟨H12.out.1, H12.out.2, by rw [<- HT2.out]; exact h3⟩)
          clear h3
          go_wp2_with fail
          go_ret
          refine ⟨ret_i ?_, hb4⟩
          rw [HG.out, hf.out, HD.out]
          unfold parS
          dsimp only
          rw [if_pos HIN.out]
          rfl
         ·have q6 : (y.tmod 2 == 0) = false := by rw [beq_eq_false_iff_ne]; exact h3
          have HIN := Lib.hid (show ¬ (u0 <= a /\ a <= u1 /\ (a - u0) % 2 = 0) from fun h => h3 (by rw [HT2.out]; exact h.2.2))
          clear h3
          go_wp2_with fail
          go_roundg (19 - (k + 1))
          case measure => omega
          case rel => exact ⟨k + 1, rfl, by omega, Nat.le_refl _, Lib.hid (TabR.step _ HD.out hf.out (HNO.out HIN.out)), hb4⟩
        ·have q2 : (u0 <= a) = True := by simp; exact h1
         have q3 : (a <= u1) = False := by simp; omega
         have q4 : (a < u0) = False := by simp; omega
         have q5 : (u1 < a) = True := by simp; omega
         have HIN := Lib.hid (show ¬ (u0 <= a /\ a <= u1 /\ (a - u0) % 2 = 0) from fun h => h2 h.2.1)
         clear h1 h2
         go_wp2_with fail
         go_roundg (19 - (k + 1))
         case measure => omega
         case rel => exact ⟨k + 1, rfl, by omega, Nat.le_refl _, Lib.hid (TabR.step _ HD.out hf.out (HNO.out HIN.out)), hb4⟩
       ·have q2 : (u0 <= a) = False := by simp; omega
        have q4 : (a < u0) = True := by simp; omega
        have HIN := Lib.hid (show ¬ (u0 <= a /\ a <= u1 /\ (a - u0) % 2 = 0) from fun h => h1 h.1)
        clear h1
        go_wp2_with fail
        go_roundg (19 - (k + 1))
        case measure => omega
        case rel => exact ⟨k + 1, rfl, by omega, Nat.le_refl _, Lib.hid (TabR.step _ HD.out hf.out (HNO.out HIN.out)), hb4⟩
      ·have q : ((k : Int) < 19) = False := by simp; omega
       have hk9 : k = 19 := by omega
       have hg1 := hf.out
       rw [hk9, show parT.drop 19 = [] from rfl] at hg1
       have HG := Lib.hid (HG.out.trans hg1)
       clear hk9 hg1 hf hk hm
       go_wp2_with fail
       go_ret
       exact ⟨ret_i HG.out.symm, hb⟩
theorem sc_bd {a : Int} (h : scalarB a = true) : 0 <= a /\ a <= 1114111 := by
 unfold scalarB at h
 rw [decide_eq_true_eq] at h
 omega
theorem upper_any (w : World) (hT : Tabs w) (a : Int) : Calls Tryz.prog 14 #[.int .i64 a] w fun e w' => e = .returned (.int .i64 (upF a)) /\ Below w.heap.size w w' := by
 have HS := Lib.hid (scalar_any a w)
 have HGR := Lib.hid (fun h => great_any w hT a (sc_bd h))
 have HU := Lib.hid (show upF a = if scalarB a = true then greatF a else a from rfl)
 clear hT
 cases hs : scalarB a with
 | true =>
  have HGR := Lib.hid (HGR.out hs)
  rw [hs] at HS HU
  clear hs
  go_enter Tryz.func14, Tryz.ntmps14
  go_wp2_with fail
  refine (HS.out).mono ?_
  rintro e w1 ⟨rfl, rfl⟩
  go_wp2_with fail
  refine (HGR.out).mono ?_
  rintro e w1 ⟨rfl, hb⟩
  go_wp2_with fail
  go_ret
  exact ⟨ret_i (by rw [HU.out, if_pos trivial]), hb⟩
 | false =>
  rw [hs] at HS HU
  clear hs
  go_enter Tryz.func14, Tryz.ntmps14
  go_wp2_with fail
  refine (HS.out).mono ?_
  rintro e w1 ⟨rfl, rfl⟩
  go_wp2_with fail
  go_ret
  exact ⟨ret_i (by rw [HU.out, if_neg (by decide)]), Below.refl _ _⟩
theorem lower_any (w : World) (hT : Tabs w) (a : Int) : Calls Tryz.prog 15 #[.int .i64 a] w fun e w' => e = .returned (.int .i64 (loF a)) /\ Below w.heap.size w w' := by
 have HS := Lib.hid (scalar_any a w)
 have HGR := Lib.hid (fun h => small_any w hT a (sc_bd h))
 have HU := Lib.hid (show loF a = if scalarB a = true then smallF a else a from rfl)
 clear hT
 cases hs : scalarB a with
 | true =>
  have HGR := Lib.hid (HGR.out hs)
  rw [hs] at HS HU
  clear hs
  go_enter Tryz.func15, Tryz.ntmps15
  go_wp2_with fail
  refine (HS.out).mono ?_
  rintro e w1 ⟨rfl, rfl⟩
  go_wp2_with fail
  refine (HGR.out).mono ?_
  rintro e w1 ⟨rfl, hb⟩
  go_wp2_with fail
  go_ret
  exact ⟨ret_i (by rw [HU.out, if_pos trivial]), hb⟩
 | false =>
  rw [hs] at HS HU
  clear hs
  go_enter Tryz.func15, Tryz.ntmps15
  go_wp2_with fail
  refine (HS.out).mono ?_
  rintro e w1 ⟨rfl, rfl⟩
  go_wp2_with fail
  go_ret
  exact ⟨ret_i (by rw [HU.out, if_neg (by decide)]), Below.refl _ _⟩
def turnF (a : Int) : Int := if upF a ≠ a then upF a else loF a
theorem turn_any (w : World) (hT : Tabs w) (a : Int) : Calls Tryz.prog 30 #[.int .i64 a] w fun e w' => e = .returned (.int .i64 (turnF a)) /\ Below w.heap.size w w' := by
 have HUP := Lib.hid (upper_any w hT a)
 have HLO := Lib.hid (fun (w' : World) (hb : Below w.heap.size w w') => lower_any w' (hT.below hb) a)
 have HT := Lib.hid (show turnF a = if upF a ≠ a then upF a else loF a from rfl)
 obtain ⟨u, hu⟩ : ∃ u, upF a = u := ⟨_, rfl⟩
 rw [hu] at HUP HT
 clear hT hu
 by_cases h : u = a
 ·have q : (u == a) = true := by rw [beq_iff_eq]; exact h
  have q2 : (u != a) = false := by simp [h]
  have HH := Lib.hid h
  clear h
  go_enter Tryz.func30, Tryz.ntmps30
  go_wp2_with fail
  refine (HUP.out).mono ?_
  rintro e w1 ⟨rfl, hb⟩
  go_wp2_with fail
  refine (HLO.out _ hb).mono ?_
  rintro e w2 ⟨rfl, hb2⟩
  go_wp2_with fail
  go_ret
  exact ⟨ret_i (by rw [HT.out, if_neg (fun h => h HH.out)]), bseq hb hb2⟩
 ·have q : (u == a) = false := by rw [beq_eq_false_iff_ne]; exact h
  have q2 : (u != a) = true := by simp [h]
  have HH := Lib.hid h
  clear h
  go_enter Tryz.func30, Tryz.ntmps30
  go_wp2_with fail
  refine (HUP.out).mono ?_
  rintro e w1 ⟨rfl, hb⟩
  go_wp2_with fail
  go_ret
  exact ⟨ret_i (by rw [HT.out, if_pos HH.out]), hb⟩
def TabsB (Z : Nat) (w : World) : Prop := Tabs w /\ 0 < Z /\ 1 < Z /\ 2 < Z
theorem TabsB.of {w : World} (h : Tabs w) : TabsB w.heap.size w := ⟨h, h.one.lt, h.dis.lt, h.par.lt⟩
theorem TabsB.fr {Z : Nat} {S : Nat -> Prop} {w w' : World} (h : TabsB Z w) (hf : Fr S w w') (hS : ∀ b, b < Z -> ¬ S b) : TabsB Z w' := by
 obtain ⟨⟨h1, h2, h3⟩, h4, h5, h6⟩ := h
 exact ⟨⟨h1.fr hf (hS _ h4), h2.fr hf (hS _ h5), h3.fr hf (hS _ h6)⟩, h4, h5, h6⟩
theorem TabsB.dfr {Z B : Nat} {X : Nat -> Prop} {w w' : World} (h : TabsB Z w) (hZ : Z <= B) (hf : DFr B X w w') (hX : ∀ b, b < Z -> ¬ X b) : TabsB Z w' := h.fr hf (fun b hb hs => by
 rcases hs with ⟨h, _⟩ | h
 ·omega
 ·exact hX b hb h)
theorem TabsB.below {Z : Nat} {w w' : World} (h : TabsB Z w) (hb : Below w.heap.size w w') : TabsB Z w' := ⟨h.1.below hb, h.2⟩
def CaHow (how : Int) (F : Int -> Int) (fid : FuncId) : Prop := (how = 5 /\ F = upF /\ fid = 14) \/ (how = 6 /\ F = loF /\ fid = 15) \/ (how = 7 /\ F = turnF /\ fid = 30)
theorem CaHow.fn {how : Int} {F : Int -> Int} {fid : FuncId} (h : CaHow how F fid) {w : World} (hT : Tabs w) : CaFn F fid w := by
 rcases h with ⟨_, rfl, rfl⟩ | ⟨_, rfl, rfl⟩ | ⟨_, rfl, rfl⟩
 ·exact ⟨Tryz.call14, fun a w' hb => upper_any w' (hT.below hb) a⟩
 ·exact ⟨Tryz.call15, fun a w' hb => lower_any w' (hT.below hb) a⟩
 ·exact ⟨Tryz.call30, fun a w' hb => turn_any w' (hT.below hb) a⟩
def CasePost (B gd gb g : Nat) (enc lim : Int) (n : Nat) (st : BkS) (dc : Array Value) (F : Int -> Int) (x y kd : Int) (w : World) (r : Int) (w' : World) : Prop :=
 (r = 0 /\ ∃ (es : List Ed) (c v : Int) (j : Nat), (kd = 0 -> x ≠ y) /\ es.map abE = caL F enc x (seg x y (st.ats.map Prod.fst)) /\ refF enc lim (sizedA enc st.ats) es = 0 /\ ClampOk (sizedA enc (edA es st.ats)) x j /\ j <= nC (cont (sizedA enc (edA es st.ats)) (rowIx (sizedA enc (edA es st.ats)) x false)) /\
  v = (lineF (sizedA enc (edA es st.ats)) (rowIx (sizedA enc (edA es st.ats)) x false)).from_ + (mkb (cont (sizedA enc (edA es st.ats)) (rowIx (sizedA enc (edA es st.ats)) x false)) j : Int) /\ (0 <= v /\ v <= ((edA es st.ats).length : Int)) /\
  DeskIs w' B gd gb g enc lim (n + 131072) (shiftS st es c v) (dc.setIfInBounds 2 (.int .i64 v)) /\ DFr B (· = gd) w w') \/
 (((r = 120 /\ kd = 0 /\ x = y) \/ (r = 50 /\ ∃ es : List Ed, es.map abE = caL F enc x (seg x y (st.ats.map Prod.fst)) /\ refF enc lim (sizedA enc st.ats) es = 50)) /\ DeskIs w' B gd gb g enc lim n st dc /\ DFr B (fun _ => False) w w')
theorem case_work (Z B gd gb g n b0 b1 b2 : Nat) (enc lim a b kd c : Int) (how : Int) (F : Int -> Int) (fid : FuncId) (st : BkS) (dc : Array Value) (w0 w : World) (hw0 : Below w0.heap.size w0 w) (h : DeskIs w B gd gb g enc lim n st dc) (hn : st.now = none) (hdz : dc.size = 10)
    (k0 : Blk w b0 27 #[.pointer (some ⟨gd, 0, none⟩)]) (k1 : Blk w b1 26 #[.int .i64 a, .int .i64 b, .int .i64 kd]) (k2 : Blk w b2 40 #[.func (.func fid) #[] #[]]) (hH : CaHow how F fid) (hZ : Z <= B) (hT : TabsB Z w)
    (hk : kd = 0 \/ kd = 1) (ha : 0 <= a /\ a <= b /\ b <= (st.ats.length : Int)) (hnn : n + 131072 <= 1073741824) (hud : (st.undo.length : Int) <= st.depth) (hla : st.last < 1073741824) (hc : 0 <= c /\ c <= (st.ats.length : Int)) :
    Calls Tryz.prog 31 #[.pointer (some ⟨gd, 0, none⟩), .int .i64 c, .func (.func 33) #[] #[.pointer (some ⟨b0, 0, none⟩), .pointer (some ⟨b1, 0, none⟩), .pointer (some ⟨b2, 0, none⟩)]] w fun e w' => ∃ r, e = .returned (.int .i64 r) /\ CasePost B gd gb g enc lim n st dc F (caX (sizedA enc st.ats) a kd) (caY (sizedA enc st.ats) a b kd) kd w0 r w' := by
  obtain ⟨x, hx⟩ : ∃ x, caX (sizedA enc st.ats) a kd = x := ⟨_, rfl⟩
  obtain ⟨y, hy⟩ : ∃ y, caY (sizedA enc st.ats) a b kd = y := ⟨_, rfl⟩
  refine (work_any B gd gb g n enc lim c st dc _ _ (fun _ => False) (fun v ats' o' n' => ∃ (es : List Ed) (j : Nat), (kd = 0 -> x ≠ y) /\ es.map abE = caL F enc x (seg x y (st.ats.map Prod.fst)) /\ refF enc lim (sizedA enc st.ats) es = 0 /\ ClampOk (sizedA enc (edA es st.ats)) x j /\ j <= nC (cont (sizedA enc (edA es st.ats)) (rowIx (sizedA enc (edA es st.ats)) x false)) /\
      v = (lineF (sizedA enc (edA es st.ats)) (rowIx (sizedA enc (edA es st.ats)) x false)).from_ + (mkb (cont (sizedA enc (edA es st.ats)) (rowIx (sizedA enc (edA es st.ats)) x false)) j : Int) /\ (0 <= v /\ v <= ((edA es st.ats).length : Int)) /\ ats' = edA es st.ats /\ o' = shiftO st es c /\ n' = n + 131072)
    (fun r n' => n' = n /\ ((r = 120 /\ kd = 0 /\ x = y) \/ (r = 50 /\ ∃ es : List Ed, es.map abE = caL F enc x (seg x y (st.ats.map Prod.fst)) /\ refF enc lim (sizedA enc st.ats) es = 50))) w h hn hc hdz Tryz.call33 (fun q hq => hq.elim) (fun w1 hd1 hf1 => ?_) (fun at' ats' o' n' ha' => ?_) hud).mono ?_
  · refine (case1_any B gd gb g n b0 b1 b2 enc lim a b kd F fid { st with now := some ⟨st.ats, c, [], st.state, false⟩ } ⟨st.ats, c, [], st.state, false⟩ dc w1 hd1 rfl (by simp) (hf1.blk k0 (by decide) (fun hx => hx)) (hf1.blk k1 (by decide) (fun hx => hx)) (hf1.blk k2 (by decide) (fun hx => hx)) (hH.fn (hT.dfr hZ hf1 (fun _ _ h => h)).1) hk ha hnn).mono ?_
    dsimp only
    rw [hx, hy]
    rintro e w2 (⟨es, j, h0, h1, h2, h3, h4, rfl, hd2, hf2⟩ | ⟨r, h1, rfl, hd2, hf2⟩)
    · dsimp only at h1 h2 h3 h4 hd2
      have hv := clampV_bd hd2.pos h4
      rw [sizedA_len] at hv
      exact .inl ⟨_, edA es st.ats, shiftO st es c, n + 131072, ⟨es, j, h0, h1, h2, h3, h4, rfl, hv, rfl, rfl, rfl⟩, rfl, hd2, hf2⟩
    · exact .inr ⟨r, rfl, st.ats, ⟨st.ats, c, [], st.state, false⟩, n, ⟨rfl, h1⟩, by rcases h1 with ⟨rfl, _⟩ | ⟨rfl, _⟩ <;> decide, rfl, hd2, hf2⟩
  · obtain ⟨es, j, _, _, _, _, _, _, hx, rfl, rfl, rfl⟩ := ha'
    exact ⟨hx, fun _ => hla⟩
  · rw [hx, hy]
    rintro e w2 (⟨rfl, at', ats', o', n', ⟨es, j, h0, h1, h2, h3, h4, h5, hx, rfl, rfl, rfl⟩, hd, hfr⟩ | ⟨r, n', rfl, hr0, ⟨rfl, h1⟩, hd, hfr⟩)
    · exact ⟨0, rfl, .inl ⟨rfl, es, c, at', j, h0, h1, h2, h3, h4, h5, hx, hd, DFr.call' hw0 hfr (fun q hq hx => hx.resolve_left (fun e => e))⟩⟩
    · exact ⟨r, rfl, .inr ⟨h1, hd, DFr.call' hw0 hfr (fun q hq hx => hx)⟩⟩
theorem dcase_any (Z B gd gb g n : Nat) (enc lim at_ a b kd how : Int) (F : Int -> Int) (fid : FuncId) (st : BkS) (dc : Array Value) (w : World) (h : DeskIs w B gd gb g enc lim n st dc) (hn : st.now = none) (hdz : dc.size = 10) (h2 : dc[2]? = some (.int .i64 at_)) (hH : CaHow how F fid) (hZ : Z <= B) (hT : TabsB Z w)
  (hk : kd = 0 \/ kd = 1) (ha : 0 <= a /\ a <= b /\ b <= (st.ats.length : Int)) (hnn : n + 131072 <= 1073741824) (hud : (st.undo.length : Int) <= st.depth) (hla : st.last < 1073741824) :
  Calls Tryz.prog 12 #[.pointer (some ⟨gd, 0, none⟩), .int .i64 how, .agg #[.int .i64 a, .int .i64 b, .int .i64 kd]] w fun e w' => ∃ r, e = .returned (.int .i64 r) /\ CasePost B gd gb g enc lim n st dc F (caX (sizedA enc st.ats) a kd) (caY (sizedA enc st.ats) a b kd) kd w r w' := by
 have hmf : ∀ (fn : Fn) (first cap : Array Value) (w : World), (Instr.makeFunc fn first cap).run Tryz.prog w = .ok (.func fn first cap) w := fun _ _ _ _ => rfl
 have hw3 : Below w.heap.size w (((w.alloc (.cells #[.pointer (some ⟨gd, 0, none⟩)] 27)).alloc (.cells #[.int .i64 a, .int .i64 b, .int .i64 kd] 26)).alloc (.cells #[.func (.func 30) #[] #[]] 40)) := balloc (balloc (balloc (Below.refl _ _)))
 have b0 : Blk (((w.alloc (.cells #[.pointer (some ⟨gd, 0, none⟩)] 27)).alloc (.cells #[.int .i64 a, .int .i64 b, .int .i64 kd] 26)).alloc (.cells #[.func (.func 30) #[] #[]] 40)) w.heap.size 27 #[.pointer (some ⟨gd, 0, none⟩)] := ((Blk.new w _ _).alloc _).alloc _
 have b1 : Blk (((w.alloc (.cells #[.pointer (some ⟨gd, 0, none⟩)] 27)).alloc (.cells #[.int .i64 a, .int .i64 b, .int .i64 kd] 26)).alloc (.cells #[.func (.func 30) #[] #[]] 40)) (w.heap.size + 1) 26 #[.int .i64 a, .int .i64 b, .int .i64 kd] := (Blk.new' (by simp)).alloc _
 have b2 : Blk (((w.alloc (.cells #[.pointer (some ⟨gd, 0, none⟩)] 27)).alloc (.cells #[.int .i64 a, .int .i64 b, .int .i64 kd] 26)).alloc (.cells #[.func (.func 30) #[] #[]] 40)) (w.heap.size + 1 + 1) 40 #[.func (.func 30) #[] #[]] := Blk.new' (by simp)
 have HH := Lib.hid h
 go_enter Tryz.func12, Tryz.ntmps12
 go_upto_region 2 with fail
 obtain ⟨w3, hw30⟩ : ∃ x', (((w.alloc (.cells #[.pointer (some ⟨gd, 0, none⟩)] 27)).alloc (.cells #[.int .i64 a, .int .i64 b, .int .i64 kd] 26)).alloc (.cells #[.func (.func 30) #[] #[]] 40)) = x' := ⟨_, rfl⟩
 rw [hw30] at hw3 b0 b1 b2 ⊢
 clear hw30 h
 have c2 := b2.cell 0
 have f2 := b2.frozen 0
 simp only [List.getElem?_toArray, List.getElem?_cons_zero] at c2
 go_upto_block 0 with fail
 go_cut [] (fun wx => Blk wx (w.heap.size + 1 + 1) 40 #[.func (.func fid) #[] #[]] /\ Fr (· = w.heap.size + 1 + 1) w3 wx)
 case first =>
  have HB2 := Lib.hid b2
  clear b2 b0 b1 hT hmf
  rcases hH with ⟨rfl, rfl, rfl⟩ | ⟨rfl, rfl, rfl⟩ | ⟨rfl, rfl, rfl⟩
  ·go_wp2_with fail
   go_meet
   exact ⟨(HB2.out.set_ 0 _).eq_ (by simp), (Fr.refl _ _).set1 0 _⟩
  ·go_wp2_with fail
   go_meet
   exact ⟨(HB2.out.set_ 0 _).eq_ (by simp), (Fr.refl _ _).set1 0 _⟩
  ·go_wp2_with fail
   go_meet
   exact ⟨HB2.out, Fr.refl _ _⟩
 case rest =>
  obtain ⟨k2, hFc⟩ := hcut
  have hw4 : Below w.heap.size w wc := bfr hw3 hFc (fun i e => by omega)
  have k0 := b0.fr hFc (fun e => by omega)
  have k1 := b1.fr hFc (fun e => by omega)
  obtain ⟨w4, hw40⟩ : ∃ x', wc = x' := ⟨_, rfl⟩
  rw [hw40] at k0 k1 k2 hw4 ⊢
  clear hw40 hFc b0 b1 b2 c2 f2 hw3
  have hBD : ∀ w', Below w4.heap.size w4 w' -> w'.cell? ⟨w.heap.size, 0, none⟩ = some (.pointer (some ⟨gd, 0, none⟩)) /\ w'.cell? ⟨gd, 2, none⟩ = some (.int .i64 at_) := fun w' hb =>
   ⟨(k0.below hb).cell 0, ((HH.out.below (bseq hw4 hb)).desk.cell 2).trans h2⟩
  have HBD := Lib.hid hBD
  have HCL := Lib.hid (fun (w' : World) (hb : Below w4.heap.size w4 w') => clamp_desk (HH.out.below (bseq hw4 hb)) at_)
  have HPOS := Lib.hid HH.out.pos
  have HWK := Lib.hid (fun (w' : World) (hb : Below w4.heap.size w4 w') (c : Int) (hc : 0 <= c /\ c <= (st.ats.length : Int)) =>
   case_work Z B gd gb g n w.heap.size (w.heap.size + 1) (w.heap.size + 1 + 1) enc lim a b kd c how F fid st dc w w' (bseq hw4 hb) (HH.out.below (bseq hw4 hb)) hn hdz (k0.below hb) (k1.below hb) (k2.below hb) hH hZ (hT.below (bseq hw4 hb)) hk ha hnn hud hla hc)
  clear hBD k0 k1 k2 hn h2 hdz hT hH
  go_upto_region 9 with fail
  refine wp_region_lin (fun w' => Below w4.heap.size w4 w') (fun w' => Below w4.heap.size w4 w') (fun k => k == 6 || k == 8) (fun k => k == 8) (fun k => k == 9) (by kernel_rfl) (by kernel_rfl) (Below.drew (Below.refl _ _)) (fun _ h => h) ?_
  repeat ((first
   | (refine wpL_read (v := ?_) (by rfl) (by rfl) (fun w6 hSw => ?_) ?_; rotate_left; (· (obtain ⟨y0, y2⟩ := HBD.out _ hSw; go_simp; try with_reducible rfl)))
   | (refine wpL_free (v := ?_) (by rfl) (fun w6 => ?_) ?_; rotate_left; (· (go_simp; try with_reducible rfl)))
   | refine wpL_not (by rfl) ?_); (try simp only [Act.put, pA, pB, pC]))
  refine wpL_call (f := ?_) (args := ?_) (fun v w' => (∃ x : Int, v = .int .i64 x /\ 0 <= x /\ x <= (st.ats.length : Int)) /\ Below w4.heap.size w4 w') (by rfl) (by rfl) (fun w6 hSw => ?_) (fun w6 hSw => ?_) (.inr (fun v6 w6 hT6 => ?_)) (fun v6 hv6 => ?_)
  rotate_left 2
  ·(skip; go_simp; first | done | (constructor <;> with_reducible rfl) | with_reducible rfl)
  ·(refine (HCL.out _ hSw).mono ?_; rintro e w' ⟨jc, rfl, -, hjc, hb⟩; have hbd := clampV_bd HPOS.out hjc; rw [sizedA_len] at hbd; exact ⟨_, rfl, ⟨_, rfl, hbd.1, hbd.2⟩, bseq hSw hb⟩)
  ·(exact hT6.2)
  obtain ⟨wz, ⟨x, rfl, hx0, hx1⟩, -⟩ := hv6
  (try simp only [Act.put, pA, pB, pC])
  repeat ((first
   | (refine wpL_read (v := ?_) (by rfl) (by rfl) (fun w6 hSw => ?_) ?_; rotate_left; (· (obtain ⟨y0, y2⟩ := HBD.out _ hSw; go_simp; try with_reducible rfl)))
   | (refine wpL_free (v := ?_) (by rfl) (fun w6 => ?_) ?_; rotate_left; (· (go_simp; try with_reducible rfl)))
   | refine wpL_not (by rfl) ?_); (try simp only [Act.put, pA, pB, pC]))
  refine wpL_call (f := ?_) (args := ?_) (fun v w' => ∃ r, v = .int .i64 r /\ CasePost B gd gb g enc lim n st dc F (caX (sizedA enc st.ats) a kd) (caY (sizedA enc st.ats) a b kd) kd w r w') (by rfl) (by rfl) (fun w6 hSw => ?_) (fun w6 hSw => ?_) (.inl (by rfl)) (fun v6 hv6 => ?_)
  rotate_left 2
  ·(skip; go_simp; first | done | (constructor <;> with_reducible rfl) | with_reducible rfl)
  ·(refine (HWK.out _ hSw.2 x ⟨hx0, hx1⟩).mono ?_; rintro e w' ⟨r, rfl, hp⟩; exact ⟨_, rfl, r, rfl, hp⟩)
  obtain ⟨wz, r, rfl, -⟩ := hv6
  (try simp only [Act.put, pA, pB, pC])
  repeat ((first
   | (refine wpL_read (v := ?_) (by rfl) (by rfl) (fun w6 hSw => ?_) ?_; rotate_left; (· (obtain ⟨y0, y2⟩ := HBD.out _ hSw; go_simp; try with_reducible rfl)))
   | (refine wpL_free (v := ?_) (by rfl) (fun w6 => ?_) ?_; rotate_left; (· (go_simp; try with_reducible rfl)))
   | refine wpL_not (by rfl) ?_); (try simp only [Act.put, pA, pB, pC]))
  refine wpL_nil ?_
  rintro w7 ⟨r', hr', hp⟩
  obtain rfl : r = r' := by injection hr'
  have HP := Lib.hid hp
  clear hp hr'
  go_wp2_with fail
  go_ret
  exact ⟨r, rfl, HP.out⟩
section
variable {B gd gb g n : Nat} {enc lim : Int} {st : BkS} {dc : Array Value} {w : World}
theorem depth_any (h : DeskIs w B gd gb g enc lim n st dc) :
  Calls Tryz.prog 16 #[.pointer (some ⟨gb, 0, none⟩)] w fun e w' => ∃ r : Int, e = .returned (.tuple #[.int .i64 (st.undo.length : Int), .int .i64 r]) /\ Below w.heap.size w w' := by
 obtain ⟨N, add, t, a, xs, m, vu, vr, now, n', hn', hk⟩ := h.book
 obtain ⟨pu, u1, u2, _, _⟩ := hk.undo
 obtain ⟨pr, r1, r2, _, _⟩ := hk.redo
 obtain ⟨Au, cu, rfl, _⟩ := own_slice u1
 obtain ⟨Ar, cr, rfl, _⟩ := own_slice r1
 have hb := hk.blk
 have hY : ∀ w', Below w.heap.size w w' -> w'.cell? ⟨gb, 2, none⟩ = some (.slice Au pu.length cu) /\ w'.cell? ⟨gb, 3, none⟩ = some (.slice Ar pr.length cr) := fun w' hb' => ⟨(hb.below hb').cell 2, (hb.below hb').cell 3⟩
 have HY := Lib.hid hY
 rw [<- u2]
 clear hb hk u1 u2 r1 r2 hY
 go_enter Tryz.func16, Tryz.ntmps16
 go_upto_region 1 with fail
 refine wp_region_steady (fun w' => Below w.heap.size w w') (by kernel_rfl) (by kernel_rfl) (Below.drew (Below.refl _ _)) ?_
 repeat ((first
  | (refine wpSt_read (v := ?_) (by rfl) (fun w6 hSw => ?_) ?_; rotate_left; (· (obtain ⟨y2, y3⟩ := HY.out _ hSw; go_simp; try with_reducible rfl)))
  | refine wpSt_not (by rfl) ?_); (try simp only [Act.put, pA, pB, pC]))
 refine wpSt_nil ?_
 intro w1 hw1
 go_wp2_with fail
 exact bodyPost_ret (v := .tuple #[.int .i64 (pu.length : Int), .int .i64 (pr.length : Int)]) (by simp [results, Tryz.results16, go_sem]) rfl ⟨_, rfl, hw1⟩
end
theorem shiftS_nil (st : BkS) (es : List Ed) (c x : Int) (h : es = []) : (shiftS st es c x).undo = st.undo /\ (shiftS st es c x).ats = st.ats := by
 subst h
 exact ⟨rfl, rfl⟩
theorem CaEd.each {F : Int -> Int} {enc : Int} {x y : Nat} {ats ats' : List (Int × Int)} (h : CaEd F enc x y ats ats') {i : Nat} (hi : i < ats.length) : ((ats'.map Prod.fst).getD i 0 = (ats.map Prod.fst).getD i 0 /\ (ats'.map Prod.snd).getD i 0 = (ats.map Prod.snd).getD i 0) \/
  ((ats'.map Prod.fst).getD i 0 = F ((ats.map Prod.fst).getD i 0) /\ (ats'.map Prod.fst).getD i 0 ≠ (ats.map Prod.fst).getD i 0 /\ (ats'.map Prod.snd).getD i 0 = -1) := by
 have h1 := h.at_ i ats[i] (List.getElem?_eq_getElem hi)
 have e1 : (ats.map Prod.fst).getD i 0 = ats[i].1 := by rw [List.getD_eq_getElem?_getD, List.getElem?_map, List.getElem?_eq_getElem hi]; rfl
 have e2 : (ats.map Prod.snd).getD i 0 = ats[i].2 := by rw [List.getD_eq_getElem?_getD, List.getElem?_map, List.getElem?_eq_getElem hi]; rfl
 have e3 : (ats'.map Prod.fst).getD i 0 = (if x <= i /\ i < y then caM F enc ats[i] else ats[i]).1 := by rw [List.getD_eq_getElem?_getD, List.getElem?_map, h1]; rfl
 have e4 : (ats'.map Prod.snd).getD i 0 = (if x <= i /\ i < y then caM F enc ats[i] else ats[i]).2 := by rw [List.getD_eq_getElem?_getD, List.getElem?_map, h1]; rfl
 rw [e1, e2, e3, e4]
 split
 ·unfold caM
  split
  ·rename_i h2
   unfold caP at h2
   simp only [Bool.and_eq_true, decide_eq_true_eq] at h2
   exact .inr ⟨rfl, h2.1, rfl⟩
  ·exact .inl ⟨rfl, rfl⟩
 ·exact .inl ⟨rfl, rfl⟩
theorem case_again {F : Int -> Int} {enc a b kd : Int} (hF : Cas F) {ats ats' : List (Int × Int)} {x y : Nat} (hp : PosD (sizedA enc ats)) (hp2 : PosD (sizedA enc ats')) (hx : caX (sizedA enc ats) a kd = (x : Int)) (hy : caY (sizedA enc ats) a b kd = (y : Int)) (hc : CaEd F enc x y ats ats') :
  caX (sizedA enc ats') a kd = (x : Int) /\ caY (sizedA enc ats') a b kd = (y : Int) /\ ∀ es2 : List Ed, es2.map abE = caL F enc (x : Int) (seg (x : Int) (y : Int) (ats'.map Prod.fst)) -> es2 = [] := by
 have hs := hc.same hF
 have hs2 : SameE ((sizedA enc ats).map Prod.fst) ((sizedA enc ats').map Prod.fst) := by rw [sizedA_fst, sizedA_fst]; exact hs
 have h1 := rowIx_le (sizedA enc ats) a false
 have h2 := rowIx_le (sizedA enc ats) (max a (b - 1)) false
 refine ⟨?_, ?_, fun es2 h => ?_⟩
 ·rw [<- hx]
  unfold caX
  rw [hs2.rowIx_ hp hp2, hs2.line hp hp2 h1]
 ·rw [<- hy]
  unfold caY
  rw [hs2.rowIx_ hp hp2, hs2.line hp hp2 h2]
 ·rw [caL_nil F enc _ _ (hc.done hF)] at h
  simpa using h
theorem ref_nil {enc lim : Int} {ds : List (Int × Int)} (hp : PosD ds) (h : szS ds <= lim) : refF enc lim ds [] = 0 := by
 unfold refF
 rw [if_neg (by simp), if_neg (by unfold ordF; decide), if_neg (by unfold fitF; simp), if_neg]
 rw [sum_bytes hp]
 simp [putB, remB]
 omega
theorem caS_out {st : BkS} {es : List Ed} {c x : Int} (h2 : (st.undo.length : Int) <= st.depth) : (shiftS st es c x).ats = edA es st.ats /\ (shiftS st es c x).now = none /\ ((shiftS st es c x).undo.length : Int) <= (shiftS st es c x).depth /\ (shiftS st es c x).last <= st.last + 1 := by
 unfold shiftS endF
 split
 ·refine ⟨rfl, rfl, pushU_le h2, ?_⟩
  dsimp only; omega
 ·refine ⟨rfl, rfl, h2, ?_⟩
  dsimp only; omega
theorem ints_cell {w : World} {A : Option Addr} {n k : Nat} {l : List Int} (h : IntsI w A n l) (hk : k < n) : ∃ ad, A = some ad /\ ∀ w', Below w.heap.size w w' -> w'.cell? (ad.add k) = some (.int .i64 (l.getD k 0)) := by
 obtain ⟨ad, e, _, hc⟩ := Ints.at_ h.any hk
 refine ⟨ad, e, fun w' hb => ?_⟩
 obtain ⟨ad2, e2, _, c2⟩ := Ints.at_ (Reads.below h.any hb) hk
 rw [e] at e2
 injection e2 with e2
 subst e2
 exact c2
theorem ca_keep {Z : Nat} {w0 w w' : World} {B gd gb gt b4 bo n N M : Nat} {E lim : Int} {st : BkS} {dc : Array Value} {cs : Array Value} {vR : Value} {A A' : Option Addr} {L L' : List Int} (hZ : Z <= w0.heap.size) (hb : w0.heap.size <= b4) (hw : Below w0.heap.size w0 w) (hd : DeskIs w B gd gb gt E lim n st dc) (hs : Blk w b4 26 cs) (ho : Blk w bo 30 #[.pointer (some ⟨gd, 0, none⟩), vR]) (hI : IntsI w A N L) (hJ : IntsI w A' M L') (hT : TabsB Z w) (hf : Fr (· = b4) w w') :
  DeskIs w' B gd gb gt E lim n st dc /\ Blk w' bo 30 #[.pointer (some ⟨gd, 0, none⟩), vR] /\ IntsI w' A N L /\ IntsI w' A' M L' /\ TabsB Z w' /\ Below w0.heap.size w0 w' :=
 ⟨hd.alien hf (fun k _ e => ⟨e ▸ Blk.ne_ hs hd.desk (by decide), _, _, e ▸ hs, by decide⟩), ho.fr hf (fun e => Blk.ne_ ho hs (by decide) e), hI.fr hf (fun b _ e ⟨cs', hc⟩ => Blk.ne_ hc hs (by decide) e), hJ.fr hf (fun b _ e ⟨cs', hc⟩ => Blk.ne_ hc hs (by decide) e), hT.fr hf (fun b h1 e => by omega), bfr hw hf (fun i e => by omega)⟩
theorem ca_run {Z : Nat} {w0 w w' : World} {X : Nat -> Prop} {B gd gb gt b4 bo n N M : Nat} {E lim : Int} {st : BkS} {dc : Array Value} {cs : Array Value} {vR : Value} {A A' : Option Addr} {L L' : List Int} (hZ : Z <= w0.heap.size) (hB : w0.heap.size <= B) (hw : Below w0.heap.size w0 w) (hd : DeskIs w B gd gb gt E lim n st dc) (hs : Blk w b4 26 cs) (ho : Blk w bo 30 #[.pointer (some ⟨gd, 0, none⟩), vR]) (hI : IntsI w A N L) (hJ : IntsI w A' M L') (hT : TabsB Z w) (hX : ∀ b, X b -> b = gd) (hf : DFr B X w w') :
  Blk w' b4 26 cs /\ Blk w' bo 30 #[.pointer (some ⟨gd, 0, none⟩), vR] /\ IntsI w' A N L /\ IntsI w' A' M L' /\ TabsB Z w' /\ Below w0.heap.size w0 w' := by
 have hl := hd.low
 have hf2 : DFr B (· = gd) w w' := hf.wide (Nat.le_refl _) (fun b _ h => hX b h)
 exact ⟨hf2.blk hs (by decide) (fun e => Blk.ne_ hs hd.desk (by decide) e), hf2.blk ho (by decide) (fun e => Blk.ne_ ho hd.desk (by decide) e), hI.dfr hf2 hd.desk, hJ.dfr hf2 hd.desk, hT.dfr (Nat.le_trans hZ hB) hf2 (fun b h1 e => by omega), bfr hw hf2 (fun i e => by
  rcases e with ⟨e, _⟩ | rfl <;> omega)⟩
def ARun (P : Program) (T : Value -> World -> Prop) (w : World) : Result Next -> Prop
 | .ok (.value u) w' => T u w' /\ Below w.heap.size w w'
 | .ok .skip w' => T undef w' /\ Below w.heap.size w w'
 | .ok (.enter f args) w' => Calls P f args w' fun e w'' => ∃ v, e = .returned v /\ T v w'' /\ Below w.heap.size w w''
 | _ => False
theorem ARun.some {P : Program} {T : Value -> World -> Prop} {w : World} {r : Result Next} (h : ARun P T w r) : ∃ v w', T v w' /\ Below w.heap.size w w' := by
 cases r with
 | ok n w' =>
  cases n <;> simp only [ARun] at h
  case value u => exact ⟨u, w', h⟩
  case skip => exact ⟨_, w', h⟩
  case enter f args =>
   obtain ⟨e, w'', fr, ⟨v, _, ht⟩, _⟩ := h []
   exact ⟨v, w'', ht⟩
 | halt x w' => simp only [ARun] at h
def FRun (P : Program) (T : Value -> World -> Prop) (E : List PanicEntry -> World -> Prop) : Result Next -> Prop
 | .ok (.value u) w' => T u w'
 | .ok .skip w' => T undef w'
 | .ok (.enter f args) w' => Calls P f args w' fun e w'' => (∃ v, e = .returned v /\ T v w'') \/ ∃ ch, e = .panicked ch /\ E ch w''
 | _ => False
def All4 (S0 : World -> Prop) (S : List (Nat × (World -> Prop))) (w : World) : Prop := S0 w /\ ∀ p ∈ S, p.2 w
def Dep4 (md : Region.Mode) (ops : Array Oper) (S0 : World -> Prop) (S : List (Nat × (World -> Prop))) (j : Nat) (w : World) : Prop := S0 w /\ ∀ p ∈ S, reachB md ops p.1 ops.size j = true -> p.2 w
theorem All4.dep {md : Region.Mode} {ops : Array Oper} {S0 : World -> Prop} {S : List (Nat × (World -> Prop))} {j : Nat} {w : World} (h : All4 S0 S w) : Dep4 md ops S0 S j w := ⟨h.1, fun p hp _ => h.2 p hp⟩
def AS4 (P : Program) (ops : Array Oper) (D : World -> Prop) (o : Oper) (T : Value -> World -> Prop) (a : Act) : Prop :=
 Region.wanted o (yielded ops a.tmps) = true /\ ∀ w, D w -> ARun P T w ((execOp a.eval o).run P w)
def FS4 (P : Program) (ops : Array Oper) (S : World -> Prop) (o : Oper) (T : Value -> World -> Prop) (E : List PanicEntry -> World -> Prop) (a : Act) : Prop :=
 Region.wanted o (yielded ops a.tmps) = true /\ ∀ w, S w -> FRun P T E ((execOp a.eval o).run P w)
section
variable {P : Program} {ops : Array Oper} {md : Region.Mode} {S0 : World -> Prop} {hv ac : Nat -> Bool} {TT : Nat -> Value -> World -> Prop} {E : List PanicEntry -> World -> Prop} {Q : Exit -> Act -> World -> Prop}
theorem AS4.of_same {D : World -> Prop} {o : Oper} {T : Value -> World -> Prop} {a a' : Act} (hy : AS4 P ops D o T a) (he : execOp a'.eval o = execOp a.eval o)
  (hw : Region.wanted o (yielded ops a'.tmps) = Region.wanted o (yielded ops a.tmps)) : AS4 P ops D o T a' := by
 unfold AS4 at *
 rw [he, hw]
 exact hy
theorem AS4.weak {D D' : World -> Prop} {o : Oper} {T : Value -> World -> Prop} {a : Act} (hy : AS4 P ops D o T a) (h : ∀ w, D' w -> D w) : AS4 P ops D' o T a := ⟨hy.1, fun w hw => hy.2 w (h w hw)⟩
theorem RS.weak {D D' : World -> Prop} {o : Oper} {v : Value} {a : Act} (hy : RS P ops D o v a) (h : ∀ w, D' w -> D w) : RS P ops D' o v a := hy.imp (fun h' => ⟨h'.1, fun w hw => h'.2 w (h w hw)⟩) id
def Tail4 (P : Program) (ops : Array Oper) (E : List PanicEntry -> World -> Prop) (L : Act -> World -> Prop) : (World -> Prop) -> List Nat -> Act -> Prop
  | S, [], a => ∀ w, S w -> L a w
  | S, i :: is, a => ∃ o, ops[i]? = some o /\
      ((∃ v, RS P ops S o v a /\ Tail4 P ops E L S is (a.put o.dst v)) \/
       (∃ T, FS4 P ops S o T E a /\ ∀ v, (∃ w, T v w) -> Tail4 P ops E L (T v) is (a.put o.dst v)))
def Lin4 (P : Program) (md : Region.Mode) (ops : Array Oper) (S0 : World -> Prop) (hv ac : Nat -> Bool) (TT : Nat -> Value -> World -> Prop) (E : List PanicEntry -> World -> Prop) (L : Act -> World -> Prop) : List (Nat × (World -> Prop)) -> List Nat -> Act -> Prop
  | S, [], a => ∀ w, All4 S0 S w -> L a w
  | S, i :: is, a => ∃ o, ops[i]? = some o /\
      ((hv i = false /\ ac i = false /\ ∃ v, RS P ops (Dep4 md ops S0 S i) o v a /\ Lin4 P md ops S0 hv ac TT E L S is (a.put o.dst v)) \/
       (hv i = false /\ ac i = true /\ AS4 P ops (Dep4 md ops S0 S i) o (TT i) a /\ ∀ v, (∃ w, TT i v w /\ All4 S0 S w) -> Lin4 P md ops S0 hv ac TT E L ((i, TT i v) :: S) is (a.put o.dst v)) \/
       (hv i = true /\ Tail4 P ops E L (All4 S0 S) (i :: is) a))
theorem Tail4.weak {L : Act -> World -> Prop} : ∀ (is : List Nat) (S S' : World -> Prop) (a : Act), (∀ w, S' w -> S w) -> Tail4 P ops E L S is a -> Tail4 P ops E L S' is a := by
 intro is
 induction is with
 | nil => intro S S' a h H w hw; exact H w (h w hw)
 | cons i is ih =>
  intro S S' a h H
  obtain ⟨o, ho, H⟩ := H
  refine ⟨o, ho, ?_⟩
  rcases H with ⟨v, hy, H⟩ | ⟨T, hT, H⟩
  ·exact .inl ⟨v, hy.weak h, ih S S' _ h H⟩
  ·exact .inr ⟨T, ⟨hT.1, fun w hw => hT.2 w (h w hw)⟩, H⟩
theorem Lin4.weak {L : Act -> World -> Prop} : ∀ (is : List Nat) (S S' : List (Nat × (World -> Prop))) (a : Act), (∀ p ∈ S, p ∈ S') -> Lin4 P md ops S0 hv ac TT E L S is a -> Lin4 P md ops S0 hv ac TT E L S' is a := by
 intro is
 induction is with
 | nil => intro S S' a h H w hw; exact H w ⟨hw.1, fun p hp => hw.2 p (h p hp)⟩
 | cons i is ih =>
  intro S S' a h H
  have hd : ∀ w, Dep4 md ops S0 S' i w -> Dep4 md ops S0 S i w := fun w hw => ⟨hw.1, fun p hp hr => hw.2 p (h p hp) hr⟩
  obtain ⟨o, ho, H⟩ := H
  refine ⟨o, ho, ?_⟩
  rcases H with ⟨h1, h2, v, hy, H⟩ | ⟨h1, h2, hA, H⟩ | ⟨h1, H⟩
  ·exact .inl ⟨h1, h2, v, hy.weak hd, ih S S' _ h H⟩
  ·exact .inr (.inl ⟨h1, h2, hA.weak hd, fun v hv => ih _ _ _ (fun p hp => by
    rcases List.mem_cons.1 hp with rfl | hp
    ·exact List.mem_cons_self
    ·exact List.mem_cons_of_mem _ (h p hp)) (H v (by
     obtain ⟨w, hw1, hw2⟩ := hv
     exact ⟨w, hw1, hw2.1, fun p hp => hw2.2 p (h p hp)⟩))⟩)
  ·exact .inr (.inr ⟨h1, Tail4.weak _ _ _ _ (fun w hw => ⟨hw.1, fun p hp => hw.2 p (h p hp)⟩) H⟩)
theorem Lin4.pull {L : Act -> World -> Prop} (hsel : ∀ (j : Nat) (o : Oper) cs b, ops[j]? = some o -> o.op ≠ .select cs b) (hS0 : ∀ w w', S0 w -> Below w.heap.size w w' -> S0 w') (hTT : ∀ k, ac k = true -> ∀ v w w', TT k v w -> Below w.heap.size w w' -> TT k v w') {j : Nat} :
    ∀ (is : List Nat) (S : List (Nat × (World -> Prop))) (a : Act), j ∈ is -> is.Pairwise (· < ·) -> (∀ i ∈ is, i < j -> ∀ oi oj, ops[i]? = some oi -> ops[j]? = some oj -> oi.apart ops oj = true) ->
      (∀ i ∈ is, i < j -> hv i = false /\ reachB md ops i ops.size j = false) -> hv j = false -> (∃ w, All4 S0 S w) -> (∀ p ∈ S, ∀ w w', p.2 w -> Below w.heap.size w w' -> p.2 w') -> Lin4 P md ops S0 hv ac TT E L S is a ->
      ∃ o, ops[j]? = some o /\
       ((ac j = false /\ ∃ v, RS P ops (Dep4 md ops S0 S j) o v a /\ Lin4 P md ops S0 hv ac TT E L S (is.erase j) (a.put o.dst v)) \/
        (ac j = true /\ AS4 P ops (Dep4 md ops S0 S j) o (TT j) a /\ ∀ v, (∃ w, TT j v w /\ All4 S0 S w) -> Lin4 P md ops S0 hv ac TT E L ((j, TT j v) :: S) (is.erase j) (a.put o.dst v))) := by
  intro is
  induction is with
  | nil => intro S a hj; cases hj
  | cons i is ih =>
    intro S a hj hp hap hno hvj hS hst H
    by_cases hij : i = j
    · subst hij
      rw [List.erase_cons_head]
      obtain ⟨o, ho, H⟩ := H
      rcases H with ⟨_, h2, H⟩ | ⟨_, h2, H⟩ | ⟨h1, _⟩
      · exact ⟨o, ho, .inl ⟨h2, H⟩⟩
      · exact ⟨o, ho, .inr ⟨h2, H⟩⟩
      · rw [hvj] at h1; cases h1
    · have hj' : j ∈ is := (List.mem_cons.1 hj).resolve_left (fun e => hij e.symm)
      obtain ⟨hlt, hp'⟩ := List.pairwise_cons.1 hp
      have hij' := hlt j hj'
      obtain ⟨hvi, hre⟩ := hno i List.mem_cons_self hij'
      rw [List.erase_cons_tail (by simpa using hij)]
      have hap' := fun k hk => hap k (List.mem_cons_of_mem _ hk)
      have hno' := fun k hk => hno k (List.mem_cons_of_mem _ hk)
      obtain ⟨oi, hoi, H⟩ := H
      rcases H with ⟨_, h2, vi, hyi, H⟩ | ⟨_, h2, hA, H⟩ | ⟨h1, _⟩
      · obtain ⟨oj, hoj, H'⟩ := ih S _ hj' hp' hap' hno' hvj hS hst H
        obtain ⟨h1, h2', h3⟩ := Oper.apart_spec (hap i List.mem_cons_self hij' oi oj hoi hoj)
        refine ⟨oj, hoj, ?_⟩
        rcases H' with ⟨hac, vj, hyj, H'⟩ | ⟨hac, hAj, H'⟩
        · refine .inl ⟨hac, vj, hyj.of_same (execOp_put oj (fun cs b => hsel j oj cs b hoj) a oi.dst vi h1).symm (wanted_put oj a oi.dst vi h1).symm, oi, hoi, .inl ⟨hvi, h2, vi, hyi.of_same (execOp_put oi (fun cs b => hsel i oi cs b hoi) a oj.dst vj h3) (wanted_put oi a oj.dst vj h3), ?_⟩⟩
          rw [<- Act.put_comm a vi vj h2']
          exact H'
        · refine .inr ⟨hac, hAj.of_same (execOp_put oj (fun cs b => hsel j oj cs b hoj) a oi.dst vi h1).symm (wanted_put oj a oi.dst vi h1).symm, fun vj hvj' => ⟨oi, hoi, .inl ⟨hvi, h2, vi, (hyi.of_same (execOp_put oi (fun cs b => hsel i oi cs b hoi) a oj.dst vj h3) (wanted_put oi a oj.dst vj h3)).weak (fun w hw => ⟨hw.1, fun p hp => hw.2 p (List.mem_cons_of_mem _ hp)⟩), ?_⟩⟩⟩
          rw [<- Act.put_comm a vi vj h2']
          exact H' vj hvj'
      · obtain ⟨w0, hw0⟩ := hS
        obtain ⟨v0, w1, ht0, hb1⟩ := (hA.2 w0 hw0.dep).some
        have hw1 : All4 S0 S w1 := ⟨hS0 _ _ hw0.1 hb1, fun p hp => hst p hp _ _ (hw0.2 p hp) hb1⟩
        have hdep : ∀ v w, Dep4 md ops S0 S j w -> Dep4 md ops S0 ((i, TT i v) :: S) j w := fun v w hw => ⟨hw.1, fun p hp hr => by
          rcases List.mem_cons.1 hp with rfl | hp
          · rw [hre] at hr; cases hr
          · exact hw.2 p hp hr⟩
        have hst' : ∀ v, ∀ p ∈ ((i, TT i v) :: S), ∀ w w', p.2 w -> Below w.heap.size w w' -> p.2 w' := fun v p hp => by
          rcases List.mem_cons.1 hp with rfl | hp
          · exact fun w w' => hTT i h2 v w w'
          · exact hst p hp
        have hall : ∀ v w, TT i v w -> All4 S0 S w -> All4 S0 ((i, TT i v) :: S) w := fun v w h1 h2 => ⟨h2.1, fun p hp => by
          rcases List.mem_cons.1 hp with rfl | hp
          · exact h1
          · exact h2.2 p hp⟩
        have go := fun (v : Value) (w : World) (h1 : TT i v w) (h2 : All4 S0 S w) => ih ((i, TT i v) :: S) _ hj' hp' hap' hno' hvj ⟨w, hall v w h1 h2⟩ (hst' v) (H v ⟨w, h1, h2⟩)
        obtain ⟨oj, hoj, H0⟩ := go v0 w1 ht0 hw1
        obtain ⟨h1, h2', h3⟩ := Oper.apart_spec (hap i List.mem_cons_self hij' oi oj hoi hoj)
        refine ⟨oj, hoj, ?_⟩
        rcases H0 with ⟨hac, vj, hyj, _⟩ | ⟨hac, hAj, _⟩
        · have hyj' := (hyj.weak (hdep v0)).of_same (execOp_put oj (fun cs b => hsel j oj cs b hoj) a oi.dst v0 h1).symm (wanted_put oj a oi.dst v0 h1).symm
          refine .inl ⟨hac, vj, hyj', oi, hoi, .inr (.inl ⟨hvi, h2, hA.of_same (execOp_put oi (fun cs b => hsel i oi cs b hoi) a oj.dst vj h3) (wanted_put oi a oj.dst vj h3), fun v hv => ?_⟩)⟩
          obtain ⟨w, hw1', hw2'⟩ := hv
          obtain ⟨oj', hoj', H1⟩ := go v w hw1' hw2'
          have e1 : oj' = oj := Option.some.inj (hoj'.symm.trans hoj)
          subst e1
          rcases H1 with ⟨_, vj', hyj2, H1⟩ | ⟨hac', _⟩
          · have hyj2' := (hyj2.weak (hdep v)).of_same (execOp_put oj' (fun cs b => hsel j oj' cs b hoj) a oi.dst v h1).symm (wanted_put oj' a oi.dst v h1).symm
            have e2 : vj' = vj := hyj2'.uniq hyj' hw0.dep
            subst e2
            rw [<- Act.put_comm a v vj' h2']
            exact H1
          · rw [hac] at hac'; cases hac'
        · have hAj' := (hAj.weak (hdep v0)).of_same (execOp_put oj (fun cs b => hsel j oj cs b hoj) a oi.dst v0 h1).symm (wanted_put oj a oi.dst v0 h1).symm
          refine .inr ⟨hac, hAj', fun vj hvj' => ⟨oi, hoi, .inr (.inl ⟨hvi, h2, (hA.of_same (execOp_put oi (fun cs b => hsel i oi cs b hoi) a oj.dst vj h3) (wanted_put oi a oj.dst vj h3)).weak (fun w hw => ⟨hw.1, fun p hp => hw.2 p (List.mem_cons_of_mem _ hp)⟩), fun v hv => ?_⟩)⟩⟩
          obtain ⟨w, hw1', hw2'⟩ := hv
          have hwj : TT j vj w := hw2'.2 (j, TT j vj) List.mem_cons_self
          have hwS : All4 S0 S w := ⟨hw2'.1, fun p hp => hw2'.2 p (List.mem_cons_of_mem _ hp)⟩
          obtain ⟨oj', hoj', H1⟩ := go v w hw1' hwS
          have e1 : oj' = oj := Option.some.inj (hoj'.symm.trans hoj)
          subst e1
          rcases H1 with ⟨hac', _⟩ | ⟨_, _, H1⟩
          · rw [hac] at hac'; cases hac'
          · have H2 := H1 vj ⟨w, hwj, hall v w hw1' hwS⟩
            rw [Act.put_comm a v vj h2'] at H2
            refine H2.weak _ _ _ _ (fun p hp => ?_)
            rcases List.mem_cons.1 hp with rfl | hp
            · exact List.mem_cons_of_mem _ List.mem_cons_self
            · rcases List.mem_cons.1 hp with rfl | hp
              · exact List.mem_cons_self
              · exact List.mem_cons_of_mem _ (List.mem_cons_of_mem _ hp)
      · rw [hvi] at h1; cases h1
def bagB (md : Region.Mode) (ops : Array Oper) (hv : Nat -> Bool) : Bool :=
 steadyB md ops && (List.range ops.size).all fun j => !((List.range (j + 1)).any hv) || (List.range j).all fun i => reachB md ops i ops.size j
theorem bagB_spec {md : Region.Mode} {ops : Array Oper} {hv : Nat -> Bool} (h : bagB md ops hv = true) : steadyB md ops = true /\ ∀ i j, i < j -> j < ops.size -> (∃ k, k <= j /\ hv k = true) -> reachB md ops i ops.size j = true := by
 unfold bagB at h
 rw [Bool.and_eq_true] at h
 refine ⟨h.1, fun i j hij hj hk => ?_⟩
 have h1 := List.all_eq_true.1 h.2 j (List.mem_range.2 hj)
 obtain ⟨k, hk1, hk2⟩ := hk
 have h2 : (List.range (j + 1)).any hv = true := List.any_eq_true.2 ⟨k, List.mem_range.2 (by omega), hk2⟩
 rw [h2, Bool.not_true, Bool.false_or] at h1
 exact List.all_eq_true.1 h1 i (List.mem_range.2 hij)
theorem wpAny_of_lin4 (hB : bagB md ops hv = true) (hS0 : ∀ w w', S0 w -> Below w.heap.size w w' -> S0 w') (hTT : ∀ k, ac k = true -> ∀ v w w', TT k v w -> Below w.heap.size w w' -> TT k v w') {ds : List Deferred} (hE : ∀ ch (a : Act) w, a.defers = ds -> E ch w -> Q (.panic ch) a w) :
    ∀ (fuel : Nat) (is : List Nat) (listed : Array Bool) (a : Act) (w : World), is.length <= fuel -> listed.size = ops.size -> a.defers = ds ->
    (∀ j, j < ops.size -> (listed.getD j true = false ↔ j ∈ is)) -> (∀ j ∈ is, j < ops.size) -> is.Pairwise (· < ·) -> ClosedL md ops listed ->
    ((∃ S, All4 S0 S w /\ (∀ p ∈ S, ∀ w w', p.2 w -> Below w.heap.size w w' -> p.2 w') /\ Lin4 P md ops S0 hv ac TT E (Q .normal) S is a) \/
     ((∀ j ∈ is, ∃ k, k <= j /\ hv k = true) /\ ∃ S, S w /\ Tail4 P ops E (Q .normal) S is a)) -> wpAny P md ops Q fuel listed a w := by
  obtain ⟨hB1, hB2⟩ := bagB_spec hB
  obtain ⟨hsel, hlt, hap⟩ := steadyB_spec hB1
  intro fuel
  have hnil : ∀ (is : List Nat) (listed : Array Bool), listed.size = ops.size -> (∀ j, j < ops.size -> (listed.getD j true = false ↔ j ∈ is)) -> (∀ j ∈ is, j < ops.size) -> is.Pairwise (· < ·) -> Region.ready md ops listed = [] -> is = [] := by
    intro is listed hsz hmem hin hp hr
    cases is with
    | nil => rfl
    | cons i is =>
      exfalso
      have hi := hin i List.mem_cons_self
      have : i ∈ Region.ready md ops listed := by
        refine mem_ready.2 ⟨(hmem i hi).2 List.mem_cons_self, ops[i], Array.getElem?_eq_getElem hi, fun e he hb => ?_⟩
        have h1 := hlt i _ (Array.getElem?_eq_getElem hi) e he hb
        cases h2 : listed.getD e.on false with
        | true => rfl
        | false =>
          have h3 := (hmem e.on (by omega)).1 (getD_in (by omega) h2)
          rcases List.mem_cons.1 h3 with h3 | h3
          · omega
          · have := (List.pairwise_cons.1 hp).1 _ h3; omega
      rw [hr] at this
      cases this
  have hend : ∀ (a : Act) (w : World), ((∃ S, All4 S0 S w /\ (∀ p ∈ S, ∀ w w', p.2 w -> Below w.heap.size w w' -> p.2 w') /\ Lin4 P md ops S0 hv ac TT E (Q .normal) S [] a) \/
     ((∀ j ∈ ([] : List Nat), ∃ k, k <= j /\ hv k = true) /\ ∃ S, S w /\ Tail4 P ops E (Q .normal) S [] a)) -> Q .normal a w := by
    rintro a w (⟨S, h1, _, h2⟩ | ⟨_, S, h1, h2⟩)
    · exact h2 w h1
    · exact h2 w h1
  induction fuel with
  | zero =>
    intro is listed a w hf hsz hdf hmem hin hp hcl H
    have e : is = [] := List.eq_nil_of_length_eq_zero (by omega)
    subst e
    refine ⟨?_, hend a w H⟩
    rw [List.eq_nil_iff_forall_not_mem]
    intro j hj
    obtain ⟨h1, o, ho, _⟩ := mem_ready.1 hj
    have := (hmem j (Array.getElem?_eq_some_iff.1 ho).1).1 h1
    cases this
  | succ fuel ih =>
    intro is listed a w hf hsz hdf hmem hin hp hcl H
    refine ⟨fun hr => ?_, fun j hj => ?_⟩
    · have e := hnil is listed hsz hmem hin hp hr
      subst e
      exact hend a w H
    · obtain ⟨h1, oj, hoj, hall⟩ := mem_ready.1 hj
      have hjs := (Array.getElem?_eq_some_iff.1 hoj).1
      have hji := (hmem j hjs).1 h1
      have hno : ∀ i ∈ is, listed.getD i false ≠ true := by
        intro i hi h2
        have h3 := (hmem i (hin i hi)).2 hi
        rw [getD_both h3] at h2
        cases h2
      have hnd : is.Nodup := hp.imp (fun h => Nat.ne_of_lt h)
      have hcl' : ClosedL md ops (listed.setIfInBounds j true) := by
        intro k ok hok hk e he hb
        have hkey : listed.getD e.on false = true := by
          by_cases hkj : k = j
          · subst hkj
            have : ok = oj := Option.some.inj (hok.symm.trans hoj)
            subst this
            exact hall e he hb
          · rw [getD_set_ne false (Ne.symm hkj)] at hk
            exact hcl k ok hok hk e he hb
        by_cases hej : e.on = j
        · rw [hej]
          simp [hsz, hjs]
        · rw [getD_set_ne false (Ne.symm hej)]
          exact hkey
      have hmem' : ∀ k, k < ops.size -> ((listed.setIfInBounds j true).getD k true = false ↔ k ∈ is.erase j) := by
        intro k hk
        rw [hnd.mem_erase_iff]
        by_cases hkj : k = j
        · subst hkj
          simp [hsz, hk]
        · rw [getD_set_ne true (Ne.symm hkj), hmem k hk]
          simp [hkj]
      have go := fun (a' : Act) (w' : World) (hd' : a'.defers = ds) HH =>
        ih (is.erase j) (listed.setIfInBounds j true) a' w' (by rw [List.length_erase_of_mem hji]; omega) (by simpa using hsz) hd' hmem' (fun k hk => hin k (List.mem_of_mem_erase hk)) (hp.sublist List.erase_sublist) hcl' HH
      have hhead : (∃ k, k <= j /\ hv k = true) -> ∃ js, is = j :: js := fun hk => by
        cases is with
        | nil => cases hji
        | cons i js =>
          rcases List.mem_cons.1 hji with rfl | hji'
          · exact ⟨js, rfl⟩
          · exfalso
            have hij := (List.pairwise_cons.1 hp).1 j hji'
            exact hno i List.mem_cons_self (reach_listed hcl _ j oj hoj hall (hB2 i j hij hjs hk))
      have hdp : ∀ (v : Value), (a.put oj.dst v).defers = ds := fun v => by
        rw [<- hdf]
        unfold Act.put
        split <;> rfl
      have tail : ∀ (js : List Nat) (S : World -> Prop), is = j :: js -> S w -> (∀ k ∈ js, ∃ k', k' <= k /\ hv k' = true) -> Tail4 P ops E (Q .normal) S (j :: js) a -> Go.wpOp P ops Q j (wpAny P md ops Q fuel (listed.setIfInBounds j true)) a w := by
        intro js S hjs' hS hk H
        obtain ⟨o, ho, H⟩ := H
        have e1 : o = oj := Option.some.inj (ho.symm.trans hoj)
        subst e1
        have her : is.erase j = js := by rw [hjs', List.erase_cons_head]
        rw [her] at go
        unfold Go.wpOp
        simp only [hoj]
        rcases H with ⟨v, hy, H⟩ | ⟨T, ⟨hw, hT⟩, H⟩
        · rcases hy with ⟨hw, hr⟩ | ⟨hw, rfl⟩
          · simp only [hw, if_true]
            refine .inl ?_
            unfold Oper.wp
            rw [hr w hS]
            exact go _ w (hdp _) (.inr ⟨hk, S, hS, H⟩)
          · simp only [hw, Bool.false_eq_true, if_false]
            exact go _ w (hdp _) (.inr ⟨hk, S, hS, H⟩)
        · simp only [hw, if_true]
          refine .inl ?_
          have h2 := hT w hS
          unfold Oper.wp
          generalize (execOp a.eval o).run P w = r at *
          cases r with
          | ok n w' =>
            cases n <;> simp only [FRun] at h2 <;> simp only [Oper.upon]
            case value u => exact go _ w' (hdp _) (.inr ⟨hk, T u, h2, H u ⟨w', h2⟩⟩)
            case skip => exact go _ w' (hdp _) (.inr ⟨hk, T undef, h2, H undef ⟨w', h2⟩⟩)
            case enter f args =>
              refine Calls.mono h2 fun e w'' he => ?_
              rcases he with ⟨v, rfl, ht⟩ | ⟨ch, rfl, hE'⟩
              · exact go _ w'' (hdp _) (.inr ⟨hk, T v, ht, H v ⟨w'', ht⟩⟩)
              · exact hE ch a w'' hdf hE'
          | halt x w' => simp only [FRun] at h2
      rcases H with ⟨S, hS, hst, H⟩ | ⟨hk, S, hS, H⟩
      · cases hvj : hv j with
        | true =>
          obtain ⟨js, rfl⟩ := hhead ⟨j, Nat.le_refl _, hvj⟩
          obtain ⟨o, ho, H⟩ := H
          rcases H with ⟨h2, _⟩ | ⟨h2, _⟩ | ⟨_, H⟩
          · rw [hvj] at h2; cases h2
          · rw [hvj] at h2; cases h2
          · exact tail js _ rfl hS (fun k hk => ⟨j, by have := (List.pairwise_cons.1 hp).1 k hk; omega, hvj⟩) H
        | false =>
          have key : ∃ o, ops[j]? = some o /\
             ((ac j = false /\ ∃ v, RS P ops (Dep4 md ops S0 S j) o v a /\ Lin4 P md ops S0 hv ac TT E (Q .normal) S (is.erase j) (a.put o.dst v)) \/
              (ac j = true /\ AS4 P ops (Dep4 md ops S0 S j) o (TT j) a /\ ∀ v, (∃ w, TT j v w /\ All4 S0 S w) -> Lin4 P md ops S0 hv ac TT E (Q .normal) ((j, TT j v) :: S) (is.erase j) (a.put o.dst v))) := by
            by_cases hbar : ∃ k, k <= j /\ hv k = true
            · obtain ⟨js, rfl⟩ := hhead hbar
              rw [List.erase_cons_head]
              obtain ⟨o, ho, H⟩ := H
              rcases H with ⟨_, h2, H⟩ | ⟨_, h2, H⟩ | ⟨h2, _⟩
              · exact ⟨o, ho, .inl ⟨h2, H⟩⟩
              · exact ⟨o, ho, .inr ⟨h2, H⟩⟩
              · rw [hvj] at h2; cases h2
            · exact Lin4.pull (Region.noSelect_spec hsel) hS0 hTT is S a hji hp (fun i hi hij oi oj' hoi hoj' => by
                refine hap i j oi oj' hij hoi hoj' (fun e he hb heq => ?_)
                have : oj' = oj := Option.some.inj (hoj'.symm.trans hoj)
                subst this
                have h2 := hall e he hb
                rw [heq] at h2
                exact hno i hi h2)
                (fun i hi hij => by
                  refine ⟨?_, ?_⟩
                  · cases h2 : hv i with
                    | false => rfl
                    | true => exact absurd ⟨i, Nat.le_of_lt hij, h2⟩ hbar
                  · cases h2 : reachB md ops i ops.size j with
                    | false => rfl
                    | true => exact absurd (reach_listed hcl _ j oj hoj hall h2) (hno i hi)) hvj ⟨w, hS⟩ hst H
          obtain ⟨o, ho, H'⟩ := key
          have e1 : o = oj := Option.some.inj (ho.symm.trans hoj)
          subst e1
          unfold Go.wpOp
          simp only [hoj]
          rcases H' with ⟨_, v, hy, H'⟩ | ⟨hac, ⟨hw, hT⟩, H'⟩
          · rcases hy with ⟨hw, hr⟩ | ⟨hw, rfl⟩
            · simp only [hw, if_true]
              refine .inl ?_
              unfold Oper.wp
              rw [hr w hS.dep]
              exact go _ w (hdp _) (.inl ⟨S, hS, hst, H'⟩)
            · simp only [hw, Bool.false_eq_true, if_false]
              exact go _ w (hdp _) (.inl ⟨S, hS, hst, H'⟩)
          · simp only [hw, if_true]
            refine .inl ?_
            have h2 := hT w hS.dep
            have fin : ∀ v w', TT j v w' -> Below w.heap.size w w' -> (wpAny P md ops Q fuel (listed.setIfInBounds j true)) (a.put o.dst v) w' := fun v w' ht hb => by
              have hS' : All4 S0 S w' := ⟨hS0 _ _ hS.1 hb, fun p hp => hst p hp _ _ (hS.2 p hp) hb⟩
              refine go _ w' (hdp _) (.inl ⟨_, ⟨hS'.1, fun p hp => ?_⟩, fun p hp => ?_, H' v ⟨w', ht, hS'⟩⟩)
              · rcases List.mem_cons.1 hp with rfl | hp
                · exact ht
                · exact hS'.2 p hp
              · rcases List.mem_cons.1 hp with rfl | hp
                · exact fun w w' => hTT j hac v w w'
                · exact hst p hp
            unfold Oper.wp
            generalize (execOp a.eval o).run P w = r at *
            cases r with
            | ok n w' =>
              cases n <;> simp only [ARun] at h2 <;> simp only [Oper.upon]
              case value u => exact fin u w' h2.1 h2.2
              case skip => exact fin _ w' h2.1 h2.2
              case enter f args =>
                refine Calls.mono h2 fun e w'' he => ?_
                obtain ⟨v, rfl, ht, hb⟩ := he
                exact fin v w'' ht hb
            | halt x w' => simp only [ARun] at h2
      · obtain ⟨js, rfl⟩ := hhead (hk j hji)
        exact tail js S rfl hS (fun k hk' => hk k (List.mem_cons_of_mem _ hk')) H
def wpT4 (P : Program) (ops : Array Oper) (E : List PanicEntry -> World -> Prop) (L : Act -> World -> Prop) : (World -> Prop) -> List Oper -> Act -> Prop
 | S, [], a => ∀ w, S w -> L a w
 | S, o :: os, a => (∃ v, RS P ops S o v a /\ wpT4 P ops E L S os (a.put o.dst v)) \/ (∃ T, FS4 P ops S o T E a /\ ∀ v, (∃ w, T v w) -> wpT4 P ops E L (T v) os (a.put o.dst v))
def wpL4 (P : Program) (md : Region.Mode) (ops : Array Oper) (S0 : World -> Prop) (hv ac : Nat -> Bool) (TT : Nat -> Value -> World -> Prop) (E : List PanicEntry -> World -> Prop) (L : Act -> World -> Prop) : Nat -> List (Nat × (World -> Prop)) -> List Oper -> Act -> Prop
  | _, S, [], a => ∀ w, All4 S0 S w -> L a w
  | k, S, o :: os, a =>
      (hv k = false /\ ac k = false /\ ∃ v, RS P ops (Dep4 md ops S0 S k) o v a /\ wpL4 P md ops S0 hv ac TT E L (k + 1) S os (a.put o.dst v)) \/
      (hv k = false /\ ac k = true /\ AS4 P ops (Dep4 md ops S0 S k) o (TT k) a /\ ∀ v, (∃ w, TT k v w /\ All4 S0 S w) -> wpL4 P md ops S0 hv ac TT E L (k + 1) ((k, TT k v) :: S) os (a.put o.dst v)) \/
      (hv k = true /\ wpT4 P ops E L (All4 S0 S) (o :: os) a)
theorem tail4_of_l {L : Act -> World -> Prop} : ∀ (os : List Oper) (k : Nat) (S : World -> Prop) (a : Act), (∀ j, os[j]? = ops[k + j]?) -> wpT4 P ops E L S os a -> Tail4 P ops E L S (List.range' k os.length) a := by
 intro os
 induction os with
 | nil => intro k S a _ h; exact h
 | cons o os ih =>
  intro k S a hj h
  rw [List.length_cons, List.range'_succ]
  have hj' : ∀ j, os[j]? = ops[k + 1 + j]? := fun j => by
   have := hj (j + 1)
   rw [List.getElem?_cons_succ] at this
   rw [this, Nat.add_right_comm, Nat.add_assoc]
  refine ⟨o, by have := hj 0; simpa using this.symm, ?_⟩
  rcases h with ⟨v, hy, h⟩ | ⟨T, hT, h⟩
  ·exact .inl ⟨v, hy, ih (k + 1) S _ hj' h⟩
  ·exact .inr ⟨T, hT, fun v hv' => ih (k + 1) (T v) _ hj' (h v hv')⟩
theorem lin4_of_l {L : Act -> World -> Prop} : ∀ (os : List Oper) (k : Nat) (S : List (Nat × (World -> Prop))) (a : Act), (∀ j, os[j]? = ops[k + j]?) -> wpL4 P md ops S0 hv ac TT E L k S os a -> Lin4 P md ops S0 hv ac TT E L S (List.range' k os.length) a := by
 intro os
 induction os with
 | nil => intro k S a _ h; exact h
 | cons o os ih =>
  intro k S a hj h
  have hj0 := hj
  rw [List.length_cons, List.range'_succ]
  have hj' : ∀ j, os[j]? = ops[k + 1 + j]? := fun j => by
   have := hj (j + 1)
   rw [List.getElem?_cons_succ] at this
   rw [this, Nat.add_right_comm, Nat.add_assoc]
  refine ⟨o, by have := hj 0; simpa using this.symm, ?_⟩
  rcases h with ⟨h1, h2, v, hy, h⟩ | ⟨h1, h2, hA, h⟩ | ⟨h1, h⟩
  ·exact .inl ⟨h1, h2, v, hy, ih (k + 1) S _ hj' h⟩
  ·exact .inr (.inl ⟨h1, h2, hA, fun v hv' => ih (k + 1) _ _ hj' (h v hv')⟩)
  ·refine .inr (.inr ⟨h1, ?_⟩)
   have := tail4_of_l (o :: os) k _ a hj0 h
   rw [List.length_cons, List.range'_succ] at this
   exact this
theorem wpT4_weak {L : Act -> World -> Prop} : ∀ (os : List Oper) (S S' : World -> Prop) (a : Act), (∀ w, S' w -> S w) -> wpT4 P ops E L S os a -> wpT4 P ops E L S' os a := by
 intro os
 induction os with
 | nil => intro S S' a h H w hw; exact H w (h w hw)
 | cons o os ih =>
  intro S S' a h H
  rcases H with ⟨v, hy, H⟩ | ⟨T, hT, H⟩
  ·exact .inl ⟨v, hy.weak h, ih _ _ _ h H⟩
  ·exact .inr ⟨T, ⟨hT.1, fun w hw => hT.2 w (h w hw)⟩, H⟩
theorem wpL4_weak {L : Act -> World -> Prop} : ∀ (os : List Oper) (k : Nat) (S S' : List (Nat × (World -> Prop))) (a : Act), (∀ p ∈ S, p ∈ S') -> wpL4 P md ops S0 hv ac TT E L k S os a -> wpL4 P md ops S0 hv ac TT E L k S' os a := by
 intro os
 induction os with
 | nil => intro k S S' a h H w hw; exact H w ⟨hw.1, fun p hp => hw.2 p (h p hp)⟩
 | cons o os ih =>
  intro k S S' a h H
  have hd : ∀ w, Dep4 md ops S0 S' k w -> Dep4 md ops S0 S k w := fun w hw => ⟨hw.1, fun p hp hr => hw.2 p (h p hp) hr⟩
  have hA' : ∀ w, All4 S0 S' w -> All4 S0 S w := fun w hw => ⟨hw.1, fun p hp => hw.2 p (h p hp)⟩
  rcases H with ⟨h1, h2, v, hy, H⟩ | ⟨h1, h2, hA, H⟩ | ⟨h1, H⟩
  ·exact .inl ⟨h1, h2, v, hy.weak hd, ih _ S S' _ h H⟩
  ·exact .inr (.inl ⟨h1, h2, hA.weak hd, fun v hv => ih _ _ _ _ (fun p hp => by
    rcases List.mem_cons.1 hp with rfl | hp
    ·exact List.mem_cons_self
    ·exact List.mem_cons_of_mem _ (h p hp)) (H v (by
     obtain ⟨w, hw1, hw2⟩ := hv
     exact ⟨w, hw1, hA' w hw2⟩))⟩)
  ·refine .inr (.inr ⟨h1, ?_⟩)
   rcases H with ⟨v, hy, H⟩ | ⟨T, hT, H⟩
   ·exact .inl ⟨v, hy.weak hA', wpT4_weak _ _ _ _ hA' H⟩
   ·exact .inr ⟨T, ⟨hT.1, fun w hw => hT.2 w (hA' w hw)⟩, H⟩
def TTof : List (Nat × (Value -> World -> Prop)) -> Nat -> Value -> World -> Prop
 | [], _ => fun _ _ => False
 | (i, T) :: r, k => if k = i then T else TTof r k
def ACof : List (Nat × (Value -> World -> Prop)) -> Nat -> Bool
 | [], _ => false
 | (i, _) :: r, k => if k = i then true else ACof r k
def Stable (T : Value -> World -> Prop) : Prop := ∀ v w w', T v w -> Below w.heap.size w w' -> T v w'
def StL : List (Nat × (Value -> World -> Prop)) -> Prop
 | [] => True
 | (_, T) :: r => Stable T /\ StL r
theorem StL.of : ∀ {l : List (Nat × (Value -> World -> Prop))}, StL l -> ∀ k, ACof l k = true -> ∀ v w w', TTof l k v w -> Below w.heap.size w w' -> TTof l k v w' := by
 intro l
 induction l with
 | nil => intro _ k h; cases h
 | cons p r ih =>
  obtain ⟨i, T⟩ := p
  intro hs k h v w w' ht hb
  unfold ACof at h
  unfold TTof at ht ⊢
  by_cases hk : k = i
  ·rw [if_pos hk] at ht ⊢
   exact hs.1 v w w' ht hb
  ·rw [if_neg hk] at h ht ⊢
   exact ih hs.2 k h v w w' ht hb
theorem wp_region_bag {id : Nat} {a : Act} {w : World} {l : List Oper} (S0 : World -> Prop) (hv : Nat -> Bool) (TL : List (Nat × (Value -> World -> Prop))) (E : List PanicEntry -> World -> Prop) (hm : P.follows .mixedOrders = true) (hB : bagB .any l.toArray hv = true) (hS : S0 w.drew) (hS0 : ∀ w w', S0 w -> Below w.heap.size w w' -> S0 w') (hTT : StL TL)
  (hE : ∀ ch (a' : Act) w, a'.defers = a.defers -> E ch w -> Q (.panic ch) a' w) (h : wpL4 P .any l.toArray S0 hv (ACof TL) (TTof TL) E (Q .normal) 0 [] l a) : (Code.region id l.toArray true).wp P Q a w := by
 refine wp_region_any hm (wpAny_of_lin4 hB hS0 hTT.of hE _ (List.range' 0 l.length) _ a _ (by simp) (by simp) rfl (fun j hj => ?_) (fun j hj => by simpa using hj) (List.pairwise_lt_range' ..) (fun j oj hj hl => ?_) (.inl ⟨[], ⟨hS, fun p hp => (by cases hp)⟩, fun p hp => (by cases hp), lin4_of_l l 0 [] a (fun j => by simp) h⟩))
 ·simp at hj
  simp [hj]
 ·exfalso
  rw [Array.getD_eq_getD_getElem?] at hl
  rw [Array.getElem?_replicate] at hl
  split at hl <;> simp at hl
section
variable {L : Act -> World -> Prop} {k : Nat} {S : List (Nat × (World -> Prop))} {o : Oper} {os : List Oper} {a : Act}
theorem wpL4_read {v : Value} (hh : hv k = false) (ha : ac k = false) (hw : Region.wanted o (yielded ops a.tmps) = true) (hy : ∀ w, Dep4 md ops S0 S k w -> (execOp a.eval o).run P w = .ok (.value v) w)
  (h : wpL4 P md ops S0 hv ac TT E L (k + 1) S os (a.put o.dst v)) : wpL4 P md ops S0 hv ac TT E L k S (o :: os) a := .inl ⟨hh, ha, v, .inl ⟨hw, hy⟩, h⟩
theorem wpL4_not (hh : hv k = false) (ha : ac k = false) (hw : Region.wanted o (yielded ops a.tmps) = false) (h : wpL4 P md ops S0 hv ac TT E L (k + 1) S os (a.put o.dst undef)) : wpL4 P md ops S0 hv ac TT E L k S (o :: os) a :=
 .inl ⟨hh, ha, undef, .inr ⟨hw, rfl⟩, h⟩
theorem wpL4_call1 {f : FuncId} {args : Array Value} (c : Value) (hT : TT k = fun v _ => v = c) (hh : hv k = false) (ha : ac k = true) (hw : Region.wanted o (yielded ops a.tmps) = true) (he : ∀ w, Dep4 md ops S0 S k w -> (execOp a.eval o).run P w = .ok (.enter f args) w)
  (hy : ∀ w, Dep4 md ops S0 S k w -> Calls P f args w fun e w' => e = .returned c /\ Below w.heap.size w w') (h : wpL4 P md ops S0 hv ac TT E L (k + 1) S os (a.put o.dst c)) : wpL4 P md ops S0 hv ac TT E L k S (o :: os) a := by
 refine .inr (.inl ⟨hh, ha, ⟨hw, fun w hS => by
  rw [he w hS, hT]
  exact Calls.mono (hy w hS) fun e w' he' => ⟨c, he'.1, rfl, he'.2⟩⟩, fun v hv' => ?_⟩)
 obtain ⟨w, hw1, _⟩ := hv'
 rw [hT] at hw1
 have hw2 : v = c := hw1
 subst hw2
 exact wpL4_weak _ _ _ _ _ (fun p hp => List.mem_cons_of_mem _ hp) h
theorem wpL4_bar (hh : hv k = true) (h : wpT4 P ops E L (All4 S0 S) (o :: os) a) : wpL4 P md ops S0 hv ac TT E L k S (o :: os) a := .inr (.inr ⟨hh, h⟩)
theorem wpT4_nil {S : World -> Prop} (h : ∀ w, S w -> L a w) : wpT4 P ops E L S [] a := h
theorem wpT4_op {S : World -> Prop} (T : Value -> World -> Prop) (hw : Region.wanted o (yielded ops a.tmps) = true) (hy : ∀ w, S w -> FRun P T E ((execOp a.eval o).run P w)) (h : ∀ v, (∃ w, T v w) -> wpT4 P ops E L (T v) os (a.put o.dst v)) : wpT4 P ops E L S (o :: os) a :=
 .inr ⟨T, ⟨hw, hy⟩, h⟩
end
end
structure CsdAt (w0 : World) (Z B gd gb gt b4 bo n : Nat) (E lim : Int) (st : BkS) (dc : Array Value) (cs : Array Value) (vR : Value) (A A' : Option Addr) (N : Nat) (L L' : List Int) (w : World) : Prop where
 d : DeskIs w B gd gb gt E lim n st dc
 s : Blk w b4 26 cs
 o : Blk w bo 30 #[.pointer (some ⟨gd, 0, none⟩), vR]
 a : IntsI w A N L
 t : IntsI w A' N L'
 tab : TabsB Z w
 b : Below w0.heap.size w0 w
section
variable {w0 w w' : World} {Z B gd gb gt b4 bo n N : Nat} {E lim : Int} {st : BkS} {dc : Array Value} {cs : Array Value} {vR : Value} {A A' : Option Addr} {L L' : List Int}
theorem CsdAt.below (h : CsdAt w0 Z B gd gb gt b4 bo n E lim st dc cs vR A A' N L L' w) (hb : Below w.heap.size w w') : CsdAt w0 Z B gd gb gt b4 bo n E lim st dc cs vR A A' N L L' w' := ⟨h.d.below hb, h.s.below hb, h.o.below hb, h.a.bel hb, h.t.bel hb, h.tab.below hb, bseq h.b hb⟩
theorem CsdAt.set (h : CsdAt w0 Z B gd gb gt b4 bo n E lim st dc cs vR A A' N L L' w) (hZ : Z <= w0.heap.size) (hb : w0.heap.size <= b4) (i : Nat) (v : Value) : CsdAt w0 Z B gd gb gt b4 bo n E lim st dc (cs.setIfInBounds i v) vR A A' N L L' (w.setCell ⟨b4, i, none⟩ v) := by
 obtain ⟨h1, h2, h3, h4, h5, h6⟩ := ca_keep hZ hb h.b h.d h.s h.o h.a h.t h.tab ((Fr.refl _ _).set1 i v)
 exact ⟨h1, h.s.set_ i v, h2, h3, h4, h5, h6⟩
theorem CsdAt.run {n' : Nat} {X : Nat -> Prop} {st' : BkS} {dc' : Array Value} (h : CsdAt w0 Z B gd gb gt b4 bo n E lim st dc cs vR A A' N L L' w) (hZ : Z <= w0.heap.size) (hB : w0.heap.size <= B) (hX : ∀ b, X b -> b = gd) (hf : DFr B X w w') (hd : DeskIs w' B gd gb gt E lim n' st' dc') : CsdAt w0 Z B gd gb gt b4 bo n' E lim st' dc' cs vR A A' N L L' w' := by
 obtain ⟨h1, h2, h3, h4, h5, h6⟩ := ca_run hZ hB h.b h.d h.s h.o h.a h.t h.tab hX hf
 exact ⟨hd, h1, h2, h3, h4, h5, h6⟩
end
def CsdR (w0 : World) (N m : Nat) (q14 : Value) (wr : World) : Prop := ∃ i : Nat, q14 = .int .i64 (i : Int) /\ i <= N /\ N - i <= m /\ Below w0.heap.size w0 wr
theorem cased_any (s : Start) (f0 t0 k0 how0 : Int) (A : Option Addr) (n c : Nat) (w : World) (hl : Bts w Any A n s.data) (hB : Byt s.data) (h1 : FitsI s.native) (h2 : FitsI s.depth) (h3 : FitsI s.room) (h4 : FitsI f0) (h5 : FitsI t0) (h6 : FitsI k0) (h7 : FitsI how0) (hT : Tabs w) :
  Calls Tryz.prog 3 #[.agg #[.int .i64 s.enc, .slice A n c, .int .i64 s.native, .int .i64 s.depth, .int .i64 s.room], .agg #[.int .i64 f0, .int .i64 t0, .int .i64 k0], .int .i64 how0] w fun e w' => e = .returned (.bool true) /\ Below w.heap.size w w' := by
 obtain ⟨hE, hll, hlim, hlim2, hd1, hd2⟩ := start_bd s
 have hBl : Byt s.l := hB.take _
 have HTAB := Lib.hid (TabsB.of hT)
 have hw0 : Below w.heap.size w ((w.alloc (.cells #[.int .i64 s.enc, .slice A n c, .int .i64 s.native, .int .i64 s.depth, .int .i64 s.room] 24)).alloc (.cells #[.int .i64 f0, .int .i64 t0, .int .i64 k0] 26)) := balloc (balloc (Below.refl _ _))
 have hb1 := (Blk.new w 24 #[.int .i64 s.enc, .slice A n c, .int .i64 s.native, .int .i64 s.depth, .int .i64 s.room]).alloc (.cells #[.int .i64 f0, .int .i64 t0, .int .i64 k0] 26)
 have hsp : Blk ((w.alloc (.cells #[.int .i64 s.enc, .slice A n c, .int .i64 s.native, .int .i64 s.depth, .int .i64 s.room] 24)).alloc (.cells #[.int .i64 f0, .int .i64 t0, .int .i64 k0] 26)) (w.heap.size + 1) 26 #[.int .i64 f0, .int .i64 t0, .int .i64 k0] := Blk.new' (by simp)
 have hkb := withinF_bd k0 1 (by decide)
 have HKB := Lib.hid (fun w' => within_any k0 1 w' h6 (by decide) (by decide))
 obtain ⟨kd, hkd⟩ : ∃ kd, withinF k0 1 = kd := ⟨_, rfl⟩
 rw [hkd] at HKB hkb
 have hkd2 : kd = 0 \/ kd = 1 := by omega
 have hhb := withinF_bd how0 1 (by decide)
 have HHB := Lib.hid (fun w' => within_any how0 1 w' h7 (by decide) (by decide))
 obtain ⟨hw, hhw⟩ : ∃ hw, withinF how0 1 = hw := ⟨_, rfl⟩
 rw [hhw] at HHB hhb
 have hhw2 : hw = 0 \/ hw = 1 := by omega
 clear hkd hkb h6 h7 hhw hhb hT
 go_enter Tryz.func3, Tryz.ntmps3
 go_upto_region 1 with fail
 obtain ⟨w1, hw10⟩ : ∃ x, ((w.alloc (.cells #[.int .i64 s.enc, .slice A n c, .int .i64 s.native, .int .i64 s.depth, .int .i64 s.room] 24)).alloc (.cells #[.int .i64 f0, .int .i64 t0, .int .i64 k0] 26)) = x := ⟨_, rfl⟩
 rw [hw10] at hb1 hw0 hsp ⊢
 have hb4 : w.heap.size <= w.heap.size + 1 := Nat.le_succ _
 obtain ⟨b4, hb40⟩ : ∃ x, w.heap.size + 1 = x := ⟨_, rfl⟩
 rw [hb40] at hsp hb4 ⊢
 clear hw10 hb40
 obtain ⟨g0, g1, g2, g3, g4⟩ := cells5 hb1
 have hbg := begun_any s A n c w1 (Reads.below hl hw0) hB h1 h2 h3
 have hzB : w.heap.size <= w1.heap.size := hw0.size
 have HSP := Lib.hid hsp
 have HBG := Lib.hid hbg
 clear hbg hb1 hsp
 go_wp2_with fail
 refine (HBG.out).mono ?_
 rintro e w2 ⟨gd, gb, gt, m, gk, mk, gd', gb', gt', gk', ld, rfl, hBe, hb2⟩
 have hd := hBe.D.is (by omega) hlim2 ⟨hd1, hd2⟩
 obtain ⟨B, hBB⟩ : ∃ B, w1.heap.size = B := ⟨_, rfl⟩
 have hb4B : b4 < B := by rw [<- hBB]; exact HSP.out.lt
 rw [hBB] at hd hzB
 have hsized := newS_sized (depth := s.dep) (mk := mk) hE hBl
 have hszS : szS (sizedA s.E (newS s.E s.dep s.l mk).ats) = (s.l.length : Int) := by rw [hsized]; exact newS_sz
 have hszL : szS (sizedA s.E (newS s.E s.dep s.l mk).ats) <= s.lim := by rw [hszS]; exact hlim
 have hnow : (newS s.E s.dep s.l mk).now = none := rfl
 have hund : (newS s.E s.dep s.l mk).undo = [] := rfl
 have hlas : (newS s.E s.dep s.l mk).last = 0 := rfl
 have hdep : (newS s.E s.dep s.l mk).depth = s.dep := rfl
 obtain ⟨nv, hnv0⟩ : ∃ nv, natF ((dec s.E s.l).map Prod.fst) s.nat = nv := ⟨_, rfl⟩
 rw [hnv0] at hd
 obtain ⟨E, hEE⟩ : ∃ x, s.E = x := ⟨_, rfl⟩
 obtain ⟨lim, hli⟩ : ∃ x, s.lim = x := ⟨_, rfl⟩
 obtain ⟨st, hst⟩ : ∃ x, newS s.E s.dep s.l mk = x := ⟨_, rfl⟩
 have hz0 : (deskC gb gk nv).size = 10 := rfl
 have hz2 : (deskC gb gk nv)[2]? = some (.int .i64 0) := rfl
 obtain ⟨dc, hdc⟩ : ∃ x, deskC gb gk nv = x := ⟨_, rfl⟩
 rw [hst] at hd hszL hnow hund hlas hdep
 rw [hdc] at hd hz0 hz2
 rw [hEE, hli] at hd
 rw [hEE] at hszL
 rw [hli] at hszL
 rw [hli] at hlim2
 have hdep2 : (1 : Int) <= st.depth := by rw [hdep]; exact hd1
 have HDD := Lib.hid hd
 have HST := Lib.hid (And.intro hnow (And.intro (show (st.undo.length : Int) <= st.depth by rw [hund]; simp; omega) (And.intro hlas (And.intro hszL hlim2))))
 have HZ := Lib.hid (And.intro hz0 hz2)
 have HSP2 := Lib.hid (HSP.out.below hb2)
 clear hBB hd hsized hszS hszL hnow hund hlas hdep hst hdc hEE hli hz0 hz2 hdep2 hBe HBG hl hB hBl hE hll hlim hlim2 hd1 hd2 h1 h2 h3 g0 g1 g2 g3 g4 hnv0 HSP
 go_upto_region 2 with fail
 have hw2 := bseq hw0 hb2
 have hBo : Blk (w2.alloc (.cells #[.pointer (some ⟨gd, 0, none⟩), .pointer (some ⟨gd', 0, none⟩)] 30)) w2.heap.size 30 #[.pointer (some ⟨gd, 0, none⟩), .pointer (some ⟨gd', 0, none⟩)] := Blk.new w2 _ _
 have hba3 : Below w2.heap.size w2 (w2.alloc (.cells #[.pointer (some ⟨gd, 0, none⟩), .pointer (some ⟨gd', 0, none⟩)] 30)) := balloc (Below.refl _ _)
 obtain ⟨bo, hbo⟩ : ∃ x, w2.heap.size = x := ⟨_, rfl⟩
 obtain ⟨w3, hw30⟩ : ∃ x, w2.alloc (.cells #[.pointer (some ⟨gd, 0, none⟩), .pointer (some ⟨gd', 0, none⟩)] 30) = x := ⟨_, rfl⟩
 rw [hw30] at hBo hba3 ⊢
 rw [hbo] at hBo ⊢
 have hd3 := HDD.out.below hba3
 have hs3 := HSP2.out.below hba3
 have hw3 := bseq hw2 hba3
 clear hw30 hbo hb2 hw2 HDD hw0 HSP2 hba3
 have hgB : B <= gd := hd3.low
 have hne : bo ≠ gd := Blk.ne_ hBo hd3.desk (by decide)
 have HTY := Lib.hid (both_typed w3 bo)
 have HD3 := Lib.hid (And.intro hd3 hs3)
 have HBo := Lib.hid hBo
 clear hd3 hBo hs3
 go_wp2_with fail
 refine (HTY.out).mono ?_
 rintro e w4 ⟨rfl, hb4'⟩
 clear HTY
 have hd4 := HD3.out.1.below hb4'
 have hBo4 := HBo.out.below hb4'
 have hw4 := bseq hw3 hb4'
 obtain ⟨c0, -⟩ := cells2 hBo4
 have HAT := Lib.hid (batoms_any hd4 hBo4)
 have hal : st.ats.length <= 65536 := hd4.len
 have HTG := Lib.hid (fun (w' : World) (hb : Below w4.heap.size w4 w') => btags_any (hd4.below hb) (hBo4.below hb))
 have HD4 := Lib.hid (And.intro hd4 (HD3.out.2.below hb4'))
 have HB4 := Lib.hid hBo4
 clear hd4 hBo4 HD3 HBo hb4' hw3
 go_wp2_with fail
 refine (HAT.out).mono ?_
 rintro e w5 ⟨v5, rfl, ho5, hb5⟩
 rw [List.length_map] at ho5
 obtain ⟨A5, c5, rfl, hc5⟩ := own_slice ho5
 have hI5 := IntsI.of_own ho5
 clear HAT ho5
 obtain ⟨N, hN⟩ : ∃ N, st.ats.length = N := ⟨_, rfl⟩
 rw [hN] at hal hc5 hI5 ⊢
 have HN := Lib.hid hN
 have HI5 := Lib.hid hI5
 clear hI5 hN
 go_wp2_with fail
 refine (HTG.out _ hb5).mono ?_
 rintro e w6 ⟨v6, rfl, ho6, hb6⟩
 rw [List.length_map, HN.out] at ho6
 obtain ⟨A6, c6, rfl, hc6⟩ := own_slice ho6
 have hC6 : CsdAt w w.heap.size B gd gb gt b4 bo 0 E lim st dc #[.int .i64 f0, .int .i64 t0, .int .i64 k0] (.pointer (some ⟨gd', 0, none⟩)) A5 A6 N (st.ats.map Prod.fst) (st.ats.map Prod.snd) w6 :=
  ⟨HD4.out.1.below (bseq hb5 hb6), HD4.out.2.below (bseq hb5 hb6), HB4.out.below (bseq hb5 hb6), HI5.out.bel hb6, IntsI.of_own ho6, HTAB.out.below (bseq hw4 (bseq hb5 hb6)), bseq hw4 (bseq hb5 hb6)⟩
 have HC6 := Lib.hid hC6
 clear hC6 ho6 hb6 hb5 HI5 HTG HD4 HB4 HTAB hw4 hc5 hc6 c0
 have ha0 := withinF_bd f0 (N : Int) (by omega)
 have HWA := Lib.hid (fun w' => within_any f0 (N : Int) w' h4 (by omega) (by omega))
 obtain ⟨a0, ha00⟩ : ∃ a0 : Nat, withinF f0 (N : Int) = (a0 : Int) := ⟨(withinF f0 (N : Int)).toNat, by omega⟩
 rw [ha00] at ha0 HWA
 have hb0 := withinF_bd t0 ((N : Int) - (a0 : Int)) (by omega)
 have HWB := Lib.hid (fun w' => within_any t0 ((N : Int) - (a0 : Int)) w' h5 (by omega) (by omega))
 obtain ⟨d0, hd00⟩ : ∃ d0 : Nat, withinF t0 ((N : Int) - (a0 : Int)) = (d0 : Int) := ⟨(withinF t0 ((N : Int) - (a0 : Int))).toNat, by omega⟩
 rw [hd00] at hb0 HWB
 obtain ⟨b0, hb00⟩ : ∃ b0, a0 + d0 = b0 := ⟨_, rfl⟩
 have wN : IntKind.i64.wrap ((N : Int) - (a0 : Int)) = (N : Int) - (a0 : Int) := IntWalk.i64_in _ (by omega)
 have wB : IntKind.i64.wrap ((a0 : Int) + (d0 : Int)) = (b0 : Int) := by rw [IntWalk.i64_in _ (by omega)]; omega
 have hab : a0 <= b0 /\ b0 <= N := by omega
 obtain ⟨s0, s1, s2⟩ := cells3 HC6.out.s
 have f0' := HC6.out.s.frozen 0
 clear hd00 ha00 hb00 h4 h5 ha0 hb0
 go_wp2_with fail
 refine (HWA.out _).mono ?_
 rintro e w7 ⟨rfl, rfl⟩
 go_upto_region 7 with fail
 have hC7 := HC6.out.set (Nat.le_refl _) hb4 0 (.int .i64 (a0 : Int))
 rw [show (#[.int .i64 f0, .int .i64 t0, .int .i64 k0] : Array Value).setIfInBounds 0 (.int .i64 (a0 : Int)) = #[.int .i64 (a0 : Int), .int .i64 t0, .int .i64 k0] by simp] at hC7
 obtain ⟨w7, hw70⟩ : ∃ x, w6.setCell ⟨b4, 0, none⟩ (.int .i64 (a0 : Int)) = x := ⟨_, rfl⟩
 rw [hw70] at hC7 ⊢
 clear s0 s1 s2 f0' HWA hw70 HC6
 have hF7 : ∀ w', Below w7.heap.size w7 w' -> w'.cell? ⟨b4, 0, none⟩ = some (.int .i64 (a0 : Int)) /\ w'.cell? ⟨b4, 1, none⟩ = some (.int .i64 t0) /\ w'.frozen? ⟨b4, 1, none⟩ = false := fun w' hb => ⟨(hC7.s.below hb).cell 0, (hC7.s.below hb).cell 1, (hC7.s.below hb).frozen 1⟩
 have HF7 := Lib.hid hF7
 have HC7 := Lib.hid hC7
 clear hF7 hC7
 refine wp_region_bag (fun w' => Below w7.heap.size w7 w') (fun k => k == 12) ([(9, fun v _ => v = .int .i64 (d0 : Int))]) (fun _ _ => False) (by kernel_rfl) (by kernel_rfl) (Below.drew (Below.refl _ _)) (fun _ _ h hb => bseq h hb) (⟨fun _ _ _ h _ => h, trivial⟩) (fun _ _ _ _ h => h.elim) ?_
 repeat ((first
  | (refine wpL4_read (v := ?_) (by rfl) (by rfl) (by rfl) (fun w6 hSw => ?_) ?_; rotate_left; (· (obtain ⟨y0, y1, y2⟩ := HF7.out _ hSw.1; go_simp; try with_reducible rfl)))
  | refine wpL4_not (by rfl) (by rfl) (by rfl) ?_); (try simp only [Act.put, pA, pB, pC]))
 refine wpL4_call1 (f := ?_) (args := ?_) (.int .i64 (d0 : Int)) (by rfl) (by rfl) (by rfl) (by rfl) (fun w6 hSw => ?_) (fun w6 hSw => ?_) ?_
 rotate_left 2
 ·(skip; go_simp; first | done | (constructor <;> with_reducible rfl) | with_reducible rfl)
 ·(refine (HWB.out _).mono ?_; rintro e w' ⟨rfl, rfl⟩; exact ⟨rfl, Below.refl _ _⟩)
 (try simp only [Act.put, pA, pB, pC])
 repeat ((first
  | (refine wpL4_read (v := ?_) (by rfl) (by rfl) (by rfl) (fun w6 hSw => ?_) ?_; rotate_left; (· (obtain ⟨y0, y1, y2⟩ := HF7.out _ hSw.1; go_simp; try with_reducible rfl)))
  | refine wpL4_not (by rfl) (by rfl) (by rfl) ?_); (try simp only [Act.put, pA, pB, pC]))
 refine wpL4_bar (by rfl) ?_
 refine wpT4_op (fun _ w'' => ∃ w', Below w7.heap.size w7 w' /\ w'' = w'.setCell ⟨b4, 1, none⟩ (.int .i64 (b0 : Int))) (by rfl) (fun w6 hSw => ?_) (fun v6 hv6 => ?_)
 ·(obtain ⟨y0, y1, y2⟩ := HF7.out _ hSw.1; go_simp; exact ⟨w6, hSw.1, rfl⟩)
 skip
 (try simp only [Act.put, pA, pB, pC])
 refine wpT4_nil ?_
 rintro w8 ⟨w7', hb7, rfl⟩
 have hC8 := (HC7.out.below hb7).set (Nat.le_refl _) hb4 1 (.int .i64 (b0 : Int))
 rw [show (#[.int .i64 (a0 : Int), .int .i64 t0, .int .i64 k0] : Array Value).setIfInBounds 1 (.int .i64 (b0 : Int)) = #[.int .i64 (a0 : Int), .int .i64 (b0 : Int), .int .i64 k0] by simp] at hC8
 obtain ⟨w8, hw80⟩ : ∃ x, w7'.setCell ⟨b4, 1, none⟩ (.int .i64 (b0 : Int)) = x := ⟨_, rfl⟩
 rw [hw80] at hC8 ⊢
 clear hw80 hb7 HF7 HWB wN wB HC7
 have s2 := hC8.s.cell 2
 have f2 := hC8.s.frozen 2
 simp only [List.getElem?_toArray, List.getElem?_cons_succ, List.getElem?_cons_zero] at s2
 have HC8 := Lib.hid hC8
 clear hC8
 go_wp2_with fail
 refine (HKB.out _).mono ?_
 rintro e w9 ⟨rfl, rfl⟩
 go_upto_region 9 with fail
 clear s2 f2 HKB
 have hC9 := HC8.out.set (Nat.le_refl _) hb4 2 (.int .i64 kd)
 rw [show (#[.int .i64 (a0 : Int), .int .i64 (b0 : Int), .int .i64 k0] : Array Value).setIfInBounds 2 (.int .i64 kd) = #[.int .i64 (a0 : Int), .int .i64 (b0 : Int), .int .i64 kd] by simp] at hC9
 obtain ⟨w9, hw90⟩ : ∃ x, w8.setCell ⟨b4, 2, none⟩ (.int .i64 kd) = x := ⟨_, rfl⟩
 rw [hw90] at hC9 ⊢
 clear hw90 HC8
 obtain ⟨hv, hhv⟩ : ∃ hv, 5 + hw = hv := ⟨_, rfl⟩
 have wh : IntKind.i64.wrap (5 + hw) = hv := by rw [IntWalk.i64_in _ (by omega)]; exact hhv
 obtain ⟨F, fid, hH, hF, hHF⟩ : ∃ F fid, CaHow hv F fid /\ Cas F /\ ((hv = 5 /\ F = upF) \/ (hv = 6 /\ F = loF)) := by
  rcases hhw2 with h | h
  ·exact ⟨upF, _, .inl ⟨by omega, rfl, rfl⟩, upF_cas, .inl ⟨by omega, rfl⟩⟩
  ·exact ⟨loF, _, .inr (.inl ⟨by omega, rfl, rfl⟩), loF_cas, .inr ⟨by omega, rfl⟩⟩
 have HHF := Lib.hid hHF
 have hp := hC9.d.pos
 have hXY := caXY hp (kd := kd) (a := (a0 : Int)) (b := (b0 : Int)) (by rw [sizedA_len, HN.out]; omega)
 rw [sizedA_len, HN.out] at hXY
 obtain ⟨x, hx⟩ : ∃ x : Nat, caX (sizedA E st.ats) (a0 : Int) kd = (x : Int) := ⟨(caX (sizedA E st.ats) (a0 : Int) kd).toNat, by omega⟩
 obtain ⟨y, hy⟩ : ∃ y : Nat, caY (sizedA E st.ats) (a0 : Int) (b0 : Int) kd = (y : Int) := ⟨(caY (sizedA E st.ats) (a0 : Int) (b0 : Int) kd).toNat, by omega⟩
 rw [hx, hy] at hXY
 have hcs := dcase_any w.heap.size B gd gb gt 0 E lim 0 (a0 : Int) (b0 : Int) kd hv F fid st dc w9 hC9.d HST.out.1 HZ.out.1 HZ.out.2 hH hzB hC9.tab hkd2 (by rw [HN.out]; omega) (by decide) HST.out.2.1 (by rw [HST.out.2.2.1]; decide)
 rw [hx, hy] at hcs
 have HCS := Lib.hid hcs
 have HXY := Lib.hid (And.intro hx hy)
 have HP := Lib.hid hp
 have HH := Lib.hid (And.intro hH hF)
 have hxy : x <= y /\ y <= N := by omega
 have HC9 := Lib.hid hC9
 obtain ⟨y0, -⟩ := cells2 HC9.out.o
 obtain ⟨s0, s1, s2⟩ := cells3 HC9.out.s
 clear hcs hx hy hp hXY hH hF hHF hhv hC9 hhw2
 go_wp2_with fail
 refine (HHB.out _).mono ?_
 rintro e wz ⟨rfl, rfl⟩
 go_wp2_with fail
 refine (HCS.out).mono ?_
 rintro e w10 ⟨r, rfl, hP⟩
 clear y0 s0 s1 s2 HHB HCS wh
 rcases hP with ⟨rfl, es, c, v, j, hne0, hes, hrf, -, -, -, hv2, hd10, hf10⟩ | ⟨hr, hd10, hf10⟩
 ·have hC10 := HC9.out.run (Nat.le_refl _) hzB (fun _ h => h) hf10 hd10
  have hce : CaEd F E x y st.ats (edA es st.ats) := caEd_of hxy.1 (by rw [HN.out]; exact hxy.2) hes
  obtain ⟨o1, o2, o3, o4⟩ := caS_out (es := es) (c := c) (x := v) HST.out.2.1
  obtain ⟨st2, hst2⟩ : ∃ z, shiftS st es c v = z := ⟨_, rfl⟩
  have hz0 : (dc.setIfInBounds 2 (.int .i64 v)).size = 10 := by simp [HZ.out.1]
  have hz2 : (dc.setIfInBounds 2 (.int .i64 v))[2]? = some (.int .i64 v) := by simp [Array.getElem?_setIfInBounds, HZ.out.1]
  obtain ⟨dc2, hdc2⟩ : ∃ z, dc.setIfInBounds 2 (.int .i64 v) = z := ⟨_, rfl⟩
  rw [hst2] at hC10 o1 o2 o3 o4
  rw [hdc2] at hC10 hz0 hz2
  have hp2 := hC10.d.pos
  have hsz2 : szS (sizedA E st2.ats) <= lim := by
   rw [o1]
   exact sized_fits HP.out hrf HST.out.2.2.2.2 (by have := HST.out.2.2.2.1; have := HST.out.2.2.2.2; omega)
  rw [<- o1] at hce
  have hN2 : st2.ats.length = N := by rw [hce.len, HN.out]
  obtain ⟨hx2, hy2, hnil⟩ := case_again HH.out.2 HP.out hp2 HXY.out.1 HXY.out.2 hce
  have hcs2 := fun (w' : World) (hC : CsdAt w w.heap.size B gd gb gt b4 bo 131072 E lim st2 dc2 #[.int .i64 (a0 : Int), .int .i64 (b0 : Int), .int .i64 kd] (.pointer (some ⟨gd', 0, none⟩)) A5 A6 N (st.ats.map Prod.fst) (st.ats.map Prod.snd) w') =>
   dcase_any w.heap.size B gd gb gt 131072 E lim v (a0 : Int) (b0 : Int) kd hv F fid st2 dc2 w' hC.d o2 hz0 hz2 HH.out.1 hzB hC.tab hkd2 (by rw [hN2]; omega) (by decide) o3 (by rw [HST.out.2.2.1] at o4; omega)
  rw [hx2, hy2] at hcs2
  have HCS2 := Lib.hid hcs2
  have HCE := Lib.hid hce
  have HNIL := Lib.hid hnil
  have HSZ2 := Lib.hid (And.intro hp2 (And.intro hsz2 hne0))
  have HN2 := Lib.hid hN2
  have HUD2 := Lib.hid o3
  have HAT := Lib.hid (batoms_any hC10.d hC10.o)
  have HTG := Lib.hid (fun (w' : World) (hb : Below w10.heap.size w10 w') => btags_any (hC10.d.below hb) (hC10.o.below hb))
  obtain ⟨y0, -⟩ := cells2 hC10.o
  have HC10 := Lib.hid hC10
  clear hd10 hf10 hC10 HC9 HP hcs2 hce hnil hp2 hsz2 hne0 hN2 o1 o2 o3 o4 hz0 hz2 hst2 hdc2 hx2 hy2 hes hrf hv2 HXY
  go_wp2_with fail
  refine (HAT.out).mono ?_
  rintro e w11 ⟨v11, rfl, ho11, hb11⟩
  rw [List.length_map, HN2.out] at ho11
  obtain ⟨A11, c11, rfl, hc11⟩ := own_slice ho11
  have HI11 := Lib.hid (IntsI.of_own ho11)
  clear ho11
  go_wp2_with fail
  refine (HTG.out _ hb11).mono ?_
  rintro e w12 ⟨v12, rfl, ho12, hb12⟩
  rw [List.length_map, HN2.out] at ho12
  obtain ⟨A12, c12, rfl, hc12⟩ := own_slice ho12
  have HI12 := Lib.hid (IntsI.of_own ho12)
  have HI11 := Lib.hid (HI11.out.bel hb12)
  have HC12 := Lib.hid (HC10.out.below (bseq hb11 hb12))
  clear ho12 hb11 hb12 HC10 HAT HTG y0
  go_wp2_with fail
  go_loopg [14] N (fun m q wr => CsdR w12 N m q wr)
  case atStart => exact ⟨0, rfl, by omega, by omega, Below.refl _ _⟩
  case round =>
   obtain ⟨i, rfl, hi, hm, hb⟩ := hrel
   by_cases hgo : i < N
   ·have q : ((i : Int) < (N : Int)) = True := by simp; omega
    have hea := HCE.out.each (i := i) (by rw [HN.out]; exact hgo)
    obtain ⟨ad0, rfl, k0⟩ := ints_cell (HI11.out.bel hb) hgo
    obtain ⟨ad1, rfl, k1⟩ := ints_cell ((HC12.out.below hb).a) hgo
    obtain ⟨ad2, rfl, k2⟩ := ints_cell (HI12.out.bel hb) hgo
    obtain ⟨ad3, rfl, k3⟩ := ints_cell ((HC12.out.below hb).t) hgo
    obtain ⟨ci, hci⟩ : ∃ z, (st2.ats.map Prod.fst).getD i 0 = z := ⟨_, rfl⟩
    obtain ⟨ai, hai⟩ : ∃ z, (st.ats.map Prod.fst).getD i 0 = z := ⟨_, rfl⟩
    obtain ⟨ni, hni⟩ : ∃ z, (st2.ats.map Prod.snd).getD i 0 = z := ⟨_, rfl⟩
    obtain ⟨ti, hti⟩ : ∃ z, (st.ats.map Prod.snd).getD i 0 = z := ⟨_, rfl⟩
    rw [hci, hai, hni, hti] at hea
    rw [hci] at k0
    rw [hai] at k1
    rw [hni] at k2
    rw [hti] at k3
    obtain ⟨I1, hI1⟩ : ∃ I1, i + 1 = I1 := ⟨_, rfl⟩
    have wi : IntKind.i64.wrap ((i : Int) + 1) = (I1 : Int) := by rw [IntWalk.i64_in _ (by omega)]; omega
    have HI1 := Lib.hid hI1
    clear hci hai hni hti hI1
    rcases hea with ⟨rfl, rfl⟩ | ⟨h1, h2, rfl⟩
    ·have HY := Lib.hid (fun (w' : World) (hb' : Below wr.heap.size wr w') => And.intro (k0 w' hb') (And.intro (k1 w' hb') (And.intro (k2 w' hb') (k3 w' hb'))))
     clear k0 k1 k2 k3
     go_upto_region 20 with fail
     refine wp_region_steady (fun w' => Below wr.heap.size wr w') (by kernel_rfl) (by kernel_rfl) (Below.drew (Below.refl _ _)) ?_
     repeat ((first
      | (refine wpSt_read (v := ?_) (by rfl) (fun w6 hSw => ?_) ?_; rotate_left; (· (obtain ⟨y0, y1, y2, y3⟩ := HY.out _ hSw; go_simp; try with_reducible rfl)))
      | refine wpSt_not (by rfl) ?_); (try simp only [Act.put, pA, pB, pC]))
     refine wpSt_nil ?_
     intro w13 hw13
     go_wp2_with fail
     go_roundg (N - I1)
     case measure =>
      have := HI1.out
      omega
     case rel => exact ⟨I1, rfl, by have := HI1.out; omega, Nat.le_refl _, bseq hb hw13⟩
    ·have q2 : (ci == ai) = false := by rw [beq_eq_false_iff_ne]; exact h2
     have HY := Lib.hid (fun (w' : World) (hb' : Below wr.heap.size wr w') => And.intro (k0 w' hb') (And.intro (k1 w' hb') (And.intro (k2 w' hb') (k3 w' hb'))))
     have HTAB := Lib.hid (HC12.out.below hb).tab.1
     clear k0 k1 k2 k3 h2
     rcases HHF.out with ⟨rfl, rfl⟩ | ⟨rfl, rfl⟩
     ·have hup := fun (w' : World) (hb' : Below wr.heap.size wr w') => upper_any w' (HTAB.out.below hb') ai
      rw [<- h1] at hup
      have HUP := Lib.hid hup
      clear hup h1
      go_upto_region 20 with fail
      refine wp_region_steady (fun w' => Below wr.heap.size wr w') (by kernel_rfl) (by kernel_rfl) (Below.drew (Below.refl _ _)) ?_
      repeat ((first
       | (refine wpSt_read (v := ?_) (by rfl) (fun w6 hSw => ?_) ?_; rotate_left; (· (obtain ⟨y0, y1, y2, y3⟩ := HY.out _ hSw; go_simp; try with_reducible rfl)))
       | refine wpSt_not (by rfl) ?_); (try simp only [Act.put, pA, pB, pC]))
      refine wpSt_nil ?_
      intro w13 hw13
      go_upto_region 21 with fail
      refine wp_region_steady (fun w' => Below w13.heap.size w13 w') (by kernel_rfl) (by kernel_rfl) (Below.drew (Below.refl _ _)) ?_
      repeat ((first
       | (refine wpSt_read (v := ?_) (by rfl) (fun w6 hSw => ?_) ?_; rotate_left; (· (obtain ⟨y0, y1, y2, y3⟩ := HY.out _ (bseq hw13 hSw); go_simp; try with_reducible rfl)))
       | refine wpSt_not (by rfl) ?_
       | (refine wpSt_call (f := ?_) (args := ?_) (v := .int .i64 ci) (by rfl) (fun w6 hSw => ?_) (fun w6 hSw => ?_) ?_; rotate_left 2; (· (obtain ⟨y0, y1, y2, y3⟩ := HY.out _ (bseq hw13 hSw); go_simp; first | done | (constructor <;> with_reducible rfl) | with_reducible rfl)); (· ((with_reducible refine (HUP.out _ (bseq hw13 hSw)).mono ?_); rintro e w5 ⟨rfl, hb5⟩; exact ⟨rfl, bseq hSw hb5⟩)))); (try simp only [Act.put, pA, pB, pC]))
      refine wpSt_nil ?_
      intro w14 hw14
      go_wp2_with fail
      go_roundg (N - I1)
      case measure =>
       have := HI1.out
       omega
      case rel => exact ⟨I1, rfl, by have := HI1.out; omega, Nat.le_refl _, bseq hb (bseq hw13 hw14)⟩
     ·have hup := fun (w' : World) (hb' : Below wr.heap.size wr w') => lower_any w' (HTAB.out.below hb') ai
      rw [<- h1] at hup
      have HUP := Lib.hid hup
      clear hup h1
      go_upto_region 20 with fail
      refine wp_region_steady (fun w' => Below wr.heap.size wr w') (by kernel_rfl) (by kernel_rfl) (Below.drew (Below.refl _ _)) ?_
      repeat ((first
       | (refine wpSt_read (v := ?_) (by rfl) (fun w6 hSw => ?_) ?_; rotate_left; (· (obtain ⟨y0, y1, y2, y3⟩ := HY.out _ hSw; go_simp; try with_reducible rfl)))
       | refine wpSt_not (by rfl) ?_); (try simp only [Act.put, pA, pB, pC]))
      refine wpSt_nil ?_
      intro w13 hw13
      go_upto_region 21 with fail
      refine wp_region_steady (fun w' => Below w13.heap.size w13 w') (by kernel_rfl) (by kernel_rfl) (Below.drew (Below.refl _ _)) ?_
      repeat ((first
       | (refine wpSt_read (v := ?_) (by rfl) (fun w6 hSw => ?_) ?_; rotate_left; (· (obtain ⟨y0, y1, y2, y3⟩ := HY.out _ (bseq hw13 hSw); go_simp; try with_reducible rfl)))
       | refine wpSt_not (by rfl) ?_
       | (refine wpSt_call (f := ?_) (args := ?_) (v := .int .i64 ci) (by rfl) (fun w6 hSw => ?_) (fun w6 hSw => ?_) ?_; rotate_left 2; (· (obtain ⟨y0, y1, y2, y3⟩ := HY.out _ (bseq hw13 hSw); go_simp; first | done | (constructor <;> with_reducible rfl) | with_reducible rfl)); (· ((with_reducible refine (HUP.out _ (bseq hw13 hSw)).mono ?_); rintro e w5 ⟨rfl, hb5⟩; exact ⟨rfl, bseq hSw hb5⟩)))); (try simp only [Act.put, pA, pB, pC]))
      refine wpSt_nil ?_
      intro w14 hw14
      go_wp2_with fail
      go_roundg (N - I1)
      case measure =>
       have := HI1.out
       omega
      case rel => exact ⟨I1, rfl, by have := HI1.out; omega, Nat.le_refl _, bseq hb (bseq hw13 hw14)⟩
   ·have q : ((i : Int) < (N : Int)) = False := by simp; omega
    have hC13 := HC12.out.below hb
    obtain ⟨y0, -⟩ := cells2 hC13.o
    obtain ⟨s0, s1, s2⟩ := cells3 hC13.s
    have e0 := (hC13.d.desk.cell 0).trans hC13.d.c0
    have HDP := Lib.hid (depth_any hC13.d)
    have HC13 := Lib.hid hC13
    have HI13 := Lib.hid (HI11.out.bel hb)
    clear hC13 HC12 HCE
    obtain ⟨U, hU⟩ : ∃ U : Int, (st2.undo.length : Int) = U := ⟨_, rfl⟩
    rw [hU] at HDP
    have HU := Lib.hid hU
    clear hU
    go_wp2_with fail
    refine (HDP.out).mono ?_
    rintro e wz ⟨r9, rfl, hbz⟩
    clear y0 s0 s1 s2 e0
    have HI13 := Lib.hid (HI13.out.bel hbz)
    have HC13 := Lib.hid (HC13.out.below hbz)
    have HCS3 := Lib.hid (HCS2.out _ HC13.out)
    obtain ⟨y0, -⟩ := cells2 HC13.out.o
    obtain ⟨s0, s1, s2⟩ := cells3 HC13.out.s
    go_wp2_with fail
    refine (HCS3.out).mono ?_
    rintro e w14 ⟨r, rfl, hP⟩
    rcases hP with ⟨rfl, es2, c2, v2, j2, -, hes2, -, -, -, -, -, hd14, hf14⟩ | ⟨hr, hd14, hf14⟩
    ·have hC14 := HC13.out.run (Nat.le_refl _) hzB (fun _ h => h) hf14 hd14
     have he2 := HNIL.out es2 hes2
     obtain ⟨u1, u2⟩ := shiftS_nil st2 es2 c2 v2 he2
     have hI14 : IntsI w14 A11 N (st2.ats.map Prod.fst) := HI13.out.dfr hf14 HC13.out.d.desk
     have hat := batoms_any hC14.d hC14.o
     rw [u2] at hat
     have hdp := fun (w' : World) (hb : Below w14.heap.size w14 w') => depth_any (hC14.d.below hb)
     rw [u1, HU.out] at hdp
     have HAT := Lib.hid hat
     have HDP2 := Lib.hid hdp
     have HC14 := Lib.hid hC14
     have HI14 := Lib.hid hI14
     clear y0 s0 s1 s2 hat hdp hC14 hI14 hd14 hf14 hes2 he2 u1 u2 HDP HCS3 HC13 HI13
     obtain ⟨y0, -⟩ := cells2 HC14.out.o
     go_wp2_with fail
     refine (HAT.out).mono ?_
     rintro e w15 ⟨v15, rfl, ho15, hb15⟩
     rw [List.length_map, HN2.out] at ho15
     obtain ⟨A15, c15, rfl, hc15⟩ := own_slice ho15
     have HSM := Lib.hid (same_eq (c := c15) (c' := c11) (IntsI.of_own ho15).any (HI14.out.bel hb15).any (by omega))
     clear ho15 y0
     go_wp2_with fail
     refine (HSM.out).mono ?_
     rintro e w16 ⟨rfl, hb16⟩
     have hb146 := bseq hb15 hb16
     obtain ⟨y0, -⟩ := cells2 (HC14.out.o.below hb146)
     have e0 := ((HC14.out.d.below hb146).desk.cell 0).trans (HC14.out.d.below hb146).c0
     go_wp2_with fail
     refine (HDP2.out _ hb146).mono ?_
     rintro e wz ⟨r10, rfl, hbz2⟩
     go_wp2_with fail
     go_ret
     exact ⟨rfl, ((HC14.out.below hb146).below hbz2).b⟩
    ·exfalso
     rcases hr with ⟨_, hk0, hxy2⟩ | ⟨_, es2, he2, hrf2⟩
     ·exact HSZ2.out.2.2 hk0 hxy2
     ·rw [HNIL.out es2 he2, ref_nil HSZ2.out.1 HSZ2.out.2.1] at hrf2
      cases hrf2
 ·have hC10 := HC9.out.run (Nat.le_refl _) hzB (fun _ h => h.elim) hf10 hd10
  have HAT := Lib.hid (batoms_any hC10.d hC10.o)
  obtain ⟨y0, -⟩ := cells2 hC10.o
  obtain ⟨s0, s1, s2⟩ := cells3 hC10.s
  have HC10 := Lib.hid hC10
  clear hd10 hf10 hC10 HC9 HP
  rcases hr with ⟨rfl, rfl, hxy2⟩ | ⟨rfl, -⟩
  ·have hab2 : a0 = b0 := by
    have h1 := HXY.out.1
    have h2 := HXY.out.2
    rw [caX_0] at h1
    rw [caY_0] at h2
    omega
   subst hab2
   clear hxy2 HXY
   go_wp2_with fail
   refine (HAT.out).mono ?_
   rintro e w11 ⟨v11, rfl, ho11, hb11⟩
   rw [List.length_map, HN.out] at ho11
   obtain ⟨A11, c11, rfl, hc11⟩ := own_slice ho11
   have HSM := Lib.hid (same_eq (c := c11) (c' := c5) (IntsI.of_own ho11).any (HC10.out.a.bel hb11).any (by omega))
   have HC11 := Lib.hid (HC10.out.below hb11)
   clear ho11 hb11 y0 s0 s1 s2
   obtain ⟨s0, s1, s2⟩ := cells3 HC11.out.s
   go_wp2_with fail
   refine (HSM.out).mono ?_
   rintro e w12 ⟨rfl, hb12⟩
   clear s0 s1 s2
   obtain ⟨s0, s1, s2⟩ := cells3 (HC11.out.s.below hb12)
   go_wp2_with fail
   go_ret
   exact ⟨rfl, bseq HC11.out.b hb12⟩
  ·go_wp2_with fail
   refine (HAT.out).mono ?_
   rintro e w11 ⟨v11, rfl, ho11, hb11⟩
   rw [List.length_map, HN.out] at ho11
   obtain ⟨A11, c11, rfl, hc11⟩ := own_slice ho11
   have HSM := Lib.hid (same_eq (c := c11) (c' := c5) (IntsI.of_own ho11).any (HC10.out.a.bel hb11).any (by omega))
   have HC11 := Lib.hid (HC10.out.below hb11)
   clear ho11 hb11 y0 s0 s1 s2
   go_wp2_with fail
   refine (HSM.out).mono ?_
   rintro e w12 ⟨rfl, hb12⟩
   go_wp2_with fail
   go_ret
   exact ⟨rfl, bseq HC11.out.b hb12⟩
end Go.Proofs.YtkoakanpaehkmaaGreatDoor
namespace Go.Proofs.YtkoakanpaehkmaaGreatDoor.operateCased
open Go.ChangeShapes Go.WideShapes Go.ChangeAt Go.RowKit
open Go.ChangeMaps (open_string shut_string)
set_option linter.unusedVariables false

theorem own : ownKnob Tryz.prog.godebug = none := by kernel_rfl
theorem laidOut : laidOutB Tryz.prog = true := by kernel_rfl

def IsRow (k : IntKind) (w : World) (a : Option Addr) (len cap : Nat) (zs : List Int) : Prop :=
 (a = none /\ len = 0 /\ cap = 0 /\ zs = []) \/
 ∃ x, a = some x /\ len <= cap /\ cap <= maxLen /\ zs.length = cap /\ (∀ i, i < zs.length -> w.cell? (x.add i) = some (.int k (zs.getD i 0))) /\ ∀ n ∈ zs, (Lit.int k n).wf = true
theorem fits_of {n : Int} (h : (Lit.int .i64 n).wf = true) : FitsI n := by
 have e1 : IntKind.i64.min = -9223372036854775808 := by decide
 have e2 : IntKind.i64.max = 9223372036854775807 := by decide
 unfold Lit.wf at h
 dsimp only at h
 rw [e1, e2, Bool.and_eq_true, decide_eq_true_eq, decide_eq_true_eq] at h
 exact h


theorem gOne : Tryz.prog.globalNamed "copyist/glyph.oneWay" = some 0 := by kernel_rfl
theorem gDis : Tryz.prog.globalNamed "copyist/glyph.distances" = some 1 := by kernel_rfl
theorem gPar : Tryz.prog.globalNamed "copyist/glyph.pairs" = some 2 := by kernel_rfl
theorem tOne : (Tryz.prog.globals[0]?).map (·.type) = some 150 := by kernel_rfl
theorem tDis : (Tryz.prog.globals[1]?).map (·.type) = some 151 := by kernel_rfl
theorem tPar : (Tryz.prog.globals[2]?).map (·.type) = some 153 := by kernel_rfl
theorem flat_rows {m : Nat} : ∀ (rows : List (List Int)) (cs : List Value), cs.length = rows.length * m -> (∀ i r, rows[i]? = some r -> (cs.drop (i * m)).take m = r.map (Value.int .i64)) -> cs = rows.flatMap fun r => r.map (Value.int .i64) := by
 intro rows
 induction rows with
 | nil =>
  intro cs h _
  simpa using h
 | cons r rows ih =>
  intro cs h hr
  have h0 := hr 0 r rfl
  rw [Nat.zero_mul, List.drop_zero] at h0
  rw [List.length_cons, Nat.add_mul, Nat.one_mul] at h
  have h1 := ih (cs.drop m) (by rw [List.length_drop]; omega) (fun i r' hi => by
   have := hr (i + 1) r' (by simpa using hi)
   rw [List.drop_drop, show m + i * m = (i + 1) * m by rw [Nat.add_mul, Nat.one_mul, Nat.add_comm]]
   exact this)
  rw [List.flatMap_cons, <- h0, <- h1, List.take_append_drop]
theorem tab_cells {W : World} {fuel : Nat} {t e : TypeId} {n m : Nat} {cs : List Value} {rows : List (List Int)} {p : List MemPlace} (ht : Tryz.prog.underlying t = some (.array n e)) (he : Tryz.prog.underlying e = some (.array m 3)) (hce : Tryz.prog.cellsOf e = m) (hct : Tryz.prog.cellsOf t = n * m) (hn : rows.length = n)
  (h : DataW.trod (fun _ => ()) Tryz.prog W 0 (fun _ => true) false fuel t cs = some (.agg (rows.map (Lib.tabData .i64)), p)) : cs = rows.flatMap fun r => r.map (Value.int .i64) := by
 obtain ⟨xs, f, _, hx, hl, hxl, hel⟩ := DataW.trod_array ht h
 rw [hct] at hl
 refine flat_rows (m := m) rows cs (by rw [hl, hn]) (fun i r hi => ?_)
 have hin : i < n := by
  rcases Nat.lt_or_ge i rows.length with h1 | h1
  ·omega
  ·rw [List.getElem?_eq_none h1] at hi; cases hi
 have h1 := hel i hin
 rw [hce, List.getElem?_eq_getElem (by omega)] at h1
 simp only [Prod.mk.injEq, DataW.agg.injEq] at hx
 obtain ⟨hx1, -⟩ := hx
 have h2 : (xs.map (·.1))[i]? = some (Lib.tabData .i64 r) := by rw [<- hx1, List.getElem?_map, hi]; rfl
 rw [List.getElem?_map, List.getElem?_eq_getElem (by omega)] at h2
 have h3 : xs[i].1 = Lib.tabData .i64 r := by simpa using h2
 have h4 : xs[i] = (Lib.tabData .i64 r, xs[i].2) := by rw [<- h3]
 rw [h4] at h1
 exact Lib.cells_of_tab he Tryz.underlying3 (by kernel_rfl) hce h1
theorem tab_at {W : World} {name : String} {g : Nat} {cs : Array Value} {l : List Value} (hg : Tryz.prog.globalNamed name = some g) (hv : W.var? Tryz.prog name = some cs) (hc : cs.toList = l) : TabAt W g l.toArray := by
 unfold World.var? at hv
 rw [hg] at hv
 simp only [Option.bind_some] at hv
 split at hv
 ·rename_i c t fr hh
  injection hv with hv
  subst hv
  exact ⟨t, fr, by rw [hh, <- hc]⟩
 ·cases hv
theorem of_laid {W : World} (h : laidMetH Tryz.prog Rows.operateCasedRow.laid W) : Tabs W := by
 rw [MakeChecks.laidMetH_plain _ _ _ (by kernel_rfl)] at h
 obtain ⟨ps, ⟨g0, t0, cs0, f0, p0, q0, hg0, ht0, hv0, hd0, ⟨g1, t1, cs1, f1, p1, q1, hg1, ht1, hv1, hd1, ⟨g2, t2, cs2, f2, p2, q2, hg2, ht2, hv2, hd2, _, _⟩, _⟩, _⟩, _⟩ := h
 obtain rfl := Option.some.inj (gDis.symm.trans hg0)
 obtain rfl := Option.some.inj (gPar.symm.trans hg1)
 obtain rfl := Option.some.inj (gOne.symm.trans hg2)
 obtain rfl := Option.some.inj (tDis.symm.trans ht0)
 obtain rfl := Option.some.inj (tPar.symm.trans ht1)
 obtain rfl := Option.some.inj (tOne.symm.trans ht2)
 have k0 := tab_cells (rows := disT.map fun t => [t.1, t.2.1, t.2.2]) Tryz.underlying151 Tryz.underlying149 (by kernel_rfl) (by kernel_rfl) rfl hd0
 have k1 := tab_cells (rows := parT.map fun t => [t.1, t.2]) Tryz.underlying153 Tryz.underlying152 (by kernel_rfl) (by kernel_rfl) rfl hd1
 have k2 := tab_cells (rows := oneT.map fun t => [t.1, t.2.1, t.2.2]) Tryz.underlying150 Tryz.underlying149 (by kernel_rfl) (by kernel_rfl) rfl hd2
 exact ⟨tab_at gOne hv2 k2, tab_at gDis hv0 k0, tab_at gPar hv1 k1⟩
theorem door_met (os : Os) (args : Array Value) : laidMetH Tryz.prog Rows.operateCasedRow.laid ((World.doorLaid Tryz.prog 71 os).forCall (fun _ _ => 0) ⟨#[], args, []⟩).memory :=
 laidMetH_of_parts3 (fuel := 8) (laidMet_of_run' 8 (by kernel_rfl) (by kernel_rfl)) (by kernel_rfl) (by kernel_rfl)

theorem walk (a0 : Int) (a1 : Option Addr) (len1 cap1 : Nat) (z1 : List Int) (a2 a3 a4 b c e d : Int) (w : World) (w1 : IsRow .u8 w a1 len1 cap1 z1) (h2 : FitsI a2) (h3 : FitsI a3) (h4 : FitsI a4) (hb : FitsI b) (hc : FitsI c) (he : FitsI e) (hd : FitsI d) (hT : Tabs w) :
  Calls Tryz.prog 3 #[.agg #[.int .i64 a0, .slice a1 len1 cap1, .int .i64 a2, .int .i64 a3, .int .i64 a4], .agg #[.int .i64 b, .int .i64 c, .int .i64 e], .int .i64 d] w fun e w' => e = .returned (.bool true) /\ Below w.heap.size w w' := by
 rcases w1 with ⟨rfl, rfl, rfl, rfl⟩ | ⟨x, rfl, hl, hm, hz, hcell, hwz⟩
 ·exact cased_any ⟨a0, a2, a3, a4, []⟩ b c e d none 0 0 w ⟨rfl, fun h => absurd h (by omega)⟩ (fun x hx => by cases hx) h2 h3 h4 hb hc he hd hT
 ·refine cased_any ⟨a0, a2, a3, a4, z1.take len1⟩ b c e d (some x) len1 cap1 w ⟨by simp; omega, fun _ => ⟨x, rfl, trivial, fun j u hu => ?_⟩⟩ (fun y hy => ?_) h2 h3 h4 hb hc he hd hT
  ·rw [List.getElem?_map, List.getElem?_take] at hu
   split at hu
   ·rename_i hj
    rw [List.getElem?_eq_getElem (by omega)] at hu
    have := hcell j (by omega)
    rw [List.getD_eq_getElem?_getD, List.getElem?_eq_getElem (by omega)] at this
    rw [this]
    exact hu
   ·cases hu
  ·have := hwz y (List.mem_of_mem_take hy)
   have e1 : IntKind.u8.min = 0 := by decide
   have e2 : IntKind.u8.max = 255 := by decide
   unfold Lit.wf at this
   dsimp only at this
   rw [e1, e2, Bool.and_eq_true, decide_eq_true_eq, decide_eq_true_eq] at this
   omega

theorem cellsI : Tryz.prog.cellsOf 3 = 1 := by kernel_rfl
theorem cellsS : Tryz.prog.cellsOf 22 = 1 := by kernel_rfl
theorem cellsT : Tryz.prog.cellsOf 24 = 5 := by kernel_rfl
theorem open_start {H : Type} {enc : TypeId × Value -> H} {W : World} {cs : Array Value} {d : DataW H} {p : List MemPlace} (hcs : cs.size = 5) (h : DataW.Trod enc Tryz.prog W 0 (fun _ => true) true 24 (.agg cs) d p) :
  ∃ (a0 : Int) (a1 : Option Addr) (len1 cap1 : Nat) (z1 : List Int) (a2 a3 a4 : Int), cs = #[.int .i64 a0, .slice a1 len1 cap1, .int .i64 a2, .int .i64 a3, .int .i64 a4] /\ IsRow .u8 W a1 len1 cap1 z1 /\ FitsI a2 /\ FitsI a3 /\ FitsI a4 := by
 obtain ⟨fuel, hf⟩ := h
 obtain ⟨xs, n, _, hx, hl, hxl, hfi⟩ := DataW.trod_struct Tryz.underlying24 hf
 rcases cs with ⟨l⟩
 match l, hcs with
 | [c0, c1, c2, c3, c4], _ =>
  have g0 := hfi 0 _ rfl
  have g1 := hfi 1 _ rfl
  have g2 := hfi 2 _ rfl
  have g3 := hfi 3 _ rfl
  have g4 := hfi 4 _ rfl
  simp [Value.cells, cellsI, cellsS] at g0 g1 g2 g3 g4
  have hxl' : xs.length = 5 := hxl
  rw [List.getElem?_eq_getElem (by omega)] at g0 g1 g2 g3 g4
  obtain ⟨n0, e0, _, w0⟩ := DataW.trod_int Tryz.underlying3 g0
  obtain ⟨n2, e2, _, w2⟩ := DataW.trod_int Tryz.underlying3 g2
  obtain ⟨n3, e3, _, w3⟩ := DataW.trod_int Tryz.underlying3 g3
  obtain ⟨n4, e4, _, w4⟩ := DataW.trod_int Tryz.underlying3 g4
  injection e0 with e0
  injection e2 with e2
  injection e3 with e3
  injection e4 with e4
  rcases open_ints Tryz.underlying22 Tryz.underlying5 (by kernel_rfl) g1 with ⟨e1, _⟩ | ⟨x, l, c, zs, e1, _, hl, hm, hz, _, hcell, hwz⟩
  ·injection e1 with e1
   exact ⟨n0, none, 0, 0, [], n2, n3, n4, by rw [e0, e1, e2, e3, e4], .inl ⟨rfl, rfl, rfl, rfl⟩, fits_of w2, fits_of w3, fits_of w4⟩
  ·injection e1 with e1
   exact ⟨n0, some x, l, c, zs, n2, n3, n4, by rw [e0, e1, e2, e3, e4], .inr ⟨_, rfl, hl, hm, by simpa using hz, hcell, hwz⟩, fits_of w2, fits_of w3, fits_of w4⟩

theorem cellsP : Tryz.prog.cellsOf 26 = 3 := by kernel_rfl
theorem open_span {H : Type} {enc : TypeId × Value -> H} {W : World} {cs : Array Value} {d : DataW H} {p : List MemPlace} (hcs : cs.size = 3) (h : DataW.Trod enc Tryz.prog W 0 (fun _ => true) true 26 (.agg cs) d p) :
  ∃ a b c : Int, cs = #[.int .i64 a, .int .i64 b, .int .i64 c] /\ FitsI a /\ FitsI b /\ FitsI c := by
 obtain ⟨fuel, hf⟩ := h
 obtain ⟨xs, n, _, hx, hl, hxl, hfi⟩ := DataW.trod_struct Tryz.underlying26 hf
 rcases cs with ⟨l⟩
 match l, hcs with
 | [c0, c1, c2], _ =>
  have g0 := hfi 0 _ rfl
  have g1 := hfi 1 _ rfl
  have g2 := hfi 2 _ rfl
  simp [Value.cells, cellsI] at g0 g1 g2
  have hxl' : xs.length = 3 := hxl
  rw [List.getElem?_eq_getElem (by omega)] at g0 g1 g2
  obtain ⟨n0, e0, _, w0⟩ := DataW.trod_int Tryz.underlying3 g0
  obtain ⟨n1, e1, _, w1⟩ := DataW.trod_int Tryz.underlying3 g1
  obtain ⟨n2, e2, _, w2⟩ := DataW.trod_int Tryz.underlying3 g2
  injection e0 with e0
  injection e1 with e1
  injection e2 with e2
  exact ⟨n0, n1, n2, by rw [e0, e1, e2], fits_of w0, fits_of w1, fits_of w2⟩

theorem lifted (os : Os) (started : os.Started) (H : Type) (enc : TypeId × Value -> H) :
  ReturnsInHanded {} Tryz.checked os 3 .any (fun w args => (Rows.operateCasedSpec.pre enc Tryz.prog Tryz.f3 [] false w args /\ laidMetH Tryz.prog Rows.operateCasedRow.laid w) /\ sizedMet enc Tryz.prog Tryz.f3 (OpenSpec.ofChange Rows.operateCasedSpec) false w args)
   (Rows.operateCasedSpec.post enc Tryz.prog Tryz.f3 false true false false) := by
 refine returnsInHanded_of_change_and (C := Tryz.checked) (X := fun w _ => laidMetH Tryz.prog Rows.operateCasedRow.laid w) (fun _ _ _ hh h => h.of_heap hh) own started (by kernel_rfl) Tryz.func3
  (ChangeSpec.witness_shaped (enc := enc) (C := Tryz.checked) (os := os) (X := fun w _ => laidMetH Tryz.prog Rows.operateCasedRow.laid w) false (World.doorLaid Tryz.prog 71 os) #[.agg #[.int .i64 0, .slice none 0 0, .int .i64 0, .int .i64 0, .int .i64 0], .agg #[.int .i64 0, .int .i64 0, .int .i64 0], .int .i64 0] 8 rfl (World.shaped_of_RefB (by kernel_rfl) (by kernel_rfl)) (by kernel_rfl) (by kernel_rfl) (by kernel_rfl) (door_met os _)) ?_
 intro W base args ds gs before hval0 hW _ _ hL _
 have hval : ∀ (j : Nat) t v, Tryz.f3.params[j]? = some t -> args[j]? = some v -> Value.okWide Tryz.prog W .any base t v := hval0
 have hW' := hW
 obtain ⟨p, q, hA0, hV, rfl, hfz, hnd⟩ := hW
 have hA : DataW.TrodAll enc Tryz.prog W 0 (fun _ => true) true Tryz.f3.params.toList args.toList ds p := hA0
 rw [Tryz.params3] at hA hval
 obtain ⟨v0, vs0, d0, ds0, p0, q0, hargs, rfl, rfl, h0, r0⟩ := trodAll_cons hA
 obtain ⟨v1, vs1, d1, ds1, p1, q1, rfl, rfl, rfl, h1, r1⟩ := trodAll_cons r0
 obtain ⟨v2, vs2, d2, ds2, p2, q2, rfl, rfl, rfl, h2, r2⟩ := trodAll_cons r1
 obtain ⟨rfl, rfl, rfl⟩ := trodAll_nil r2
 obtain rfl : args = #[v0, v1, v2] := by cases args; simp_all
 obtain ⟨rfl, rfl⟩ := trodVars_none hV
 obtain ⟨cs, rfl, hcs⟩ := okWide_struct Tryz.underlying24 (hval 0 24 v0 rfl rfl)
 rw [cellsT] at hcs
 have k0 := h0
 have lt0 : ∀ x ∈ p0, x.block < W.heap.size := by obtain ⟨m, hm⟩ := k0; exact DataW.trod_lt m _ _ _ hm
 obtain ⟨a0, a1, len1, cap1, z1, a2, a3, a4, rfl, hrow, f2, f3, f4⟩ := open_start hcs h0
 obtain ⟨cs1, rfl, hcs1⟩ := okWide_struct Tryz.underlying26 (hval 1 26 v1 rfl rfl)
 rw [cellsP] at hcs1
 have k1 := h1
 have lt1 : ∀ x ∈ p1, x.block < W.heap.size := by obtain ⟨m, hm⟩ := k1; exact DataW.trod_lt m _ _ _ hm
 obtain ⟨b, c, e0, rfl, fb, fc, fe⟩ := open_span hcs1 h1
 obtain ⟨d, rfl, rfl, rfl, wd⟩ := open_int Tryz.underlying3 (hval 2 3 v2 rfl rfl) h2
 clear hA0 hval0
 refine (walk a0 a1 len1 cap1 z1 a2 a3 a4 b c e0 d W hrow f2 f3 f4 fb fc fe (fits_of wd) (of_laid hL)).mono fun e W' ⟨he, bel⟩ => ?_
 subst he
 exact ⟨_, rfl, _, _, _, [], _, [], hW', trodAll_mk1 (shut_bool Tryz.underlying4 _), (trodAll_cons_mk (Below.trod laidOut (by kernel_rfl) (of_decide_eq_true (by kernel_rfl)) k0 bel lt0) (trodAll_cons_mk (Below.trod laidOut (by kernel_rfl) (of_decide_eq_true (by kernel_rfl)) k1 bel lt1) (trodAll_cons_mk (shut_int Tryz.underlying3 wd) trodAll_mk0))), rfl, bel.frame _, fun h => by cases h⟩

theorem over : Rows.OperateCasedSaid :=
 OpenClaim.holds_of_wide 3 Tryz.f3 rfl rfl rfl rfl rfl rfl rfl ⟨rfl, rfl, rfl, rfl, rfl⟩ rfl rfl rfl rfl rfl (by kernel_rfl) Tryz.func3 (by kernel_rfl)
  (of_decide_eq_true (by kernel_rfl)) (by unfold Func.isWrapper; first | (rw [if_pos (by decide +kernel)]; kernel_rfl) | (rw [if_neg (by decide +kernel)]; exact ⟨rfl, rfl⟩))
  (fun os started H enc _ => lifted os started H enc)

theorem proved : Rows.OperateCasedCardSaid :=
 Claim7.holds_tied_plain_at .later [] [.data, .data, .data] true (true, "15dc43a909fa67bd9759d3753267bb26198e0be94684a7c3177ed211721adf4d") true
  over (fun _ h => by cases h) (by kernel_rfl) (fun _ h => by cases h) operateCased_row_tie rfl ⟨rfl, rfl⟩ (by kernel_rfl) rfl
  (fun f fn hf hfn => by
   obtain rfl : f = 3 := Option.some.inj ((show Tryz.prog.funcNamed "copyist/copyistlaw12.OperateCased" = some 3 by kernel_rfl).symm.trans hf) |>.symm
   obtain rfl : fn = Tryz.f3 := (Option.some.inj (Tryz.func3.symm.trans hfn)).symm
   exact ⟨by kernel_rfl, fun j t ht => by
    rw [Tryz.params3] at ht
    have hm : t ∈ [24, 26, 3] := by simpa using Array.mem_of_getElem? ht
    have hall : ([24, 26, 3].all fun u => !Tryz.prog.wantsStandIn u) = true := by kernel_rfl
    exact (show Tryz.prog.wantsStandIn t = false by simpa using List.all_eq_true.1 hall t hm)⟩)
  (by kernel_rfl)
end Go.Proofs.YtkoakanpaehkmaaGreatDoor.operateCased
