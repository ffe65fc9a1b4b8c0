/-
  Edits in memory; the walk of Text.refuse.
-/
import Derived.Test.YtflhiohjikgedaaGreatDoorLRepl
import Derived.Test.YtflhiohjikgedaaGreatDoorLLin
set_option linter.unusedSimpArgs false
set_option linter.unusedVariables false
set_option maxRecDepth 100000
set_option maxHeartbeats 32000000
namespace Go.Proofs.YtflhiohjikgedaaGreatDoor
open Go.RowKit
structure Ed where
 f : Int
 t : Int
 A : Option Addr
 n : Nat
 c : Nat
 put : List Int
def Ed.cells (e : Ed) : Array Value := #[.int .i64 e.f, .int .i64 e.t, .slice e.A e.n e.c]
structure EdsAt (w : World) (D : Nat -> Prop) (A : Option Addr) (m : Nat) (es : List Ed) : Prop where
 rds : Reads w D 3 A m (es.flatMap fun e => e.cells.toList)
 put : ∀ e ∈ es, Ints w D e.A e.n e.put
theorem flat3 (es : List Ed) : (es.flatMap fun e => e.cells.toList).length = es.length * 3 := by
 induction es with
 | nil => rfl
 | cons p ps ih => rw [List.flatMap_cons, List.length_append, ih]; simp [Ed.cells]; omega
theorem EdsAt.len {w : World} {D : Nat -> Prop} {A : Option Addr} {m : Nat} {es : List Ed} (h : EdsAt w D A m es) : es.length = m := by
 have := h.rds.1
 rw [flat3] at this
 omega
theorem flat3_at (es : List Ed) (k : Nat) (hk : k < es.length) (j : Nat) (hj : j < 3) : (es.flatMap fun e => e.cells.toList)[k * 3 + j]? = es[k].cells[j]? := by
 induction es generalizing k with
 | nil => simp at hk
 | cons p ps ih =>
  rw [List.flatMap_cons]
  cases k with
  | zero =>
   rw [List.getElem?_append_left (by simp [Ed.cells]; omega)]
   simp
  | succ k =>
   rw [List.getElem?_append_right (by simp [Ed.cells]; omega)]
   have := ih k (by simpa using hk)
   simp only [List.getElem_cons_succ]
   rw [<- this]
   congr 1
   simp [Ed.cells]
   omega
theorem EdsAt.at_ {w : World} {D : Nat -> Prop} {A : Option Addr} {m k : Nat} {es : List Ed} (h : EdsAt w D A m es) (hk : k < m) : ∃ b o e, A = some ⟨b, o, none⟩ /\ es[k]? = some e /\ D b /\ w.cell? ⟨b, o + k * 3, none⟩ = some (.int .i64 e.f) /\ w.cell? ⟨b, o + k * 3 + 1, none⟩ = some (.int .i64 e.t) /\ w.cell? ⟨b, o + k * 3 + 2, none⟩ = some (.slice e.A e.n e.c) := by
 have hl := h.len
 obtain ⟨ad, e, hd, hc⟩ := h.rds.2 (by omega)
 have hkl : k < es.length := by omega
 have hs := cell_spot (hc 0 (.int .i64 es[0].f) (by have := flat3_at es 0 (by omega) 0 (by omega); simp only [Nat.zero_mul, Nat.add_zero] at this; rw [this]; rfl))
 rw [add_zero] at hs
 refine ⟨ad.block, ad.off, es[k], by rw [e, <- hs], List.getElem?_eq_getElem hkl, hd, ?_, ?_, ?_⟩
 ·have := hc (k * 3 + 0) (.int .i64 es[k].f) (by rw [flat3_at es k hkl 0 (by omega)]; rfl)
  rw [hs, add_cell] at this
  exact this
 ·have := hc (k * 3 + 1) (.int .i64 es[k].t) (by rw [flat3_at es k hkl 1 (by omega)]; rfl)
  rw [hs, add_cell] at this
  rw [Nat.add_assoc]
  exact this
 ·have := hc (k * 3 + 2) (.slice es[k].A es[k].n es[k].c) (by rw [flat3_at es k hkl 2 (by omega)]; rfl)
  rw [hs, add_cell] at this
  rw [Nat.add_assoc]
  exact this
theorem EdsAt.below {w w' : World} {D : Nat -> Prop} {A : Option Addr} {m : Nat} {es : List Ed} (h : EdsAt w D A m es) (hb : Below w.heap.size w w') : EdsAt w' D A m es :=
 ⟨Reads.below h.rds hb, fun e he => Reads.below (h.put e he) hb⟩
theorem EdsAt.more {w : World} {D D' : Nat -> Prop} {A : Option Addr} {m : Nat} {es : List Ed} (h : EdsAt w D A m es) (hD : ∀ b, D b -> b < w.heap.size -> D' b) : EdsAt w D' A m es :=
 ⟨Reads.more h.rds hD (by decide), fun e he => Reads.more (h.put e he) hD (by decide)⟩
theorem EdsAt.fr {w w' : World} {D S : Nat -> Prop} {A : Option Addr} {m : Nat} {es : List Ed} (h : EdsAt w D A m es) (hf : Fr S w w') (hd : ∀ b, D b -> b < w.heap.size -> ¬ S b) : EdsAt w' D A m es :=
 ⟨Reads.fr h.rds hf hd, fun e he => Reads.fr (h.put e he) hf hd⟩
def ordF : Int -> Int -> List Ed -> Bool
 | _, _, [] => true
 | a, size, e :: r => if e.f < a \/ e.t < e.f \/ size < e.t then false else ordF e.t size r
def fitP (enc : Int) (l : List Int) : Bool := l.all fun a => szA enc a != 0
def fitF (enc : Int) (es : List Ed) : Bool := es.all fun e => fitP enc e.put
def szL_ (enc : Int) (l : List Int) : Int := (l.map (szA enc)).sum
def putB (enc : Int) (es : List Ed) : Int := (es.map fun e => szL_ enc e.put).sum
def rem1 (ds : List (Int × Int)) (e : Ed) : Int := if e.f < e.t then (sumsOf (ds.take e.t.toNat)).bytes - (sumsOf (ds.take e.f.toNat)).bytes else 0
def remB (ds : List (Int × Int)) (es : List Ed) : Int := (es.map (rem1 ds)).sum
def refF (enc lim : Int) (ds : List (Int × Int)) (es : List Ed) : Int :=
 if 70000 < es.length then 3 else if ordF 0 ds.length es = false then 2 else if fitF enc es = false then 11 else if lim < (sumsOf ds).bytes + putB enc es - remB ds es then 50 else 0
theorem ordF_mem : ∀ (es : List Ed) (a size : Int), ordF a size es = true -> 0 <= a -> ∀ e ∈ es, a <= e.f /\ e.f <= e.t /\ e.t <= size := by
 intro es
 induction es with
 | nil => intro _ _ _ _ e he; cases he
 | cons x r ih =>
  intro a size h h0 e he
  unfold ordF at h
  split at h
  ·cases h
  ·rename_i hc
   rcases List.mem_cons.1 he with rfl | he
   ·omega
   ·have := ih x.t size h (by omega) e he
    omega
theorem szA_ge (enc a : Int) : 0 <= szA enc a := by
 unfold szA sz8 sz16 szL
 repeat' split
 all_goals omega
theorem szL_bd (enc : Int) (l : List Int) : 0 <= szL_ enc l /\ szL_ enc l <= 4 * l.length := by
 unfold szL_
 induction l with
 | nil => simp
 | cons a l ih =>
  have h1 := szA_ge enc a
  have h2 := szA_le enc a
  simp only [List.map_cons, List.sum_cons, List.length_cons]
  omega
theorem szL_snoc (enc : Int) (l : List Int) (a : Int) : szL_ enc (l ++ [a]) = szL_ enc l + szA enc a := by unfold szL_; simp
theorem putB_snoc (enc : Int) (es : List Ed) (e : Ed) : putB enc (es ++ [e]) = putB enc es + szL_ enc e.put := by unfold putB; simp
theorem remB_snoc (ds : List (Int × Int)) (es : List Ed) (e : Ed) : remB ds (es ++ [e]) = remB ds es + rem1 ds e := by unfold remB; simp
def putN (es : List Ed) : Nat := (es.map fun e => e.put.length).sum
theorem putN_snoc (es : List Ed) (e : Ed) : putN (es ++ [e]) = putN es + e.put.length := by unfold putN; simp
theorem putB_bd (enc : Int) (es : List Ed) : 0 <= putB enc es /\ putB enc es <= 4 * putN es := by
 unfold putB putN
 induction es with
 | nil => simp
 | cons e es ih =>
  have := szL_bd enc e.put
  simp only [List.map_cons, List.sum_cons]
  omega
theorem putN_take (es : List Ed) (k : Nat) : putN (es.take k) <= putN es := by
 conv => rhs; rw [<- List.take_append_drop k es]
 unfold putN
 rw [List.map_append, List.sum_append]
 omega
theorem take_snoc {α : Type} (l : List α) (k : Nat) (x : α) (h : l[k]? = some x) : l.take (k + 1) = l.take k ++ [x] := by rw [List.take_add_one, h]; rfl
def RefR1 (ds : List (Int × Int)) (es : List Ed) (w : World) (k : Nat) (q24 q5 : Value) (wr : World) : Prop :=
 ∃ (j : Nat) (a : Int), q24 = .int .i64 (j : Int) /\ q5 = .int .i64 a /\ Hid (ordF a ds.length (es.drop j) = ordF 0 ds.length es) /\ j <= es.length /\ Below w.heap.size w wr /\ es.length - j <= k
def RefR2 (enc BY : Int) (es : List Ed) (w : World) (k : Nat) (q52 q9 : Value) (wr : World) : Prop :=
 ∃ (j : Nat) (S : Int), q52 = .int .i64 (j : Int) /\ q9 = .int .i64 (BY + S) /\ Hid (S = putB enc (es.take j) /\ fitF enc (es.take j) = true) /\ j <= es.length /\ Below w.heap.size w wr /\ es.length - j <= k
def RefR4 (ds : List (Int × Int)) (BS : Int) (es : List Ed) (w : World) (k : Nat) (q78 q9 : Value) (wr : World) : Prop :=
 ∃ (j : Nat) (R : Int), q78 = .int .i64 (j : Int) /\ q9 = .int .i64 (BS - R) /\ Hid (R = remB ds (es.take j) /\ -(1073741824 * (j : Int)) <= R /\ R <= 1073741824 * (j : Int)) /\ j <= es.length /\ Below w.heap.size w wr /\ es.length - j <= k
def RefR3 (enc BS : Int) (put : List Int) (w : World) (k : Nat) (q59 q9 : Value) (wr : World) : Prop :=
 ∃ (i : Nat) (S : Int), q59 = .int .i64 (i : Int) /\ q9 = .int .i64 (BS + S) /\ Hid (S = szL_ enc (put.take i) /\ fitP enc (put.take i) = true) /\ i <= put.length /\ Below w.heap.size w wr /\ put.length - i <= k
theorem refuse_any (D D2 : Nat -> Prop) (g : Nat) (enc lim : Int) (t : Tr) (a : Option Addr) (add : Value) (A : Option Addr) (m c : Nat) (es : List Ed) (w : World) (h : TextIn w D g enc lim t a add) (he : EdsAt w D2 A m es) (hp : putN es <= 268435456) :
  Calls Tryz.prog 37 #[.pointer (some ⟨g, 0, none⟩), .slice A m c] w fun e w' => e = .returned (.int .i64 (refF enc lim (decL enc t.list) es)) /\ Below w.heap.size w w' := by
 have hml := he.len
 have hta : TextAt w D g enc (decL enc t.list) := ⟨lim, t, a, add, h, rfl⟩
 have hKL := len_any D g enc _ w hta
 have hKS := fun (w' : World) (hb : Below w.heap.size w w') => size_any D g enc _ w' (hta.below hb)
 have hdl := h.decLen
 have htot := h.tot
 obtain ⟨ds, hds⟩ : ∃ ds, decL enc t.list = ds := ⟨_, rfl⟩
 have hKA := fun (x : Int) (w' : World) (hb : Below w.heap.size w w') (h0 : 0 <= x) (h1 : x <= (ds.length : Int)) => ahead_any D g enc lim t a add x w' (h.below hb) h0 (by rw [hds]; exact h1)
 have hby : 0 <= (sumsOf ds).bytes /\ (sumsOf ds).bytes <= 1073741824 := by
  have h1 := totB_dec h.ok
  have h2 := sumsOf_good' (decL_pos enc t.list)
  rw [hds] at h1 h2
  obtain ⟨⟨_, _, h4, _⟩, _, h5⟩ := h2
  omega
 rw [hds] at hKL hKS hKA hdl ⊢
 have HDS := Lib.hid hds
 by_cases hlen : 70000 < es.length
 ·have e1 : refF enc lim ds es = 3 := by unfold refF; rw [if_pos hlen]
  rw [e1]
  have q : ((70000 : Int) < (m : Int)) = True := by simp; omega
  clear hKL hKS hKA e1
  go_enter Tryz.func37, Tryz.ntmps37
  go_wp2_with fail
  go_ret
  exact ⟨rfl, Below.refl _ _⟩
 ·have q : ((70000 : Int) < (m : Int)) = False := by simp; omega
  have hrf : refF enc lim ds es = if ordF 0 ds.length es = false then 2 else if fitF enc es = false then 11 else if lim < (sumsOf ds).bytes + putB enc es - remB ds es then 50 else 0 := by unfold refF; rw [if_neg hlen]
  rw [hrf]
  obtain ⟨V, hV⟩ : ∃ V : Int, (if ordF 0 ds.length es = false then 2 else if fitF enc es = false then 11 else if lim < (sumsOf ds).bytes + putB enc es - remB ds es then 50 else 0) = V := ⟨_, rfl⟩
  rw [hV]
  have HV := Lib.hid hV
  obtain ⟨DL, hDL⟩ : ∃ DL, ds.length = DL := ⟨_, rfl⟩
  rw [hDL] at hKL hKA hdl
  have HDL := Lib.hid hDL
  have HKL := Lib.hid hKL
  have HKS := Lib.hid hKS
  have HKA := Lib.hid hKA
  have HE := Lib.hid he
  have HH := Lib.hid h
  clear hKL hKS hKA hrf he h hta hds hV hDL
  go_enter Tryz.func37, Tryz.ntmps37
  go_wp2_with fail
  refine (HKL.out).mono ?_
  rintro e w1 ⟨rfl, hb1⟩
  go_wp2_with fail
  go_loopg [24, 5] es.length (fun k q24 q5 wr => RefR1 ds es w k q24 q5 wr)
  case atStart => exact ⟨0, 0, rfl, rfl, Lib.hid rfl, by omega, hb1, by omega⟩
  case round =>
   obtain ⟨j, at_, rfl, rfl, ho, hj, hbr, hgk⟩ := hrel
   by_cases hlt : j < m
   ·obtain ⟨eb, eo, ed, rfl, hed, hD2, z0, z1, z2⟩ := (HE.out.below hbr).at_ hlt
    obtain ⟨ef, et, eA, en, ec, eput⟩ := ed
    dsimp only at z0 z1 z2
    have hdr : es.drop j = ⟨ef, et, eA, en, ec, eput⟩ :: es.drop (j + 1) := by
     rw [List.drop_eq_getElem_cons (by omega)]
     rw [List.getElem?_eq_getElem (by omega)] at hed
     injection hed with hed
     rw [hed]
    have hfo : ordF at_ ds.length (es.drop j) = if ef < at_ \/ et < ef \/ (ds.length : Int) < et then false else ordF et ds.length (es.drop (j + 1)) := by rw [hdr]; rfl
    have HO : Hid (ordF 0 ds.length es = if ef < at_ \/ et < ef \/ (ds.length : Int) < et then false else ordF et ds.length (es.drop (j + 1))) := Lib.hid (by rw [<- ho.out]; exact hfo)
    clear hfo hdr ho hed HH
    rw [HDL.out] at HO
    have hcs : ((ef < at_) = True) \/ ((ef < at_) = False /\ (((et < ef) = True) \/ ((et < ef) = False /\ (((DL : Int) < et) = True \/ ((DL : Int) < et) = False)))) := by
     simp only [eq_iff_iff, iff_true, iff_false]
     omega
    rcases hcs with q1 | ⟨q1, q2 | ⟨q2, q3 | q3⟩⟩
    ·go_wp2_with fail
     go_ret
     exact ⟨ret_i (by rw [<- HV.out, HDL.out, if_pos (by rw [HO.out, if_pos (.inl (of_eq_true q1))])]), balloc hbr⟩
    ·go_wp2_with fail
     go_ret
     exact ⟨ret_i (by rw [<- HV.out, HDL.out, if_pos (by rw [HO.out, if_pos (.inr (.inl (of_eq_true q2)))])]), balloc hbr⟩
    ·go_wp2_with fail
     go_ret
     exact ⟨ret_i (by rw [<- HV.out, HDL.out, if_pos (by rw [HO.out, if_pos (.inr (.inr (of_eq_true q3)))])]), balloc hbr⟩
    ·go_wp2_with fail
     go_roundg (es.length - (j + 1))
     case measure => omega
     case rel =>
      refine ⟨j + 1, et, by go_num, rfl, Lib.hid ?_, by omega, balloc hbr, by omega⟩
      rw [HDL.out, HO.out, if_neg (by
       rintro (h | h | h)
       ·exact (of_eq_false q1) h
       ·exact (of_eq_false q2) h
       ·exact (of_eq_false q3) h)]
   ·have hjm : j = es.length := by omega
    subst hjm
    have hord : ordF 0 ds.length es = true := by
     have := ho.out
     rw [List.drop_length] at this
     exact this.symm
    have hK2 := HKS.out _ hbr
    obtain ⟨BY, hBY⟩ : ∃ BY, (sumsOf ds).bytes = BY := ⟨_, rfl⟩
    have HBY := Lib.hid hBY
    rw [hBY] at hK2 hby
    have HK2 := Lib.hid hK2
    have HORD := Lib.hid hord
    clear hK2 hord ho hBY HKS HKL
    go_wp2_with fail
    refine (HK2.out).mono ?_
    rintro e w2 ⟨rfl, hb2⟩
    have hW2 := bseq hbr hb2
    clear hb2 hbr HK2
    go_wp2_with fail
    go_loopg [52, 9] es.length (fun k q52 q9 wr => RefR2 enc BY es w k q52 q9 wr)
    case atStart => exact ⟨0, 0, rfl, by simp, Lib.hid ⟨by simp [putB], rfl⟩, by omega, hW2, by omega⟩
    case round =>
     obtain ⟨j, S, rfl, rfl, hs, hj, hbr, hgk⟩ := hrel
     obtain ⟨w3, hw3⟩ : ∃ x, x = wr := ⟨_, rfl⟩
     subst hw3
     obtain ⟨k1, hk1⟩ : ∃ x, x = gk := ⟨_, rfl⟩
     subst hk1
     by_cases hlt : j < m
     ·obtain ⟨eb, eo, ed, rfl, hed, hD2, z0, z1, z2⟩ := (HE.out.below hbr).at_ hlt
      have hmem := List.mem_of_getElem? hed
      have hput := HE.out.put ed hmem
      have hnf : ∀ x ∈ ed.put, szA enc x = 0 -> fitF enc es = false := by
       intro x hx hz
       unfold fitF
       rw [List.all_eq_false]
       refine ⟨ed, hmem, ?_⟩
       unfold fitP
       simp only [List.all_eq_true, bne_iff_ne, ne_eq, Classical.not_forall, Decidable.not_not]
       exact ⟨x, hx, hz⟩
      have hN1 := putB_bd enc (es.take j)
      have hN2 := putN_take es j
      have hN3 := putN_take es (j + 1)
      have e3 := take_snoc es j ed hed
      rw [e3, putN_snoc] at hN3
      have hS := hs.out.1
      rw [<- hS] at hN1
      have HSE := Lib.hid hS
      clear hS
      have HT3 := Lib.hid e3
      have HS3 := Lib.hid hs.out.2
      obtain ⟨ef, et, eA, en, ec, eput⟩ := ed
      dsimp only at z0 z1 z2 hput hN3 hnf
      have HNF := Lib.hid hnf
      clear hnf
      have hpl := hput.len
      have HPUT := Lib.hid hput
      clear hs e3 hput hed hmem
      go_wp2_with fail
      have hb4 := balloc (o := .cells #[.int .i64 ef, .int .i64 et, .slice eA en ec] 45) hbr
      go_loopg [59, 9] eput.length (fun k q59 q9 wr => RefR3 enc (BY + S) eput w k q59 q9 wr)
      case atStart => exact ⟨0, 0, rfl, by simp, Lib.hid ⟨rfl, rfl⟩, by omega, hb4, by omega⟩
      case round =>
       obtain ⟨i, S1, rfl, rfl, hs1, hi, hbr5, hgk5⟩ := hrel
       by_cases hlt5 : i < en
       ·obtain ⟨ad5, rfl, _, c5⟩ := Ints.at_ (Reads.below HPUT.out hbr5) hlt5
        obtain ⟨x, hx⟩ : ∃ x, eput.getD i 0 = x := ⟨_, rfl⟩
        have hxi : eput[i]? = some x := by
         rw [<- hx, List.getD_eq_getElem?_getD, List.getElem?_eq_getElem (by omega)]
         rfl
        rw [hx] at c5
        have e5 := take_snoc eput i x hxi
        have hc5 := csize_any enc x wr HH.out.enc4
        have hz4 := szA_le enc x
        have hz0 := szA_ge enc x
        have hs5 := szL_bd enc (eput.take i)
        rw [List.length_take] at hs5
        have hS1 := hs1.out.1
        rw [<- hS1] at hs5
        obtain ⟨t0, -⟩ := (HH.out.below hbr5).cells
        by_cases hzz : szA enc x = 0
        ·have hv : V = 11 := by
          rw [<- HV.out, HORD.out, HNF.out x (List.mem_of_getElem? hxi) hzz]
          simp
         have HVV := Lib.hid hv
         rw [hzz] at hc5
         have HC5 := Lib.hid hc5
         clear hv hc5 hx hxi e5 hS1 hs1
         go_wp2_with fail
         refine (HC5.out).mono ?_
         rintro e w6 ⟨rfl, hb6⟩
         go_wp2_with fail
         go_ret
         exact ⟨ret_i HVV.out.symm, bseq hbr5 hb6⟩
        ·obtain ⟨z, hz⟩ : ∃ z, szA enc x = z := ⟨_, rfl⟩
         rw [hz] at hc5 hzz hz4 hz0
         have hsn := szL_snoc enc (eput.take i) x
         rw [<- e5, hz, <- hS1] at hsn
         have hfp : fitP enc (eput.take (i + 1)) = true := by
          have h1 := hs1.out.2
          rw [e5]
          unfold fitP at h1 ⊢
          rw [List.all_append, h1]
          simp [hz, hzz]
         have q0 : (z == 0) = false := by simpa using hzz
         have HC5 := Lib.hid hc5
         have HSN := Lib.hid hsn
         have HFP := Lib.hid hfp
         clear hc5 hx hxi e5 hs1 hz hsn hfp hS1
         go_wp2_with fail
         refine (HC5.out).mono ?_
         rintro e w6 ⟨rfl, hb6⟩
         go_wp2_with fail
         go_roundg (eput.length - (i + 1))
         case measure => omega
         case rel => exact ⟨i + 1, S1 + z, by go_num, by rw [Int.add_assoc], Lib.hid ⟨HSN.out.symm, HFP.out⟩, by omega, bseq hbr5 hb6, by omega⟩
       ·have hie : i = eput.length := by omega
        subst hie
        have hs2 := hs1.out
        rw [List.take_length] at hs2
        have HS2 := Lib.hid hs2
        clear hs1 hs2
        go_wp2_with fail
        go_roundg (es.length - (j + 1))
        case measure => omega
        case rel =>
         refine ⟨j + 1, S + S1, by go_num, by rw [Int.add_assoc], Lib.hid ⟨?_, ?_⟩, by omega, hbr5, by omega⟩
         ·rw [HT3.out, putB_snoc, <- HS2.out.1, <- HSE.out]
         ·have h1 := HS3.out
          rw [HT3.out]
          unfold fitF at h1 ⊢
          rw [List.all_append, h1]
          simp [HS2.out.2]
     ·have hje : j = es.length := by omega
      subst hje
      have hs2 := hs.out
      rw [List.take_length] at hs2
      have hPB := putB_bd enc es
      have hSS := hs2.1
      rw [<- hSS] at hPB
      have HFIT := Lib.hid hs2.2
      have HSS := Lib.hid hSS
      clear hs hs2 hSS
      go_wp2_with fail
      go_loopg [78, 9] es.length (fun k q78 q9 wr => RefR4 ds (BY + S) es w k q78 q9 wr)
      case atStart => exact ⟨0, 0, rfl, by simp, Lib.hid ⟨by simp [remB], by simp⟩, by omega, hbr, by omega⟩
      case round =>
       obtain ⟨j, R, rfl, rfl, hs, hj4, hbr4, hgk4⟩ := hrel
       obtain ⟨w3, hw3⟩ : ∃ x, x = wr := ⟨_, rfl⟩
       subst hw3
       obtain ⟨hR, hRb⟩ := hs.out
       by_cases hlt4 : j < m
       ·obtain ⟨eb, eo, ed, rfl, hed, hD2, z0, z1, z2⟩ := (HE.out.below hbr4).at_ hlt4
        have hmem := List.mem_of_getElem? hed
        have hrng := ordF_mem es 0 ds.length HORD.out (Int.le_refl _) ed hmem
        have e3 := take_snoc es j ed hed
        have hrs := remB_snoc ds (es.take j) ed
        rw [<- e3, <- hR] at hrs
        have HRS := Lib.hid hrs
        obtain ⟨ef, et, eA, en, ec, eput⟩ := ed
        dsimp only at z0 z1 z2 hrng
        rw [HDL.out] at hrng
        have hb4 := balloc (o := .cells #[.int .i64 ef, .int .i64 et, .slice eA en ec] 45) hbr4
        have hB4 := Blk.new w3 45 #[.int .i64 ef, .int .i64 et, .slice eA en ec]
        clear hs e3 hed hmem hrs hR
        by_cases hft : ef < et
        ·have q1 : (ef < et) = True := by simpa using hft
         have ha1 := fun (w' : World) (hb : Below w.heap.size w w') => HKA.out et w' hb (by omega) (by omega)
         have ha2 := fun (w' : World) (hb : Below w.heap.size w w') => HKA.out ef w' hb (by omega) (by omega)
         have hr1 : rem1 ds ⟨ef, et, eA, en, ec, eput⟩ = (sumsOf (ds.take et.toNat)).bytes - (sumsOf (ds.take ef.toNat)).bytes := by unfold rem1; rw [if_pos hft]
         have hbd : ∀ x : Int, 0 <= (sumsOf (ds.take x.toNat)).bytes /\ (sumsOf (ds.take x.toNat)).bytes <= 1073741824 := by
          intro x
          have h1 := totB_dec HH.out.ok
          have h2 := sumsOf_good' ((decL_pos enc t.list).take x.toNat)
          have h3 := sumsOf_good' ((decL_pos enc t.list).drop x.toNat)
          have h4 : ((decL enc t.list).map Prod.snd).sum = (((decL enc t.list).take x.toNat).map Prod.snd).sum + (((decL enc t.list).drop x.toNat).map Prod.snd).sum := by
           rw [<- List.sum_append, <- List.map_append, List.take_append_drop]
          rw [HDS.out] at h1 h2 h3 h4
          obtain ⟨⟨_, _, h5, _⟩, _, h6⟩ := h2
          obtain ⟨⟨_, _, h7, _⟩, _, h8⟩ := h3
          omega
         have hbd1 := hbd et
         have hbd2 := hbd ef
         obtain ⟨S1, hS1⟩ : ∃ S1, sumsOf (ds.take et.toNat) = S1 := ⟨_, rfl⟩
         obtain ⟨S2, hS2⟩ : ∃ S2, sumsOf (ds.take ef.toNat) = S2 := ⟨_, rfl⟩
         rw [hS1] at ha1 hr1 hbd1
         rw [hS2] at ha2 hr1 hbd2
         have HR1 := Lib.hid hr1
         have k1 := field1 S1.atoms S1.bytes S1.breaks S1.lf S1.cr
         have k2 := field1 S2.atoms S2.bytes S2.breaks S2.lf S2.cr
         unfold Sums.cells at ha1 ha2
         have HA1 := Lib.hid ha1
         have HA2 := Lib.hid ha2
         obtain ⟨B1, hB1⟩ : ∃ B1, S1.bytes = B1 := ⟨_, rfl⟩
         obtain ⟨B2, hB2⟩ : ∃ B2, S2.bytes = B2 := ⟨_, rfl⟩
         rw [hB1] at HA1 HR1 hbd1 k1
         rw [hB2] at HA2 HR1 hbd2 k2
         have e8 : IntKind.i64.wrap (B1 - B2) = B1 - B2 := IntWalk.i64_in _ (by omega)
         have e9 : IntKind.i64.wrap (BY + S - R - (B1 - B2)) = BY + S - R - (B1 - B2) := IntWalk.i64_in _ (by omega)
         clear ha1 ha2 hr1 hS1 hS2 hbd hft hB1 hB2
         go_upto_region 28 with fail
         obtain ⟨w4, hw4⟩ : ∃ w4, w3.alloc (.cells #[.int .i64 ef, .int .i64 et, .slice eA en ec] 45) = w4 := ⟨_, rfl⟩
         rw [hw4] at hb4 hB4 ⊢
         clear hw4
         have hfc : ∀ w', Below w4.heap.size w4 w' -> w'.cell? ⟨w3.heap.size, 0, none⟩ = some (.int .i64 ef) /\ w'.cell? ⟨w3.heap.size, 1, none⟩ = some (.int .i64 et) := fun w' hb => ⟨(hB4.below hb).cell 0, (hB4.below hb).cell 1⟩
         have HFC := Lib.hid hfc
         clear hfc hB4
         refine wp_region_steady (fun w' => Below w4.heap.size w4 w') (by kernel_rfl) (by kernel_rfl) (Below.drew (Below.refl _ _)) ?_
         repeat ((first
          | (refine wpSt_read (v := ?_) (by rfl) (fun w6 hSw => ?_) ?_; rotate_left; (· (obtain ⟨y0, y1⟩ := HFC.out _ hSw; go_simp; try with_reducible rfl)))
          | refine wpSt_not (by rfl) ?_
          | (refine wpSt_call (f := ?_) (args := ?_) (v := .agg #[.int .i64 S1.atoms, .int .i64 B1, .int .i64 S1.breaks, .bool S1.lf, .bool S1.cr]) (by rfl) (fun w6 hSw => ?_) (fun w6 hSw => ?_) ?_; rotate_left 2; (· (obtain ⟨y0, y1⟩ := HFC.out _ hSw; go_simp; first | done | (constructor <;> with_reducible rfl) | with_reducible rfl)); (· ((with_reducible refine (HA1.out _ (bseq hb4 hSw)).mono ?_); rintro e w5 ⟨rfl, hb5⟩; exact ⟨rfl, bseq hSw hb5⟩)))
          | (refine wpSt_call (f := ?_) (args := ?_) (v := .agg #[.int .i64 S2.atoms, .int .i64 B2, .int .i64 S2.breaks, .bool S2.lf, .bool S2.cr]) (by rfl) (fun w6 hSw => ?_) (fun w6 hSw => ?_) ?_; rotate_left 2; (· (obtain ⟨y0, y1⟩ := HFC.out _ hSw; go_simp; first | done | (constructor <;> with_reducible rfl) | with_reducible rfl)); (· ((with_reducible refine (HA2.out _ (bseq hb4 hSw)).mono ?_); rintro e w5 ⟨rfl, hb5⟩; exact ⟨rfl, bseq hSw hb5⟩)))); (try simp only [Act.put, pA, pB, pC]))
         refine wpSt_nil ?_
         intro w5 hw5
         have hb5 := bseq hb4 hw5
         clear hw5 hb4
         go_wp2_with fail
         go_roundg (es.length - (j + 1))
         case measure => omega
         case rel =>
          exact ⟨j + 1, R + (B1 - B2), by go_num, by rw [Int.sub_sub], Lib.hid ⟨by rw [HRS.out, HR1.out], by omega⟩, by omega, hb5, by omega⟩
        ·have q1 : (ef < et) = False := by simpa using hft
         have hr1 : rem1 ds ⟨ef, et, eA, en, ec, eput⟩ = 0 := by unfold rem1; rw [if_neg hft]
         have HR1 := Lib.hid hr1
         clear hr1 hft hB4
         go_wp2_with fail
         go_roundg (es.length - (j + 1))
         case measure => omega
         case rel =>
          exact ⟨j + 1, R, by go_num, rfl, Lib.hid ⟨by rw [HRS.out, HR1.out, Int.add_zero], by omega⟩, by omega, hb4, by omega⟩
       ·have hje : j = es.length := by omega
        subst hje
        rw [List.take_length] at hR
        have c1 := (HH.out.below hbr4).blk.cell 1
        simp at c1
        have hv : V = if lim < BY + S - R then 50 else 0 := by
         rw [<- HV.out, HORD.out, HFIT.out, HBY.out, HSS.out, hR]
         simp
        have HVV := Lib.hid hv
        clear hs hR hv
        by_cases hl : lim < BY + S - R
        ·have q1 : (lim < BY + S - R) = True := eq_true hl
         rw [if_pos hl] at HVV
         clear hl
         go_wp2_with fail
         go_ret
         exact ⟨ret_i HVV.out.symm, hbr4⟩
        ·have q1 : (lim < BY + S - R) = False := eq_false hl
         rw [if_neg hl] at HVV
         clear hl
         go_wp2_with fail
         go_ret
         exact ⟨ret_i HVV.out.symm, hbr4⟩
end Go.Proofs.YtflhiohjikgedaaGreatDoor
