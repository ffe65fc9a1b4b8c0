/-
  What the statement on joined lines counts, and that a join answers it (plain).
-/
import Derived.Test.YtkoakanpaehkmaaGreatDoorLRepl
import Derived.Test.YtkoakanpaehkmaaGreatDoorLWk4
import Derived.Test.YtkoakanpaehkmaaGreatDoorLSame
set_option linter.unusedSimpArgs false
set_option linter.unusedVariables false
set_option maxRecDepth 100000
set_option maxHeartbeats 32000000
namespace Go.Proofs.YtkoakanpaehkmaaGreatDoor
open Go.RowKit
structure Ed where
 f : Int
 t : Int
 A : Option Addr
 n : Nat
 c : Nat
 put : List Int
def Ed.cells (e : Ed) : Array Value := #[.int .i64 e.f, .int .i64 e.t, .slice e.A e.n e.c]
structure EdsAt (w : World) (D : Nat -> Prop) (A : Option Addr) (m : Nat) (es : List Ed) : Prop where
 rds : Reads w D 3 A m (es.flatMap fun e => e.cells.toList)
 put : ∀ e ∈ es, Ints w D e.A e.n e.put
theorem flat3 (es : List Ed) : (es.flatMap fun e => e.cells.toList).length = es.length * 3 := by
 induction es with
 | nil => rfl
 | cons p ps ih => rw [List.flatMap_cons, List.length_append, ih]; simp [Ed.cells]; omega
theorem EdsAt.len {w : World} {D : Nat -> Prop} {A : Option Addr} {m : Nat} {es : List Ed} (h : EdsAt w D A m es) : es.length = m := by
 have := h.rds.1
 rw [flat3] at this
 omega
theorem flat3_at (es : List Ed) (k : Nat) (hk : k < es.length) (j : Nat) (hj : j < 3) : (es.flatMap fun e => e.cells.toList)[k * 3 + j]? = es[k].cells[j]? := by
 induction es generalizing k with
 | nil => simp at hk
 | cons p ps ih =>
  rw [List.flatMap_cons]
  cases k with
  | zero =>
   rw [List.getElem?_append_left (by simp [Ed.cells]; omega)]
   simp
  | succ k =>
   rw [List.getElem?_append_right (by simp [Ed.cells]; omega)]
   have := ih k (by simpa using hk)
   simp only [List.getElem_cons_succ]
   rw [<- this]
   congr 1
   simp [Ed.cells]
   omega
theorem EdsAt.at_ {w : World} {D : Nat -> Prop} {A : Option Addr} {m k : Nat} {es : List Ed} (h : EdsAt w D A m es) (hk : k < m) : ∃ b o e, A = some ⟨b, o, none⟩ /\ es[k]? = some e /\ D b /\ w.cell? ⟨b, o + k * 3, none⟩ = some (.int .i64 e.f) /\ w.cell? ⟨b, o + k * 3 + 1, none⟩ = some (.int .i64 e.t) /\ w.cell? ⟨b, o + k * 3 + 2, none⟩ = some (.slice e.A e.n e.c) := by
 have hl := h.len
 obtain ⟨ad, e, hd, hc⟩ := h.rds.2 (by omega)
 have hkl : k < es.length := by omega
 have hs := cell_spot (hc 0 (.int .i64 es[0].f) (by have := flat3_at es 0 (by omega) 0 (by omega); simp only [Nat.zero_mul, Nat.add_zero] at this; rw [this]; rfl))
 rw [add_zero] at hs
 refine ⟨ad.block, ad.off, es[k], by rw [e, <- hs], List.getElem?_eq_getElem hkl, hd, ?_, ?_, ?_⟩
 ·have := hc (k * 3 + 0) (.int .i64 es[k].f) (by rw [flat3_at es k hkl 0 (by omega)]; rfl)
  rw [hs, add_cell] at this
  exact this
 ·have := hc (k * 3 + 1) (.int .i64 es[k].t) (by rw [flat3_at es k hkl 1 (by omega)]; rfl)
  rw [hs, add_cell] at this
  rw [Nat.add_assoc]
  exact this
 ·have := hc (k * 3 + 2) (.slice es[k].A es[k].n es[k].c) (by rw [flat3_at es k hkl 2 (by omega)]; rfl)
  rw [hs, add_cell] at this
  rw [Nat.add_assoc]
  exact this
theorem EdsAt.below {w w' : World} {D : Nat -> Prop} {A : Option Addr} {m : Nat} {es : List Ed} (h : EdsAt w D A m es) (hb : Below w.heap.size w w') : EdsAt w' D A m es :=
 ⟨Reads.below h.rds hb, fun e he => Reads.below (h.put e he) hb⟩
theorem EdsAt.more {w : World} {D D' : Nat -> Prop} {A : Option Addr} {m : Nat} {es : List Ed} (h : EdsAt w D A m es) (hD : ∀ b, D b -> b < w.heap.size -> D' b) : EdsAt w D' A m es :=
 ⟨Reads.more h.rds hD (by decide), fun e he => Reads.more (h.put e he) hD (by decide)⟩
theorem EdsAt.fr {w w' : World} {D S : Nat -> Prop} {A : Option Addr} {m : Nat} {es : List Ed} (h : EdsAt w D A m es) (hf : Fr S w w') (hd : ∀ b, D b -> b < w.heap.size -> ¬ S b) : EdsAt w' D A m es :=
 ⟨Reads.fr h.rds hf hd, fun e he => Reads.fr (h.put e he) hf hd⟩
def ordF : Int -> Int -> List Ed -> Bool
 | _, _, [] => true
 | a, size, e :: r => if e.f < a \/ e.t < e.f \/ size < e.t then false else ordF e.t size r
def fitP (enc : Int) (l : List Int) : Bool := l.all fun a => szA enc a != 0
def fitF (enc : Int) (es : List Ed) : Bool := es.all fun e => fitP enc e.put
def szL_ (enc : Int) (l : List Int) : Int := (l.map (szA enc)).sum
def putB (enc : Int) (es : List Ed) : Int := (es.map fun e => szL_ enc e.put).sum
def rem1 (ds : List (Int × Int)) (e : Ed) : Int := if e.f < e.t then (sumsOf (ds.take e.t.toNat)).bytes - (sumsOf (ds.take e.f.toNat)).bytes else 0
def remB (ds : List (Int × Int)) (es : List Ed) : Int := (es.map (rem1 ds)).sum
def refF (enc lim : Int) (ds : List (Int × Int)) (es : List Ed) : Int :=
 if 70000 < es.length then 3 else if ordF 0 ds.length es = false then 2 else if fitF enc es = false then 11 else if lim < (sumsOf ds).bytes + putB enc es - remB ds es then 50 else 0
theorem ordF_mem : ∀ (es : List Ed) (a size : Int), ordF a size es = true -> 0 <= a -> ∀ e ∈ es, a <= e.f /\ e.f <= e.t /\ e.t <= size := by
 intro es
 induction es with
 | nil => intro _ _ _ _ e he; cases he
 | cons x r ih =>
  intro a size h h0 e he
  unfold ordF at h
  split at h
  ·cases h
  ·rename_i hc
   rcases List.mem_cons.1 he with rfl | he
   ·omega
   ·have := ih x.t size h (by omega) e he
    omega
theorem szA_ge (enc a : Int) : 0 <= szA enc a := by
 unfold szA sz8 sz16 szL
 repeat' split
 all_goals omega
theorem szL_bd (enc : Int) (l : List Int) : 0 <= szL_ enc l /\ szL_ enc l <= 4 * l.length := by
 unfold szL_
 induction l with
 | nil => simp
 | cons a l ih =>
  have h1 := szA_ge enc a
  have h2 := szA_le enc a
  simp only [List.map_cons, List.sum_cons, List.length_cons]
  omega
theorem szL_snoc (enc : Int) (l : List Int) (a : Int) : szL_ enc (l ++ [a]) = szL_ enc l + szA enc a := by unfold szL_; simp
theorem putB_snoc (enc : Int) (es : List Ed) (e : Ed) : putB enc (es ++ [e]) = putB enc es + szL_ enc e.put := by unfold putB; simp
theorem remB_snoc (ds : List (Int × Int)) (es : List Ed) (e : Ed) : remB ds (es ++ [e]) = remB ds es + rem1 ds e := by unfold remB; simp
def putN (es : List Ed) : Nat := (es.map fun e => e.put.length).sum
theorem putN_snoc (es : List Ed) (e : Ed) : putN (es ++ [e]) = putN es + e.put.length := by unfold putN; simp
theorem putB_bd (enc : Int) (es : List Ed) : 0 <= putB enc es /\ putB enc es <= 4 * putN es := by
 unfold putB putN
 induction es with
 | nil => simp
 | cons e es ih =>
  have := szL_bd enc e.put
  simp only [List.map_cons, List.sum_cons]
  omega
theorem putN_take (es : List Ed) (k : Nat) : putN (es.take k) <= putN es := by
 conv => rhs; rw [<- List.take_append_drop k es]
 unfold putN
 rw [List.map_append, List.sum_append]
 omega
theorem take_snoc {α : Type} (l : List α) (k : Nat) (x : α) (h : l[k]? = some x) : l.take (k + 1) = l.take k ++ [x] := by rw [List.take_add_one, h]; rfl
def RefR1 (ds : List (Int × Int)) (es : List Ed) (w : World) (k : Nat) (q24 q5 : Value) (wr : World) : Prop :=
 ∃ (j : Nat) (a : Int), q24 = .int .i64 (j : Int) /\ q5 = .int .i64 a /\ Hid (ordF a ds.length (es.drop j) = ordF 0 ds.length es) /\ j <= es.length /\ Below w.heap.size w wr /\ es.length - j <= k
def RefR2 (enc BY : Int) (es : List Ed) (w : World) (k : Nat) (q52 q9 : Value) (wr : World) : Prop :=
 ∃ (j : Nat) (S : Int), q52 = .int .i64 (j : Int) /\ q9 = .int .i64 (BY + S) /\ Hid (S = putB enc (es.take j) /\ fitF enc (es.take j) = true) /\ j <= es.length /\ Below w.heap.size w wr /\ es.length - j <= k
def RefR4 (ds : List (Int × Int)) (BS : Int) (es : List Ed) (w : World) (k : Nat) (q78 q9 : Value) (wr : World) : Prop :=
 ∃ (j : Nat) (R : Int), q78 = .int .i64 (j : Int) /\ q9 = .int .i64 (BS - R) /\ Hid (R = remB ds (es.take j) /\ -(1073741824 * (j : Int)) <= R /\ R <= 1073741824 * (j : Int)) /\ j <= es.length /\ Below w.heap.size w wr /\ es.length - j <= k
def RefR3 (enc BS : Int) (put : List Int) (w : World) (k : Nat) (q59 q9 : Value) (wr : World) : Prop :=
 ∃ (i : Nat) (S : Int), q59 = .int .i64 (i : Int) /\ q9 = .int .i64 (BS + S) /\ Hid (S = szL_ enc (put.take i) /\ fitP enc (put.take i) = true) /\ i <= put.length /\ Below w.heap.size w wr /\ put.length - i <= k
theorem refuse_any (D D2 : Nat -> Prop) (g : Nat) (enc lim : Int) (t : Tr) (a : Option Addr) (add : Value) (A : Option Addr) (m c : Nat) (es : List Ed) (w : World) (h : TextIn w D g enc lim t a add) (he : EdsAt w D2 A m es) (hp : putN es <= 268435456) :
  Calls Tryz.prog 158 #[.pointer (some ⟨g, 0, none⟩), .slice A m c] w fun e w' => e = .returned (.int .i64 (refF enc lim (decL enc t.list) es)) /\ Below w.heap.size w w' := by
 have hml := he.len
 have hta : TextAt w D g enc (decL enc t.list) := ⟨lim, t, a, add, h, rfl⟩
 have hKL := len_any D g enc _ w hta
 have hKS := fun (w' : World) (hb : Below w.heap.size w w') => size_any D g enc _ w' (hta.below hb)
 have hdl := h.decLen
 have htot := h.tot
 obtain ⟨ds, hds⟩ : ∃ ds, decL enc t.list = ds := ⟨_, rfl⟩
 have hKA := fun (x : Int) (w' : World) (hb : Below w.heap.size w w') (h0 : 0 <= x) (h1 : x <= (ds.length : Int)) => ahead_any D g enc lim t a add x w' (h.below hb) h0 (by rw [hds]; exact h1)
 have hby : 0 <= (sumsOf ds).bytes /\ (sumsOf ds).bytes <= 1073741824 := by
  have h1 := totB_dec h.ok
  have h2 := sumsOf_good' (decL_pos enc t.list)
  rw [hds] at h1 h2
  obtain ⟨⟨_, _, h4, _⟩, _, h5⟩ := h2
  omega
 rw [hds] at hKL hKS hKA hdl ⊢
 have HDS := Lib.hid hds
 by_cases hlen : 70000 < es.length
 ·have e1 : refF enc lim ds es = 3 := by unfold refF; rw [if_pos hlen]
  rw [e1]
  have q : ((70000 : Int) < (m : Int)) = True := by simp; omega
  clear hKL hKS hKA e1
  go_enter Tryz.func158, Tryz.ntmps158
  go_wp2_with fail
  go_ret
  exact ⟨rfl, Below.refl _ _⟩
 ·have q : ((70000 : Int) < (m : Int)) = False := by simp; omega
  have hrf : refF enc lim ds es = if ordF 0 ds.length es = false then 2 else if fitF enc es = false then 11 else if lim < (sumsOf ds).bytes + putB enc es - remB ds es then 50 else 0 := by unfold refF; rw [if_neg hlen]
  rw [hrf]
  obtain ⟨V, hV⟩ : ∃ V : Int, (if ordF 0 ds.length es = false then 2 else if fitF enc es = false then 11 else if lim < (sumsOf ds).bytes + putB enc es - remB ds es then 50 else 0) = V := ⟨_, rfl⟩
  rw [hV]
  have HV := Lib.hid hV
  obtain ⟨DL, hDL⟩ : ∃ DL, ds.length = DL := ⟨_, rfl⟩
  rw [hDL] at hKL hKA hdl
  have HDL := Lib.hid hDL
  have HKL := Lib.hid hKL
  have HKS := Lib.hid hKS
  have HKA := Lib.hid hKA
  have HE := Lib.hid he
  have HH := Lib.hid h
  clear hKL hKS hKA hrf he h hta hds hV hDL
  go_enter Tryz.func158, Tryz.ntmps158
  go_wp2_with fail
  refine (HKL.out).mono ?_
  rintro e w1 ⟨rfl, hb1⟩
  go_wp2_with fail
  go_loopg [24, 5] es.length (fun k q24 q5 wr => RefR1 ds es w k q24 q5 wr)
  case atStart => exact ⟨0, 0, rfl, rfl, Lib.hid rfl, by omega, hb1, by omega⟩
  case round =>
   obtain ⟨j, at_, rfl, rfl, ho, hj, hbr, hgk⟩ := hrel
   by_cases hlt : j < m
   ·obtain ⟨eb, eo, ed, rfl, hed, hD2, z0, z1, z2⟩ := (HE.out.below hbr).at_ hlt
    obtain ⟨ef, et, eA, en, ec, eput⟩ := ed
    dsimp only at z0 z1 z2
    have hdr : es.drop j = ⟨ef, et, eA, en, ec, eput⟩ :: es.drop (j + 1) := by
     rw [List.drop_eq_getElem_cons (by omega)]
     rw [List.getElem?_eq_getElem (by omega)] at hed
     injection hed with hed
     rw [hed]
    have hfo : ordF at_ ds.length (es.drop j) = if ef < at_ \/ et < ef \/ (ds.length : Int) < et then false else ordF et ds.length (es.drop (j + 1)) := by rw [hdr]; rfl
    have HO : Hid (ordF 0 ds.length es = if ef < at_ \/ et < ef \/ (ds.length : Int) < et then false else ordF et ds.length (es.drop (j + 1))) := Lib.hid (by rw [<- ho.out]; exact hfo)
    clear hfo hdr ho hed HH
    rw [HDL.out] at HO
    have hcs : ((ef < at_) = True) \/ ((ef < at_) = False /\ (((et < ef) = True) \/ ((et < ef) = False /\ (((DL : Int) < et) = True \/ ((DL : Int) < et) = False)))) := by
     simp only [eq_iff_iff, iff_true, iff_false]
     omega
    rcases hcs with q1 | ⟨q1, q2 | ⟨q2, q3 | q3⟩⟩
    ·go_wp2_with fail
     go_ret
     exact ⟨ret_i (by rw [<- HV.out, HDL.out, if_pos (by rw [HO.out, if_pos (.inl (of_eq_true q1))])]), balloc hbr⟩
    ·go_wp2_with fail
     go_ret
     exact ⟨ret_i (by rw [<- HV.out, HDL.out, if_pos (by rw [HO.out, if_pos (.inr (.inl (of_eq_true q2)))])]), balloc hbr⟩
    ·go_wp2_with fail
     go_ret
     exact ⟨ret_i (by rw [<- HV.out, HDL.out, if_pos (by rw [HO.out, if_pos (.inr (.inr (of_eq_true q3)))])]), balloc hbr⟩
    ·go_wp2_with fail
     go_roundg (es.length - (j + 1))
     case measure => omega
     case rel =>
      refine ⟨j + 1, et, by go_num, rfl, Lib.hid ?_, by omega, balloc hbr, by omega⟩
      rw [HDL.out, HO.out, if_neg (by
       rintro (h | h | h)
       ·exact (of_eq_false q1) h
       ·exact (of_eq_false q2) h
       ·exact (of_eq_false q3) h)]
   ·have hjm : j = es.length := by omega
    subst hjm
    have hord : ordF 0 ds.length es = true := by
     have := ho.out
     rw [List.drop_length] at this
     exact this.symm
    have hK2 := HKS.out _ hbr
    obtain ⟨BY, hBY⟩ : ∃ BY, (sumsOf ds).bytes = BY := ⟨_, rfl⟩
    have HBY := Lib.hid hBY
    rw [hBY] at hK2 hby
    have HK2 := Lib.hid hK2
    have HORD := Lib.hid hord
    clear hK2 hord ho hBY HKS HKL
    go_wp2_with fail
    refine (HK2.out).mono ?_
    rintro e w2 ⟨rfl, hb2⟩
    have hW2 := bseq hbr hb2
    clear hb2 hbr HK2
    go_wp2_with fail
    go_loopg [52, 9] es.length (fun k q52 q9 wr => RefR2 enc BY es w k q52 q9 wr)
    case atStart => exact ⟨0, 0, rfl, by simp, Lib.hid ⟨by simp [putB], rfl⟩, by omega, hW2, by omega⟩
    case round =>
     obtain ⟨j, S, rfl, rfl, hs, hj, hbr, hgk⟩ := hrel
     obtain ⟨w3, hw3⟩ : ∃ x, x = wr := ⟨_, rfl⟩
     subst hw3
     obtain ⟨k1, hk1⟩ : ∃ x, x = gk := ⟨_, rfl⟩
     subst hk1
     by_cases hlt : j < m
     ·obtain ⟨eb, eo, ed, rfl, hed, hD2, z0, z1, z2⟩ := (HE.out.below hbr).at_ hlt
      have hmem := List.mem_of_getElem? hed
      have hput := HE.out.put ed hmem
      have hnf : ∀ x ∈ ed.put, szA enc x = 0 -> fitF enc es = false := by
       intro x hx hz
       unfold fitF
       rw [List.all_eq_false]
       refine ⟨ed, hmem, ?_⟩
       unfold fitP
       simp only [List.all_eq_true, bne_iff_ne, ne_eq, Classical.not_forall, Decidable.not_not]
       exact ⟨x, hx, hz⟩
      have hN1 := putB_bd enc (es.take j)
      have hN2 := putN_take es j
      have hN3 := putN_take es (j + 1)
      have e3 := take_snoc es j ed hed
      rw [e3, putN_snoc] at hN3
      have hS := hs.out.1
      rw [<- hS] at hN1
      have HSE := Lib.hid hS
      clear hS
      have HT3 := Lib.hid e3
      have HS3 := Lib.hid hs.out.2
      obtain ⟨ef, et, eA, en, ec, eput⟩ := ed
      dsimp only at z0 z1 z2 hput hN3 hnf
      have HNF := Lib.hid hnf
      clear hnf
      have hpl := hput.len
      have HPUT := Lib.hid hput
      clear hs e3 hput hed hmem
      go_wp2_with fail
      have hb4 := balloc (o := .cells #[.int .i64 ef, .int .i64 et, .slice eA en ec] 80) hbr
      go_loopg [59, 9] eput.length (fun k q59 q9 wr => RefR3 enc (BY + S) eput w k q59 q9 wr)
      case atStart => exact ⟨0, 0, rfl, by simp, Lib.hid ⟨rfl, rfl⟩, by omega, hb4, by omega⟩
      case round =>
       obtain ⟨i, S1, rfl, rfl, hs1, hi, hbr5, hgk5⟩ := hrel
       by_cases hlt5 : i < en
       ·obtain ⟨ad5, rfl, _, c5⟩ := Ints.at_ (Reads.below HPUT.out hbr5) hlt5
        obtain ⟨x, hx⟩ : ∃ x, eput.getD i 0 = x := ⟨_, rfl⟩
        have hxi : eput[i]? = some x := by
         rw [<- hx, List.getD_eq_getElem?_getD, List.getElem?_eq_getElem (by omega)]
         rfl
        rw [hx] at c5
        have e5 := take_snoc eput i x hxi
        have hc5 := csize_any enc x wr HH.out.enc4
        have hz4 := szA_le enc x
        have hz0 := szA_ge enc x
        have hs5 := szL_bd enc (eput.take i)
        rw [List.length_take] at hs5
        have hS1 := hs1.out.1
        rw [<- hS1] at hs5
        obtain ⟨t0, -⟩ := (HH.out.below hbr5).cells
        by_cases hzz : szA enc x = 0
        ·have hv : V = 11 := by
          rw [<- HV.out, HORD.out, HNF.out x (List.mem_of_getElem? hxi) hzz]
          simp
         have HVV := Lib.hid hv
         rw [hzz] at hc5
         have HC5 := Lib.hid hc5
         clear hv hc5 hx hxi e5 hS1 hs1
         go_wp2_with fail
         refine (HC5.out).mono ?_
         rintro e w6 ⟨rfl, hb6⟩
         go_wp2_with fail
         go_ret
         exact ⟨ret_i HVV.out.symm, bseq hbr5 hb6⟩
        ·obtain ⟨z, hz⟩ : ∃ z, szA enc x = z := ⟨_, rfl⟩
         rw [hz] at hc5 hzz hz4 hz0
         have hsn := szL_snoc enc (eput.take i) x
         rw [<- e5, hz, <- hS1] at hsn
         have hfp : fitP enc (eput.take (i + 1)) = true := by
          have h1 := hs1.out.2
          rw [e5]
          unfold fitP at h1 ⊢
          rw [List.all_append, h1]
          simp [hz, hzz]
         have q0 : (z == 0) = false := by simpa using hzz
         have HC5 := Lib.hid hc5
         have HSN := Lib.hid hsn
         have HFP := Lib.hid hfp
         clear hc5 hx hxi e5 hs1 hz hsn hfp hS1
         go_wp2_with fail
         refine (HC5.out).mono ?_
         rintro e w6 ⟨rfl, hb6⟩
         go_wp2_with fail
         go_roundg (eput.length - (i + 1))
         case measure => omega
         case rel => exact ⟨i + 1, S1 + z, by go_num, by rw [Int.add_assoc], Lib.hid ⟨HSN.out.symm, HFP.out⟩, by omega, bseq hbr5 hb6, by omega⟩
       ·have hie : i = eput.length := by omega
        subst hie
        have hs2 := hs1.out
        rw [List.take_length] at hs2
        have HS2 := Lib.hid hs2
        clear hs1 hs2
        go_wp2_with fail
        go_roundg (es.length - (j + 1))
        case measure => omega
        case rel =>
         refine ⟨j + 1, S + S1, by go_num, by rw [Int.add_assoc], Lib.hid ⟨?_, ?_⟩, by omega, hbr5, by omega⟩
         ·rw [HT3.out, putB_snoc, <- HS2.out.1, <- HSE.out]
         ·have h1 := HS3.out
          rw [HT3.out]
          unfold fitF at h1 ⊢
          rw [List.all_append, h1]
          simp [HS2.out.2]
     ·have hje : j = es.length := by omega
      subst hje
      have hs2 := hs.out
      rw [List.take_length] at hs2
      have hPB := putB_bd enc es
      have hSS := hs2.1
      rw [<- hSS] at hPB
      have HFIT := Lib.hid hs2.2
      have HSS := Lib.hid hSS
      clear hs hs2 hSS
      go_wp2_with fail
      go_loopg [78, 9] es.length (fun k q78 q9 wr => RefR4 ds (BY + S) es w k q78 q9 wr)
      case atStart => exact ⟨0, 0, rfl, by simp, Lib.hid ⟨by simp [remB], by simp⟩, by omega, hbr, by omega⟩
      case round =>
       obtain ⟨j, R, rfl, rfl, hs, hj4, hbr4, hgk4⟩ := hrel
       obtain ⟨w3, hw3⟩ : ∃ x, x = wr := ⟨_, rfl⟩
       subst hw3
       obtain ⟨hR, hRb⟩ := hs.out
       by_cases hlt4 : j < m
       ·obtain ⟨eb, eo, ed, rfl, hed, hD2, z0, z1, z2⟩ := (HE.out.below hbr4).at_ hlt4
        have hmem := List.mem_of_getElem? hed
        have hrng := ordF_mem es 0 ds.length HORD.out (Int.le_refl _) ed hmem
        have e3 := take_snoc es j ed hed
        have hrs := remB_snoc ds (es.take j) ed
        rw [<- e3, <- hR] at hrs
        have HRS := Lib.hid hrs
        obtain ⟨ef, et, eA, en, ec, eput⟩ := ed
        dsimp only at z0 z1 z2 hrng
        rw [HDL.out] at hrng
        have hb4 := balloc (o := .cells #[.int .i64 ef, .int .i64 et, .slice eA en ec] 80) hbr4
        have hB4 := Blk.new w3 80 #[.int .i64 ef, .int .i64 et, .slice eA en ec]
        clear hs e3 hed hmem hrs hR
        by_cases hft : ef < et
        ·have q1 : (ef < et) = True := by simpa using hft
         have ha1 := fun (w' : World) (hb : Below w.heap.size w w') => HKA.out et w' hb (by omega) (by omega)
         have ha2 := fun (w' : World) (hb : Below w.heap.size w w') => HKA.out ef w' hb (by omega) (by omega)
         have hr1 : rem1 ds ⟨ef, et, eA, en, ec, eput⟩ = (sumsOf (ds.take et.toNat)).bytes - (sumsOf (ds.take ef.toNat)).bytes := by unfold rem1; rw [if_pos hft]
         have hbd : ∀ x : Int, 0 <= (sumsOf (ds.take x.toNat)).bytes /\ (sumsOf (ds.take x.toNat)).bytes <= 1073741824 := by
          intro x
          have h1 := totB_dec HH.out.ok
          have h2 := sumsOf_good' ((decL_pos enc t.list).take x.toNat)
          have h3 := sumsOf_good' ((decL_pos enc t.list).drop x.toNat)
          have h4 : ((decL enc t.list).map Prod.snd).sum = (((decL enc t.list).take x.toNat).map Prod.snd).sum + (((decL enc t.list).drop x.toNat).map Prod.snd).sum := by
           rw [<- List.sum_append, <- List.map_append, List.take_append_drop]
          rw [HDS.out] at h1 h2 h3 h4
          obtain ⟨⟨_, _, h5, _⟩, _, h6⟩ := h2
          obtain ⟨⟨_, _, h7, _⟩, _, h8⟩ := h3
          omega
         have hbd1 := hbd et
         have hbd2 := hbd ef
         obtain ⟨S1, hS1⟩ : ∃ S1, sumsOf (ds.take et.toNat) = S1 := ⟨_, rfl⟩
         obtain ⟨S2, hS2⟩ : ∃ S2, sumsOf (ds.take ef.toNat) = S2 := ⟨_, rfl⟩
         rw [hS1] at ha1 hr1 hbd1
         rw [hS2] at ha2 hr1 hbd2
         have HR1 := Lib.hid hr1
         have k1 := field1 S1.atoms S1.bytes S1.breaks S1.lf S1.cr
         have k2 := field1 S2.atoms S2.bytes S2.breaks S2.lf S2.cr
         unfold Sums.cells at ha1 ha2
         have HA1 := Lib.hid ha1
         have HA2 := Lib.hid ha2
         obtain ⟨B1, hB1⟩ : ∃ B1, S1.bytes = B1 := ⟨_, rfl⟩
         obtain ⟨B2, hB2⟩ : ∃ B2, S2.bytes = B2 := ⟨_, rfl⟩
         rw [hB1] at HA1 HR1 hbd1 k1
         rw [hB2] at HA2 HR1 hbd2 k2
         have e8 : IntKind.i64.wrap (B1 - B2) = B1 - B2 := IntWalk.i64_in _ (by omega)
         have e9 : IntKind.i64.wrap (BY + S - R - (B1 - B2)) = BY + S - R - (B1 - B2) := IntWalk.i64_in _ (by omega)
         clear ha1 ha2 hr1 hS1 hS2 hbd hft hB1 hB2
         go_upto_region 28 with fail
         obtain ⟨w4, hw4⟩ : ∃ w4, w3.alloc (.cells #[.int .i64 ef, .int .i64 et, .slice eA en ec] 80) = w4 := ⟨_, rfl⟩
         rw [hw4] at hb4 hB4 ⊢
         clear hw4
         have hfc : ∀ w', Below w4.heap.size w4 w' -> w'.cell? ⟨w3.heap.size, 0, none⟩ = some (.int .i64 ef) /\ w'.cell? ⟨w3.heap.size, 1, none⟩ = some (.int .i64 et) := fun w' hb => ⟨(hB4.below hb).cell 0, (hB4.below hb).cell 1⟩
         have HFC := Lib.hid hfc
         clear hfc hB4
         refine wp_region_steady (fun w' => Below w4.heap.size w4 w') (by kernel_rfl) (by kernel_rfl) (Below.drew (Below.refl _ _)) ?_
         repeat ((first
          | (refine wpSt_read (v := ?_) (by rfl) (fun w6 hSw => ?_) ?_; rotate_left; (· (obtain ⟨y0, y1⟩ := HFC.out _ hSw; go_simp; try with_reducible rfl)))
          | refine wpSt_not (by rfl) ?_
          | (refine wpSt_call (f := ?_) (args := ?_) (v := .agg #[.int .i64 S1.atoms, .int .i64 B1, .int .i64 S1.breaks, .bool S1.lf, .bool S1.cr]) (by rfl) (fun w6 hSw => ?_) (fun w6 hSw => ?_) ?_; rotate_left 2; (· (obtain ⟨y0, y1⟩ := HFC.out _ hSw; go_simp; first | done | (constructor <;> with_reducible rfl) | with_reducible rfl)); (· ((with_reducible refine (HA1.out _ (bseq hb4 hSw)).mono ?_); rintro e w5 ⟨rfl, hb5⟩; exact ⟨rfl, bseq hSw hb5⟩)))
          | (refine wpSt_call (f := ?_) (args := ?_) (v := .agg #[.int .i64 S2.atoms, .int .i64 B2, .int .i64 S2.breaks, .bool S2.lf, .bool S2.cr]) (by rfl) (fun w6 hSw => ?_) (fun w6 hSw => ?_) ?_; rotate_left 2; (· (obtain ⟨y0, y1⟩ := HFC.out _ hSw; go_simp; first | done | (constructor <;> with_reducible rfl) | with_reducible rfl)); (· ((with_reducible refine (HA2.out _ (bseq hb4 hSw)).mono ?_); rintro e w5 ⟨rfl, hb5⟩; exact ⟨rfl, bseq hSw hb5⟩)))); (try simp only [Act.put, pA, pB, pC]))
         refine wpSt_nil ?_
         intro w5 hw5
         have hb5 := bseq hb4 hw5
         clear hw5 hb4
         go_wp2_with fail
         go_roundg (es.length - (j + 1))
         case measure => omega
         case rel =>
          exact ⟨j + 1, R + (B1 - B2), by go_num, by rw [Int.sub_sub], Lib.hid ⟨by rw [HRS.out, HR1.out], by omega⟩, by omega, hb5, by omega⟩
        ·have q1 : (ef < et) = False := by simpa using hft
         have hr1 : rem1 ds ⟨ef, et, eA, en, ec, eput⟩ = 0 := by unfold rem1; rw [if_neg hft]
         have HR1 := Lib.hid hr1
         clear hr1 hft hB4
         go_wp2_with fail
         go_roundg (es.length - (j + 1))
         case measure => omega
         case rel =>
          exact ⟨j + 1, R, by go_num, rfl, Lib.hid ⟨by rw [HRS.out, HR1.out, Int.add_zero], by omega⟩, by omega, hb4, by omega⟩
       ·have hje : j = es.length := by omega
        subst hje
        rw [List.take_length] at hR
        have c1 := (HH.out.below hbr4).blk.cell 1
        simp at c1
        have hv : V = if lim < BY + S - R then 50 else 0 := by
         rw [<- HV.out, HORD.out, HFIT.out, HBY.out, HSS.out, hR]
         simp
        have HVV := Lib.hid hv
        clear hs hR hv
        by_cases hl : lim < BY + S - R
        ·have q1 : (lim < BY + S - R) = True := eq_true hl
         rw [if_pos hl] at HVV
         clear hl
         go_wp2_with fail
         go_ret
         exact ⟨ret_i HVV.out.symm, hbr4⟩
        ·have q1 : (lim < BY + S - R) = False := eq_false hl
         rw [if_neg hl] at HVV
         clear hl
         go_wp2_with fail
         go_ret
         exact ⟨ret_i HVV.out.symm, hbr4⟩
def ed1 {α : Type} (f : Int -> α) (e : Ed) (l : List α) : List α := l.take e.f.toNat ++ e.put.map f ++ l.drop e.t.toNat
def edL {α : Type} (f : Int -> α) (es : List Ed) (l : List α) : List α := es.foldr (ed1 f) l
def edD (enc : Int) : List Ed -> List (Int × Int) -> List (Int × Int) := edL (fun x => (x, szA enc x))
def edA : List Ed -> List (Int × Int) -> List (Int × Int) := edL (fun x => (x, -1))
theorem edL_cons {α : Type} (f : Int -> α) (e : Ed) (es : List Ed) (l : List α) : edL f (e :: es) l = ed1 f e (edL f es l) := rfl
theorem edL_take {α : Type} (f : Int -> α) : ∀ (es : List Ed) (a : Int) (l : List α), ordF a l.length es = true -> 0 <= a -> a <= l.length -> (edL f es l).take a.toNat = l.take a.toNat := by
 intro es
 induction es with
 | nil => intro a l _ _ _; rfl
 | cons e r ih =>
  intro a l h h0 h1
  have hm := ordF_mem (e :: r) a l.length h h0 e List.mem_cons_self
  unfold ordF at h
  split at h
  ·cases h
  ·have hi := ih e.t l h (by omega) (by omega)
   rw [edL_cons]
   unfold ed1
   have h2 : (edL f r l).take e.f.toNat = l.take e.f.toNat := by
    have := congrArg (List.take e.f.toNat) hi
    rw [List.take_take, List.take_take, Nat.min_eq_left (by omega)] at this
    exact this
   rw [h2, List.append_assoc, List.take_append_of_le_length (by rw [List.length_take]; omega), List.take_take, Nat.min_eq_left (by omega)]
theorem edL_len {α : Type} (f : Int -> α) (es : List Ed) (a : Int) (l : List α) (h : ordF a l.length es = true) (h0 : 0 <= a) (h1 : a <= l.length) : a <= (edL f es l).length := by
 have := congrArg List.length (edL_take f es a l h h0 h1)
 rw [List.length_take, List.length_take] at this
 omega
theorem ed1_none {α : Type} (f : Int -> α) (e : Ed) (l : List α) (h0 : 0 <= e.f) (h : e.f = e.t) (hp : e.put = []) : ed1 f e l = l := by
 unfold ed1
 rw [hp, <- h, List.map_nil, List.append_nil, List.take_append_drop]
def szS (l : List (Int × Int)) : Int := (l.map Prod.snd).sum
theorem szS_app (a b : List (Int × Int)) : szS (a ++ b) = szS a + szS b := by unfold szS; rw [List.map_append, List.sum_append]
theorem szS_split (l : List (Int × Int)) (k : Nat) : szS l = szS (l.take k) + szS (l.drop k) := by rw [<- szS_app, List.take_append_drop]
theorem szS_pos {l : List (Int × Int)} (h : PosD l) : 0 <= szS l := by
 have h1 := sumsOf_good' h
 obtain ⟨⟨_, _, h4, _⟩, _, h5⟩ := h1
 unfold szS
 omega
theorem szS_mono {l : List (Int × Int)} (h : PosD l) (a b : Nat) (hab : a <= b) : szS (l.take a) <= szS (l.take b) := by
 have e : (l.take b).take a = l.take a := by rw [List.take_take, Nat.min_eq_left hab]
 have := szS_split (l.take b) a
 rw [e] at this
 have h2 := szS_pos ((h.take b).drop a)
 omega
theorem szS_bytes {l : List (Int × Int)} (h : PosD l) (k : Nat) : (sumsOf (l.take k)).bytes = szS (l.take k) := (sumsOf_good' (h.take k)).2.2
theorem rem1_sz {l : List (Int × Int)} (h : PosD l) (e : Ed) (hle : e.f <= e.t) : rem1 l e = szS (l.take e.t.toNat) - szS (l.take e.f.toNat) := by
 unfold rem1
 split
 ·rw [szS_bytes h, szS_bytes h]
 ·have : e.f = e.t := by omega
  rw [this]
  omega
theorem remB_le {l : List (Int × Int)} (hp : PosD l) : ∀ (es : List Ed) (a : Int), ordF a l.length es = true -> 0 <= a -> remB l es <= szS l - szS (l.take a.toNat) := by
 intro es
 induction es with
 | nil =>
  intro a _ _
  have := szS_split l a.toNat
  have := szS_pos (hp.drop a.toNat)
  unfold remB
  simp
  omega
 | cons e r ih =>
  intro a h h0
  have hm := ordF_mem (e :: r) a l.length h h0 e List.mem_cons_self
  unfold ordF at h
  split at h
  ·cases h
  ·have h1 := ih e.t h (by omega)
   have h2 := rem1_sz hp e hm.2.1
   have h3 := szS_mono hp a.toNat e.f.toNat (by omega)
   unfold remB at h1 ⊢
   rw [List.map_cons, List.sum_cons]
   omega
theorem withSz_sz (enc : Int) (xs : List Int) : szS (xs.map fun x => (x, szA enc x)) = szL_ enc xs := by
 unfold szS szL_
 rw [List.map_map]
 rfl
theorem edD_sz {enc : Int} {l : List (Int × Int)} (hp : PosD l) : ∀ (es : List Ed) (a : Int), ordF a l.length es = true -> 0 <= a -> szS (edD enc es l) = szS l + putB enc es - remB l es := by
 intro es
 induction es with
 | nil => intro a _ _; simp [edD, edL, putB, remB]
 | cons e r ih =>
  intro a h h0
  have hm := ordF_mem (e :: r) a l.length h h0 e List.mem_cons_self
  unfold ordF at h
  split at h
  ·cases h
  ·have h1 := ih e.t h (by omega)
   have h2 := rem1_sz hp e hm.2.1
   have h3 : (edD enc r l).take e.t.toNat = l.take e.t.toNat := edL_take _ r e.t l h (by omega) hm.2.2
   have h4 : (edD enc r l).take e.f.toNat = l.take e.f.toNat := by
    have := congrArg (List.take e.f.toNat) h3
    rw [List.take_take, List.take_take, Nat.min_eq_left (by omega)] at this
    exact this
   have h5 := szS_split (edD enc r l) e.t.toNat
   have e1 : edD enc (e :: r) l = ed1 (fun x => (x, szA enc x)) e (edD enc r l) := rfl
   rw [e1]
   unfold ed1
   rw [szS_app, szS_app, withSz_sz, h4]
   unfold putB remB at h1 ⊢
   rw [List.map_cons, List.sum_cons, List.map_cons, List.sum_cons]
   rw [h3] at h5
   omega
theorem fitF_mem {enc : Int} {es : List Ed} (h : fitF enc es = true) : ∀ e ∈ es, Fit enc e.put := by
 intro e he x hx
 unfold fitF at h
 have h1 := List.all_eq_true.1 h e he
 unfold fitP at h1
 have h2 := List.all_eq_true.1 h1 x hx
 have h3 := szA_ge enc x
 simp at h2
 omega
theorem szL_ge (enc : Int) (xs : List Int) (h : Fit enc xs) : (xs.length : Int) <= szL_ enc xs := by
 unfold szL_
 induction xs with
 | nil => simp
 | cons a xs ih =>
  have h1 := h a List.mem_cons_self
  have h2 := ih (fun x hx => h x (List.mem_cons_of_mem _ hx))
  simp only [List.map_cons, List.sum_cons, List.length_cons]
  omega
theorem putB_mem (enc : Int) (es : List Ed) : ∀ e ∈ es, szL_ enc e.put <= putB enc es := by
 induction es with
 | nil => intro e he; cases he
 | cons x r ih =>
  intro e he
  have h1 := szL_bd enc x.put
  have h2 := putB_bd enc r
  have e1 : putB enc (x :: r) = szL_ enc x.put + putB enc r := by unfold putB; simp
  rcases List.mem_cons.1 he with rfl | he
  ·omega
  ·have := ih e he; omega
theorem ordF_drop : ∀ (es : List Ed) (a size : Int) (i : Nat) (e : Ed), ordF a size es = true -> es[i]? = some e -> ordF e.t size (es.drop (i + 1)) = true := by
 intro es
 induction es with
 | nil => intro _ _ i e _ h; simp at h
 | cons x r ih =>
  intro a size i e h hi
  unfold ordF at h
  split at h
  ·cases h
  ·cases i with
   | zero =>
    simp at hi
    subst hi
    exact h
   | succ i => exact ih x.t size i e h (by simpa using hi)
theorem remB_ge {l : List (Int × Int)} (hp : PosD l) : ∀ (es : List Ed) (a : Int), ordF a l.length es = true -> 0 <= a -> 0 <= remB l es := by
 intro es
 induction es with
 | nil => intro a _ _; simp [remB]
 | cons e r ih =>
  intro a h h0
  have hm := ordF_mem (e :: r) a l.length h h0 e List.mem_cons_self
  unfold ordF at h
  split at h
  ·cases h
  ·have h1 := ih e.t h (by omega)
   have h2 := rem1_sz hp e hm.2.1
   have h3 := szS_mono hp e.f.toNat e.t.toNat (by omega)
   unfold remB at h1 ⊢
   rw [List.map_cons, List.sum_cons]
   omega
theorem putB_cons (enc : Int) (e : Ed) (es : List Ed) : putB enc (e :: es) = szL_ enc e.put + putB enc es := by unfold putB; simp
theorem putB_drop (enc : Int) (es : List Ed) (k : Nat) : putB enc (es.drop k) <= putB enc es := by
 have e : putB enc es = putB enc (es.take k) + putB enc (es.drop k) := by
  conv => lhs; rw [<- List.take_append_drop k es]
  unfold putB
  rw [List.map_append, List.sum_append]
 have := (putB_bd enc (es.take k)).1
 omega
theorem putL_sz (enc : Int) (xs : List Int) (h : Fit enc xs) : ((putL enc xs).length : Int) = szL_ enc xs := by
 rw [putL_len enc xs h]
 unfold withSz szL_
 rw [List.map_map]
 rfl
theorem refF_ok {enc lim : Int} {ds : List (Int × Int)} {es : List Ed} (hp : PosD ds) (h : refF enc lim ds es = 0) (hl : lim <= 65536) (hs : szS ds <= 65536) :
  es.length <= 70000 /\ ordF 0 ds.length es = true /\ fitF enc es = true /\ putB enc es <= 131072 /\ szS (edD enc es ds) <= lim := by
 unfold refF at h
 split at h
 ·cases h
 ·rename_i h1
  split at h
  ·cases h
  ·rename_i h2
   split at h
   ·cases h
   ·rename_i h3
    split at h
    ·cases h
    ·rename_i h4
     have h2' : ordF 0 ds.length es = true := by simpa using h2
     have h3' : fitF enc es = true := by simpa using h3
     have h5 := edD_sz (enc := enc) hp es 0 h2' (Int.le_refl _)
     have h6 := remB_le hp es 0 h2' (Int.le_refl _)
     have h7 : (sumsOf ds).bytes = szS ds := (sumsOf_good' hp).2.2
     have h8 : szS (ds.take (0 : Int).toNat) = 0 := by simp [szS]
     rw [h7] at h4
     exact ⟨by omega, h2', h3', by omega, by omega⟩
theorem sk_uniq {ds : List (Int × Int)} (hp : PosD ds) {k p : Nat} (h0 : 0 < k) (hk : k <= totE ds) (he : isE (ds.map Prod.fst) p = true) (hc : cntE (ds.map Prod.fst) p = k) : sk ds k = p := by
 obtain ⟨_, h2, h3⟩ := sk_spec hp h0 hk
 rcases Nat.lt_trichotomy (sk ds k) p with h | h | h
 ·have := cntE_lt (ds.map Prod.fst) h he
  omega
 ·exact h
 ·have := cntE_lt (ds.map Prod.fst) h h2
  omega
def abE (e : Ed) : Int × Int × List Int := (e.f, e.t, e.put)
theorem sk_mono {ds : List (Int × Int)} (hp : PosD ds) {i j : Nat} (h : i < j) (hj : j <= totE ds) : sk ds i < sk ds j := by
 induction j with
 | zero => omega
 | succ j ih =>
  have h1 := sk_lt hp (k := j) (by omega)
  rcases Nat.lt_or_ge i j with h2 | h2
  ·have := ih h2 (by omega)
   omega
  ·rw [show i = j by omega]
   exact h1
def ChgR (B g : Nat) (enc lim : Int) (n : Nat) (add : Value) (xs : List Value) (ds ats : List (Int × Int)) (es : List Ed) (w : World) (k : Nat) (q6 : Value) (wr : World) : Prop :=
 ∃ (j : Nat) (add' : Value) (n' : Nat) (xs' : List Value), q6 = .int .i64 ((j : Int) - 1) /\ Hid (ReplR g add add' n n' B xs xs' enc lim (edD enc (es.drop j) ds) (edA (es.drop j) ats) w wr) /\ (n' : Int) <= n + putB enc (es.drop j) /\ j <= es.length /\ j <= k
def ChgPost (B g : Nat) (enc lim : Int) (n : Nat) (add : Value) (xs : List Value) (ds ats : List (Int × Int)) (es : List Ed) (w w' : World) : Prop :=
 ∃ (add' : Value) (n' : Nat) (xs' : List Value), ReplR g add add' n n' B xs xs' enc lim (edD enc es ds) (edA es ats) w w' /\ n' <= n + 131072
theorem ReplR.below {B g : Nat} {enc lim : Int} {n n' : Nat} {add add' : Value} {xs xs' : List Value} {ds ats : List (Int × Int)} {w w1 w2 : World} (h : ReplR g add add' n n' B xs xs' enc lim ds ats w w1) (hr : w.ownsRow B 5 1 add n xs) (hb : Below w1.heap.size w1 w2) : ReplR g add add' n n' B xs xs' enc lim ds ats w w2 := by
 obtain ⟨t, a, h1, h2, h3, h4⟩ := h
 exact ⟨t, a, h1.below hb, h2.loc (S := No) (Fr.of_below hb) (fun _ hs => hs.elim) hr, h3, h4⟩
theorem change_any (B g : Nat) (enc lim : Int) (n : Nat) (add : Value) (t : Tr) (a : Option Addr) (xs : List Value) (D : Nat -> Prop) (A : Option Addr) (m c : Nat) (es : List Ed) (w : World) (h : TextM w B g enc lim n add t a xs) (he : EdsAt w D A m es) (hD : ∀ b, D b -> b ≠ g /\ add.ownBlock ≠ some b) (hp : putN es <= 268435456)
    (hlim : lim <= 65536) (hsz : szS (decL enc t.list) <= 65536) (hn : n + 131072 <= 1073741824) :
    Calls Tryz.prog 130 #[.pointer (some ⟨g, 0, none⟩), .slice A m c] w fun e w' => e = .returned (.int .i64 (refF enc lim (decL enc t.list) es)) /\ (refF enc lim (decL enc t.list) es ≠ 0 -> Below w.heap.size w w') /\
      (refF enc lim (decL enc t.list) es = 0 -> ChgPost B g enc lim n add xs (decL enc t.list) (atsL enc t.list) es w w') := by
  have hK := refuse_any Any D g enc lim t a add A m c es w h.text he hp
  have hml := he.len
  have hdpos := decL_pos enc t.list
  obtain ⟨D', hDD⟩ : ∃ D' : Nat -> Prop, D' = fun b => D b /\ b < w.heap.size := ⟨_, rfl⟩
  have he' : EdsAt w D' A m es := he.more (fun b h1 h2 => by rw [hDD]; exact ⟨h1, h2⟩)
  have hD' : ∀ b, D' b -> b ≠ g /\ add.ownBlock ≠ some b /\ b < w.heap.size := fun b hb => by
    rw [hDD] at hb
    exact ⟨(hD b hb.1).1, (hD b hb.1).2, hb.2⟩
  clear hDD hD he
  by_cases hz : refF enc lim (decL enc t.list) es = 0
  · obtain ⟨o1, o2, o3, o4, o5⟩ := refF_ok hdpos hz hlim hsz
    rw [hz] at hK ⊢
    have hL := h.text.decLen
    have hal : (atsL enc t.list).length = (decL enc t.list).length := atsL_len enc _
    obtain ⟨ds, hds⟩ : ∃ ds, decL enc t.list = ds := ⟨_, rfl⟩
    obtain ⟨ats, hats⟩ : ∃ ats, atsL enc t.list = ats := ⟨_, rfl⟩
    rw [hds] at hL hal hdpos o2 o5 hsz ⊢
    rw [hats] at hal ⊢
    have HK := Lib.hid hK
    have HH := Lib.hid h
    have HE := Lib.hid he'
    have HORD := Lib.hid o2
    have HFIT := Lib.hid o3
    have HDS := Lib.hid hds
    have HATS := Lib.hid hats
    have HAL := Lib.hid hal
    clear hK h he' o2 o3 hds hats hz hal
    go_enter Tryz.func130, Tryz.ntmps130
    go_wp2_with fail
    refine (HK.out).mono ?_
    rintro e w1 ⟨rfl, hb1⟩
    have e1 : IntKind.i64.wrap ((m : Int) - 1) = (m : Int) - 1 := IntWalk.i64_in _ (by omega)
    go_wp2_with fail
    go_loopg [6] es.length (fun k q6 wr => ChgR B g enc lim n add xs ds ats es w k q6 wr)
    case atStart =>
      refine ⟨m, add, n, xs, rfl, Lib.hid ⟨t, a, HH.out.below hb1, TStep.below HH.out.row hb1, ?_, ?_⟩, ?_, by omega, by omega⟩
      · rw [<- hml, List.drop_length]
        exact HDS.out
      · rw [<- hml, List.drop_length]
        exact HATS.out
      · rw [<- hml, List.drop_length]
        simp [putB]
    case round =>
      obtain ⟨j, add', n', xs', rfl, hR, hnn, hj, hgk⟩ := hrel
      obtain ⟨w2, hw2⟩ : ∃ x, x = wr := ⟨_, rfl⟩
      subst hw2
      by_cases hj0 : 0 < j
      · have q1 : ((0 : Int) <= (j : Int) - 1) = True := by simp; omega
        obtain ⟨i, rfl⟩ : ∃ i, j = i + 1 := ⟨j - 1, by omega⟩
        obtain ⟨t2, a2, hT2, hS2, hd2, ha2⟩ := hR.out
        have hE2 := HE.out.fr hS2.fr (fun b hb _ hs => hs.elim (fun e => (hD' b hb).1 e) (fun e => (hD' b hb).2.1 e))
        obtain ⟨eb, eo, ed, rfl, hed, hD2, z0, z1, z2⟩ := hE2.at_ (show i < m by omega)
        have hmem := List.mem_of_getElem? hed
        have hput := hE2.put ed hmem
        have hrng := ordF_mem es 0 ds.length HORD.out (Int.le_refl _) ed hmem
        have hfit := fitF_mem HFIT.out ed hmem
        have hpb := putB_mem enc es ed hmem
        have hge := szL_ge enc ed.put hfit
        have hdr : es.drop i = ed :: es.drop (i + 1) := by
          rw [List.getElem?_eq_getElem (by omega)] at hed
          injection hed with hed
          rw [List.drop_eq_getElem_cons (by omega), hed]
        have hordd := ordF_drop es 0 ds.length i ed HORD.out hed
        have hcl := edL_len (fun x => (x, szA enc x)) (es.drop (i + 1)) ed.t ds hordd (by omega) hrng.2.2
        have hsz2 := edD_sz (enc := enc) hdpos (es.drop (i + 1)) ed.t hordd (by omega)
        have hrm := remB_ge hdpos (es.drop (i + 1)) ed.t hordd (by omega)
        have hpd := putB_drop enc es (i + 1)
        have hpl := putL_sz enc ed.put hfit
        have hput1 := hput.len
        have htb := totB_dec hT2.tree.pcs.ok
        rw [hd2] at htb
        have hb3 : Below w2.heap.size w2 (w2.alloc (.cells #[.int .i64 ed.f, .int .i64 ed.t, .slice ed.A ed.n ed.c] 80)) := balloc (Below.refl _ _)
        have hT3 := hT2.below hb3
        have hown : ∀ b, D' b -> b ≠ g /\ add'.ownBlock ≠ some b := fun b hb => ⟨(hD' b hb).1, fun hh => by
          rcases hS2.own b hh with h1 | h1
          · exact (hD' b hb).2.1 h1
          · have := (hD' b hb).2.2; omega⟩
        have hcc : ed.t <= ((decL enc t2.list).length : Int) := by rw [hd2]; exact hcl
        have hbyt2 : szS (edD enc (es.drop (i + 1)) ds) = ((edD enc (es.drop (i + 1)) ds).map Prod.snd).sum := rfl
        have hsz3 : totB t2.list <= 196608 := by
          have e0 : edL (fun x => (x, szA enc x)) (es.drop (i + 1)) ds = edD enc (es.drop (i + 1)) ds := rfl
          omega
        have hpc : putB enc (es.drop i) = szL_ enc ed.put + putB enc (es.drop (i + 1)) := by rw [hdr, putB_cons]
        have hpd0 := putB_drop enc es i
        have hrp := repl_any B g enc lim n' add' t2 a2 xs' ed.f ed.t ed.put D' ed.A ed.n ed.c _ hT3 (by omega) hrng.2.1 hcc (Reads.below hput hb3) hown hfit (by omega) (by omega) (by omega)
        have hjoin : ∀ w4 add2, ReplR g add' add2 n' (n' + (putL enc ed.put).length) B xs' (xs' ++ (putL enc ed.put).map (Value.int .u8)) enc lim ((decL enc t2.list).take ed.f.toNat ++ withSz enc ed.put ++ (decL enc t2.list).drop ed.t.toNat) ((atsL enc t2.list).take ed.f.toNat ++ ed.put.map (fun x => (x, -1)) ++ (atsL enc t2.list).drop ed.t.toNat) (w2.alloc (.cells #[.int .i64 ed.f, .int .i64 ed.t, .slice ed.A ed.n ed.c] 80)) w4 ->
            ReplR g add add2 n (n' + (putL enc ed.put).length) B xs (xs' ++ (putL enc ed.put).map (Value.int .u8)) enc lim (edD enc (es.drop i) ds) (edA (es.drop i) ats) w w4 := by
          rintro w4 add2 ⟨t4, a4, r1, r2, r3, r4⟩
          refine ⟨t4, a4, r1, (hS2.loc (S := No) (Fr.of_below hb3) (fun _ hs => hs.elim) HH.out.row).trans r2 HH.out.row HH.out.ne, ?_, ?_⟩
          · rw [r3, hd2, hdr]
            rfl
          · rw [r4, ha2, hdr]
            rfl
        have hsame : ed.f = ed.t -> ed.put = [] -> ReplR g add add' n n' B xs xs' enc lim (edD enc (es.drop i) ds) (edA (es.drop i) ats) w (w2.alloc (.cells #[.int .i64 ed.f, .int .i64 ed.t, .slice ed.A ed.n ed.c] 80)) := by
          intro h1 h2
          have h3 := hR.out.below HH.out.row hb3
          have e1 : edD enc (es.drop i) ds = edD enc (es.drop (i + 1)) ds := by rw [hdr]; exact ed1_none _ ed _ (by omega) h1 h2
          have e2 : edA (es.drop i) ats = edA (es.drop (i + 1)) ats := by rw [hdr]; exact ed1_none _ ed _ (by omega) h1 h2
          rw [e1, e2]
          exact h3
        have hpz : 0 <= szL_ enc ed.put := (szL_bd enc ed.put).1
        have hbn : ((n' + (putL enc ed.put).length : Nat) : Int) <= n + putB enc (es.drop i) := by omega
        have hbn0 : (n' : Int) <= n + putB enc (es.drop i) := by omega
        have hlen0 : ed.put.length = ed.n := hput1
        have hempty : ed.n = 0 -> ed.put = [] := fun h => List.eq_nil_of_length_eq_zero (by omega)
        have hft := hrng.2.1
        have e6 : (((i + 1 : Nat) : Int) - 1) = (i : Int) := by omega
        have e7 : IntKind.i64.wrap ((i : Int) - 1) = (i : Int) - 1 := IntWalk.i64_in _ (by omega)
        have q0 : ((0 : Int) <= (i : Int)) = True := by simp
        obtain ⟨ef, et, eA, en, ec, eput⟩ := ed
        dsimp only at z0 z1 z2 hrp hjoin hsame hbn hft hempty
        rw [e6]
        have HRP := Lib.hid hrp
        have HJ := Lib.hid hjoin
        have HSM := Lib.hid hsame
        have HBN := Lib.hid hbn
        have HBN0 := Lib.hid hbn0
        have HEM := Lib.hid hempty
        clear hrp hjoin hsame hbn hbn0 hempty hdr hed hmem hput hfit hcl hsz2 hrm hpd hpl htb hT3 hown hcc hbyt2 hpc hpz e6 q1 hR hT2 hS2 hd2 ha2 hE2 hordd hlen0 hput1 hrng hsz3 hpb hge hb3 hpd0
        by_cases hc1 : ef < et
        · have q1 : (ef < et) = True := eq_true hc1
          clear hc1
          go_wp2_with fail
          refine (HRP.out).mono ?_
          rintro e w4 ⟨rfl, add2, hR4⟩
          have HR4 := Lib.hid (HJ.out _ _ hR4)
          clear hR4
          go_wp2_with fail
          go_roundg i
          case measure => omega
          case rel => exact ⟨i, add2, _, _, rfl, HR4, HBN.out, by omega, by omega⟩
        · have q1 : (ef < et) = False := eq_false hc1
          by_cases hc2 : 0 < en
          · have q2 : ((0 : Int) < (en : Int)) = True := by simp; omega
            have q3 : (0 < en) = True := by simp; omega
            clear hc1 hc2
            go_wp2_with fail
            refine (HRP.out).mono ?_
            rintro e w4 ⟨rfl, add2, hR4⟩
            have HR4 := Lib.hid (HJ.out _ _ hR4)
            clear hR4
            go_wp2_with fail
            go_roundg i
            case measure => omega
            case rel => exact ⟨i, add2, _, _, rfl, HR4, HBN.out, by omega, by omega⟩
          · have q2 : ((0 : Int) < (en : Int)) = False := by simp; omega
            have q3 : (0 < en) = False := by simp; omega
            have HS4 := Lib.hid (HSM.out (by omega) (HEM.out (by omega)))
            clear hc1 hc2 HRP HJ HSM
            go_wp2_with fail
            go_roundg i
            case measure => omega
            case rel => exact ⟨i, add', n', xs', rfl, HS4, HBN0.out, by omega, by omega⟩
      · have hj0' : j = 0 := by omega
        subst hj0'
        rw [List.drop_zero] at hR hnn
        have hc : ChgPost B g enc lim n add xs ds ats es w w2 := ⟨add', n', xs', hR.out, by omega⟩
        have HC := Lib.hid hc
        clear hc
        go_wp2_with fail
        go_ret
        exact ⟨rfl, fun h => absurd rfl h, fun _ => HC.out⟩
  · obtain ⟨E, hE⟩ : ∃ E, refF enc lim (decL enc t.list) es = E := ⟨_, rfl⟩
    rw [hE] at hK hz ⊢
    have q2 : (E != 0) = true := by rw [bne_iff_ne]; exact hz
    have HK := Lib.hid hK
    have HZ := Lib.hid hz
    clear hK hE hz h he'
    go_enter Tryz.func130, Tryz.ntmps130
    go_wp2_with fail
    refine (HK.out).mono ?_
    rintro e w1 ⟨rfl, hb1⟩
    go_wp2_with fail
    go_ret
    exact ⟨rfl, fun _ => hb1, fun h => absurd h HZ.out⟩
theorem run_equalIn_self {P : Program} (w : World) (d : Nat) (t e : TypeId) (a : Addr) (i : TypeInfo) (h : P.underlying t = some (.pointer e)) (hi : P.info? e = some i) (hs : i.size ≠ 0) :
  (Op.equalIn (d + 1) t (.pointer (some a)) (.pointer (some a))).run P w = .ok true w := by
 simp [Op.equalIn, run_underlying h, sizeOf, typeInfo, hi, hs, sameAddr]
theorem run_neq_self {P : Program} (w : World) (t e : TypeId) (a : Addr) (i : TypeInfo) (h : P.underlying t = some (.pointer e)) (hi : P.info? e = some i) (hs : i.size ≠ 0) :
  (binOp .neq t (.pointer (some a)) (.pointer (some a))).run P w = .ok (.bool false) w := by
 have h1 : (Op.equal t (.pointer (some a)) (.pointer (some a))).run P w = .ok true w := run_equalIn_self w 9999 t e a i h hi hs
 simp only [binOp]
 simp [h1]
def SnapAt (w : World) (g : Nat) (add : Value) (n : Nat) (enc : Int) (s : Nat) (ats : List (Int × Int)) : Prop :=
 ∃ t a, Blk w s 170 #[.pointer (some ⟨g, 0, none⟩), .pointer a] /\ TreeIn w add n enc t a /\ atsL enc t.list = ats /\ szS (decL enc t.list) <= 65536
theorem snap_any (B g : Nat) (enc lim : Int) (n : Nat) (add : Value) (t : Tr) (a : Option Addr) (xs : List Value) (w : World) (h : TextM w B g enc lim n add t a xs) (hs : szS (decL enc t.list) <= 65536) :
  Calls Tryz.prog 122 #[.pointer (some ⟨g, 0, none⟩)] w fun e w' => ∃ s, e = .returned (.pointer (some ⟨s, 0, none⟩)) /\ SnapAt w' g add n enc s (atsL enc t.list) /\ w.heap.size <= s /\ Below w.heap.size w w' := by
 have c2 := h.blk.cell 2
 simp at c2
 have hb : Below w.heap.size w (w.alloc (.cells #[.pointer (some ⟨g, 0, none⟩), .pointer a] 170)) := balloc (Below.refl _ _)
 have HH := Lib.hid h
 have HS := Lib.hid hs
 clear h hs
 go_enter Tryz.func122, Tryz.ntmps122
 go_wp2_with fail
 go_ret
 exact ⟨_, rfl, ⟨t, a, Blk.new w _ _, (HH.out.below hb).tree, rfl, HS.out⟩, Nat.le_refl _, hb⟩
theorem text_row : ∃ i, Tryz.prog.info? 139 = some i /\ True /\ i.size = 4 /\ True := by
 have h : (Tryz.prog.info? 139).map (fun i => i.size) = some 4 := by kernel_rfl
 obtain ⟨i, hi, hs⟩ := Option.map_eq_some_iff.1 h
 exact ⟨i, hi, trivial, hs, trivial⟩
theorem tback_any (g s : Nat) (cs : Array Value) (a2 : Option Addr) (w : World) (hg : Blk w g 139 cs) (h2 : ∃ v, cs[2]? = some v) (hs : Blk w s 170 #[.pointer (some ⟨g, 0, none⟩), .pointer a2]) :
  Calls Tryz.prog 56 #[.pointer (some ⟨g, 0, none⟩), .pointer (some ⟨s, 0, none⟩)] w fun e w' => e = .returned (.int .i64 0) /\ w' = w.setCell ⟨g, 2, none⟩ (.pointer a2) := by
 obtain ⟨v, h2⟩ := h2
 have c0 := hs.cell 0
 have c1 := hs.cell 1
 have c2 := hg.cell 2
 have f2 := hg.frozen 2
 rw [h2] at c2
 simp at c0 c1
 obtain ⟨ti, hti, -, hsz, -⟩ := text_row
 have hne := fun (w : World) => run_neq_self w 59 139 ⟨g, 0, none⟩ ti Tryz.underlying59 hti (by rw [hsz]; decide)
 go_enter Tryz.func56, Tryz.ntmps56
 go_wp2_with fail
 go_ret
 exact ⟨rfl, rfl⟩
theorem inside_any (gb g : Nat) (cs : Array Value) (D : Nat -> Prop) (enc : Int) (ds : List (Int × Int)) (x : Int) (w : World) (hb : Blk w gb 87 cs) (h0 : cs[0]? = some (.pointer (some ⟨g, 0, none⟩))) (ht : TextAt w D g enc ds) :
  Calls Tryz.prog 120 #[.pointer (some ⟨gb, 0, none⟩), .int .i64 x] w fun e w' => e = .returned (.bool (decide (0 <= x /\ x <= (ds.length : Int)))) /\ Below w.heap.size w w' := by
 have c0 := hb.cell 0
 rw [h0] at c0
 have hk := len_any D g enc ds w ht
 have HK := Lib.hid hk
 clear hk
 by_cases hx : 0 <= x
 ·have q : ((0 : Int) <= x) = True := eq_true hx
  go_enter Tryz.func120, Tryz.ntmps120
  go_wp2_with fail
  refine (HK.out).mono ?_
  rintro e w1 ⟨rfl, hb1⟩
  go_wp2_with fail
  go_ret
  refine ⟨ret_b ?_, hb1⟩
  simp [hx]
 ·have q : ((0 : Int) <= x) = False := eq_false hx
  go_enter Tryz.func120, Tryz.ntmps120
  go_wp2_with fail
  go_ret
  refine ⟨ret_b ?_, Below.refl _ _⟩
  simp [hx]
theorem isOpen_any (gb : Nat) (cs : Array Value) (p : Option Addr) (w : World) (hb : Blk w gb 87 cs) (h6 : cs[6]? = some (.pointer p)) :
  Calls Tryz.prog 73 #[.pointer (some ⟨gb, 0, none⟩)] w fun e w' => e = .returned (.bool p.isSome) /\ w = w' := by
 have c6 := hb.cell 6
 rw [h6] at c6
 cases p with
 | none =>
  go_enter Tryz.func73, Tryz.ntmps73
  go_wp2_with fail
  go_ret
  exact ⟨rfl, rfl⟩
 | some p =>
  go_enter Tryz.func73, Tryz.ntmps73
  go_wp2_with fail
  go_ret
  exact ⟨rfl, rfl⟩
def RowT (w : World) (N : Nat) (T : TypeId) (size : Nat) (A : Option Addr) (n : Nat) (xs : List Value) : Prop :=
 xs.length = n * size /\ (0 < n -> ∃ b o cs, A = some ⟨b, o, none⟩ /\ b < N /\ Blk w b T cs /\ ∀ j u, xs[j]? = some u -> cs[o + j]? = some u)
def KeepTy (N : Nat) (T : TypeId) (w w' : World) : Prop := ∀ b cs, b < N -> Blk w b T cs -> Blk w' b T cs
section
variable {w w' w'' : World} {N N' size n : Nat} {T : TypeId} {A : Option Addr} {xs : List Value}
theorem RowT.keep (h : RowT w N T size A n xs) (hk : KeepTy N T w w') : RowT w' N T size A n xs := by
 refine ⟨h.1, fun hn => ?_⟩
 obtain ⟨b, o, cs, e, hb, hc, hx⟩ := h.2 hn
 exact ⟨b, o, cs, e, hb, hk b cs hb hc, hx⟩
theorem RowT.mono (h : RowT w N T size A n xs) (hN : N <= N') : RowT w N' T size A n xs := by
 refine ⟨h.1, fun hn => ?_⟩
 obtain ⟨b, o, cs, e, hb, hc, hx⟩ := h.2 hn
 exact ⟨b, o, cs, e, Nat.lt_of_lt_of_le hb hN, hc, hx⟩
theorem RowT.of_own {B c : Nat} (h : w.ownsRow B T size (.slice A n c) n xs) (hN : w.heap.size <= N) : RowT w N T size A n xs := by
 refine ⟨h.1, fun hn => ?_⟩
 rcases h.2 with ⟨_, h0⟩ | ⟨g, cap, cur, e, _, hg, _, _, _, ht⟩
 ·omega
 ·injection e with e1 e2 e3
  subst e1
  have hb : Blk w g T cur := hg
  refine ⟨g, 0, cur, rfl, Nat.lt_of_lt_of_le hb.lt hN, hb, fun j u hu => ?_⟩
  rw [<- ht, List.getElem?_take] at hu
  split at hu
  ·rw [Nat.zero_add]
   simpa using hu
  ·cases hu
theorem KeepTy.trans (h : KeepTy N T w w') (k : KeepTy N T w' w'') : KeepTy N T w w'' := fun b cs hb hc => k b cs hb (h b cs hb hc)
theorem KeepTy.below (h : Below w.heap.size w w') : KeepTy N T w w' := fun _ _ _ hc => hc.below h
theorem KeepTy.fr {S : Nat -> Prop} (hf : Fr S w w') (hS : ∀ b cs, b < N -> S b -> ¬ Blk w b T cs) : KeepTy N T w w' := fun b cs hb hc => hc.fr hf (fun hs => hS b cs hb hs hc)
end
structure Mv where
 f : Int
 t : Int
 n : Int
def Mv.cells (e : Mv) : Array Value := #[.int .i64 e.f, .int .i64 e.t, .int .i64 e.n]
def mvFlat (l : List Mv) : List Value := l.flatMap fun e => e.cells.toList
structure Gr where
 before : List (Int × Int)
 behind : List (Int × Int)
 bgn : Int
 fin : Int
 moves : List (List Mv)
 old : Int
 fresh : Int
def MvRows (w : World) (N : Nat) (vs : List Value) (mvs : List (List Mv)) : Prop := vs.length = mvs.length /\ ∀ (i : Nat) (v : Value) (mv : List Mv), vs[i]? = some v -> mvs[i]? = some mv -> ∃ A m c, v = Value.slice A m c /\ m <= c /\ RowT w N 174 3 A m (mvFlat mv) /\ mv.length = m
structure GKeep (N : Nat) (add add' : Value) (n n' : Nat) (enc : Int) (w w' : World) : Prop where
 gr : KeepTy N 101 w w'
 sn : KeepTy N 170 w w'
 rows : KeepTy N 103 w w'
 mvs : KeepTy N 174 w w'
 tree : ∀ t a, TreeIn w add n enc t a -> TreeIn w' add' n' enc t a
def SnapB (w : World) (N g : Nat) (add : Value) (n : Nat) (enc : Int) (s : Nat) (ats : List (Int × Int)) : Prop := s < N /\ SnapAt w g add n enc s ats
def GrAt (w : World) (N g : Nat) (add : Value) (n : Nat) (enc : Int) (p : Nat) (G : Gr) : Prop :=
 ∃ s1 s2 A m c vs, p < N /\ Blk w p 101 #[.pointer (some ⟨s1, 0, none⟩), .pointer (some ⟨s2, 0, none⟩), .int .i64 G.bgn, .int .i64 G.fin, .slice A m c, .int .i64 G.old, .int .i64 G.fresh] /\
  SnapB w N g add n enc s1 G.before /\ SnapB w N g add n enc s2 G.behind /\ RowT w N 103 1 A m vs /\ m <= c /\ MvRows w N vs G.moves /\ m <= 1073741824
section
variable {w w' w'' : World} {N N' g n n' n'' : Nat} {add add' add'' : Value} {enc : Int}
theorem GKeep.below {B : Nat} {xs : List Value} {cs : Array Value} (hr : w.ownsRow B 5 1 add n xs) (hg : Blk w g 139 cs) (h : Below w.heap.size w w') : GKeep N add add n n enc w w' :=
 ⟨KeepTy.below h, KeepTy.below h, KeepTy.below h, KeepTy.below h, fun _ _ ht => ht.step (g := g) (TStep.below hr h) hr hg⟩
theorem GKeep.trans (h : GKeep N add add' n n' enc w w') (k : GKeep N add' add'' n' n'' enc w' w'') : GKeep N add add'' n n'' enc w w'' :=
 ⟨h.gr.trans k.gr, h.sn.trans k.sn, h.rows.trans k.rows, h.mvs.trans k.mvs, fun t a ht => k.tree t a (h.tree t a ht)⟩
theorem GKeep.step {B : Nat} {xs : List Value} {cs : Array Value} (hs : TStep g add add' n n' w w') (hr : w.ownsRow B 5 1 add n xs) (hg : Blk w g 139 cs) : GKeep N add add' n n' enc w w' := by
 have key : ∀ T : TypeId, T ≠ 139 -> T ≠ 5 -> KeepTy N T w w' := fun T h1 h2 => KeepTy.fr hs.fr (fun b cs _ hs hb => by
  rcases hs with rfl | hs
  ·exact Blk.ne_ hb hg h1 rfl
  ·exact own_blk_ne hr hb (Ne.symm h2) hs)
 exact ⟨key _ (by decide) (by decide), key _ (by decide) (by decide), key _ (by decide) (by decide), key _ (by decide) (by decide), fun _ _ ht => ht.step hs hr hg⟩
def Far2 (w : World) (N k : Nat) : Prop := Far w k /\ ∀ T cs, Blk w k T cs -> (T ≠ 101 /\ T ≠ 170 /\ T ≠ 103 /\ T ≠ 174) \/ N <= k
theorem GKeep.far {S : Nat -> Prop} (hf : Fr S w w') (hS : ∀ k, k < w.heap.size -> S k -> Far2 w N k) : GKeep N add add n n enc w w' := by
 have key : ∀ T : TypeId, (T = 101 \/ T = 170 \/ T = 103 \/ T = 174) -> KeepTy N T w w' := fun T hT => KeepTy.fr hf (fun b cs hb hs hc => by
  rcases (hS b hc.lt hs).2 T cs hc with ⟨h1, h2, h3, h4⟩ | h5
  ·rcases hT with rfl | rfl | rfl | rfl
   ·exact h1 rfl
   ·exact h2 rfl
   ·exact h3 rfl
   ·exact h4 rfl
  ·omega)
 exact ⟨key _ (.inl rfl), key _ (.inr (.inl rfl)), key _ (.inr (.inr (.inl rfl))), key _ (.inr (.inr (.inr rfl))), fun _ _ ht => ht.far hf (fun k h1 h2 => (hS k h1 h2).1)⟩
theorem Far2.blk {T : TypeId} {cs : Array Value} {k : Nat} (h : Blk w k T cs) (h1 : (T ≠ 139 /\ T ≠ 196 /\ T ≠ 5) /\ T ≠ 101 /\ T ≠ 170 /\ T ≠ 103 /\ T ≠ 174) : Far2 w N k :=
 ⟨Far.blk h h1.1, fun T' cs' h' => .inl (by
  have : T' = T := by
   unfold Blk at h h'
   rw [h] at h'
   injection h' with h'
   injection h' with _ h'
   exact h'.symm
  rw [this]
  exact h1.2)⟩
theorem Far2.new {T : TypeId} {cs : Array Value} {k : Nat} (h : Blk w k T cs) (h1 : T ≠ 139 /\ T ≠ 196 /\ T ≠ 5) (hN : N <= k) : Far2 w N k := ⟨Far.blk h h1, fun _ _ _ => .inr hN⟩
theorem SnapB.keep {s : Nat} {ats : List (Int × Int)} (h : SnapB w N g add n enc s ats) (hk : GKeep N add add' n n' enc w w') : SnapB w' N g add' n' enc s ats := by
 obtain ⟨hs, t, a, h1, h2, h3⟩ := h
 exact ⟨hs, t, a, hk.sn s _ hs h1, hk.tree t a h2, h3⟩
theorem MvRows.keep {vs : List Value} {mvs : List (List Mv)} (h : MvRows w N vs mvs) (hk : KeepTy N 174 w w') : MvRows w' N vs mvs := by
 refine ⟨h.1, fun i v mv hv hm => ?_⟩
 obtain ⟨A, m, c, e, hc, hr, hl⟩ := h.2 i v mv hv hm
 exact ⟨A, m, c, e, hc, hr.keep hk, hl⟩
theorem GrAt.keep {p : Nat} {G : Gr} (h : GrAt w N g add n enc p G) (hk : GKeep N add add' n n' enc w w') : GrAt w' N g add' n' enc p G := by
 obtain ⟨s1, s2, A, m, c, vs, hp, h1, h2, h3, h4, h5, h6, h7⟩ := h
 exact ⟨s1, s2, A, m, c, vs, hp, hk.gr p _ hp h1, h2.keep hk, h3.keep hk, h4.keep hk.rows, h5, h6.keep hk.mvs, h7⟩
theorem SnapB.mono {s : Nat} {ats : List (Int × Int)} (h : SnapB w N g add n enc s ats) (hN : N <= N') : SnapB w N' g add n enc s ats := ⟨Nat.lt_of_lt_of_le h.1 hN, h.2⟩
theorem MvRows.mono {vs : List Value} {mvs : List (List Mv)} (h : MvRows w N vs mvs) (hN : N <= N') : MvRows w N' vs mvs := by
 refine ⟨h.1, fun i v mv hv hm => ?_⟩
 obtain ⟨A, m, c, e, hc, hr, hl⟩ := h.2 i v mv hv hm
 exact ⟨A, m, c, e, hc, hr.mono hN, hl⟩
theorem GrAt.mono {p : Nat} {G : Gr} (h : GrAt w N g add n enc p G) (hN : N <= N') : GrAt w N' g add n enc p G := by
 obtain ⟨s1, s2, A, m, c, vs, hp, h1, h2, h3, h4, h5, h6, h7⟩ := h
 exact ⟨s1, s2, A, m, c, vs, Nat.lt_of_lt_of_le hp hN, h1, h2.mono hN, h3.mono hN, h4.mono hN, h5, h6.mono hN, h7⟩
end
def StackAt (w : World) (N B g : Nat) (add : Value) (n : Nat) (enc : Int) (v : Value) (Gs : List Gr) : Prop :=
 ∃ ps : List Nat, w.ownsRow B 96 1 v ps.length (ps.map fun p => Value.pointer (some ⟨p, 0, none⟩)) /\ ps.length = Gs.length /\ (∀ (i p : Nat) (G : Gr), ps[i]? = some p -> Gs[i]? = some G -> GrAt w N g add n enc p G) /\ Gs.length <= 1048576
theorem StackAt.keep {w w' : World} {N N' B g n n' : Nat} {add add' v : Value} {enc : Int} {Gs : List Gr} (h : StackAt w N B g add n enc v Gs) (hk : GKeep N add add' n n' enc w w') (hN : N <= N')
  (ho : ∀ m xs, w.ownsRow B 96 1 v m xs -> w'.ownsRow B 96 1 v m xs) : StackAt w' N' B g add' n' enc v Gs := by
 obtain ⟨ps, h1, h2, h3, h4⟩ := h
 exact ⟨ps, ho _ _ h1, h2, fun i p G hp hG => ((h3 i p G hp hG).keep hk).mono hN, h4⟩
theorem own_fr' {w w' : World} {B e size n : Nat} {S : Nat -> Prop} {v : Value} {xs : List Value} (h : w.ownsRow B e size v n xs) (hf : Fr S w w') (hn : ∀ b cs, S b -> ¬ Blk w b e cs) : w'.ownsRow B e size v n xs :=
 own_fr h hf (fun b hb hs => by
  rcases h.2 with ⟨rfl, _⟩ | ⟨r, c, cur, rfl, _, h2, _⟩
  ·cases hb
  ·have : r = b := by simpa [Value.ownBlock] using hb
   subst this
   exact hn r cur hs h2)
theorem TextM.far {w w' : World} {B g n : Nat} {enc lim : Int} {add : Value} {t : Tr} {a : Option Addr} {xs : List Value} {S : Nat -> Prop} (h : TextM w B g enc lim n add t a xs) (hf : Fr S w w') (hS : ∀ k, k < w.heap.size -> S k -> Far w k) : TextM w' B g enc lim n add t a xs :=
 ⟨h.blk.fr hf (fun hs => (hS g h.blk.lt hs).ne (.inl rfl) h.blk rfl), own_fr' h.row hf (fun b cs hs hb => (hS b hb.lt hs).ne (.inr (.inr rfl)) hb rfl), h.enc4, Nat.le_trans h.base hf.size, h.tree.far hf hS⟩
def MapE (w : World) (mb r : Nat) : Prop := EmptyMap w r /\ r ≠ mb /\ mb < w.heap.size
section
variable {w w' : World} {mb r : Nat}
theorem MapE.lt (h : MapE w mb r) : r < w.heap.size := h.1.lt
theorem MapE.below (h : MapE w mb r) (hb : Below w.heap.size w w') : MapE w' mb r := ⟨h.1.below hb, h.2.1, Nat.lt_of_lt_of_le h.2.2 hb.size⟩
theorem MapE.fr {S : Nat -> Prop} (h : MapE w mb r) (hb : Fr S w w') (hn : ¬ S r) : MapE w' mb r := ⟨h.1.fr hb hn, h.2.1, Nat.lt_of_lt_of_le h.2.2 hb.size⟩
theorem MapE.alloc (h : MapE w mb r) (o : Obj) : MapE (w.alloc o) mb r := h.below (balloc (Below.refl _ _))
theorem MapE.far (h : MapE w mb r) {p : Addr} (hp : r ≠ p.block) (u : Value) : MapE (w.setCell p u) mb r := ⟨h.1.far hp u, h.2.1, by simpa [World.setCell] using h.2.2⟩
theorem MapE.ne_blk {g : Nat} {T : TypeId} {cs : Array Value} (h : MapE w mb r) (hb : Blk w g T cs) : r ≠ g := h.1.ne_blk hb
end
structure OpS where
 before : List (Int × Int)
 bgn : Int
 moves : List (List Mv)
 old : Int
 changed : Bool
def OpenAt (w : World) (N B g : Nat) (add : Value) (n : Nat) (enc : Int) (mb p : Nat) (o : OpS) : Prop :=
 ∃ s m vm vs, Blk w p 198 #[.pointer (some ⟨s, 0, none⟩), .pointer none, .int .i64 o.bgn, .int .i64 0, vm, .int .i64 o.old, .int .i64 0, .map (some m), .slice none 0 0, .bool o.changed] /\ MapE w mb m /\ SnapB w N g add n enc s o.before /\
  w.ownsRow N 103 1 vm vs.length vs /\ MvRows w w.heap.size vs o.moves /\ o.moves.length <= 1048576
structure BkS where
 ats : List (Int × Int)
 undo : List Gr
 redo : List Gr
 now : Option OpS
 state : Int
 saved : Int
 last : Int
 depth : Int
 mb : Nat := 0
structure BkAt (w : World) (N B gb g : Nat) (enc lim : Int) (n : Nat) (add : Value) (st : BkS) (t : Tr) (a : Option Addr) (xs : List Value) (m : Nat) (vu vr : Value) (now : Option Addr) : Prop where
 blk : Blk w gb 87 #[.pointer (some ⟨g, 0, none⟩), .int .i64 st.depth, vu, vr, .map (some m), .slice none 0 0, .pointer now, .int .i64 st.state, .int .i64 st.saved, .int .i64 st.last]
 text : TextM w B g enc lim n add t a xs
 ats : atsL enc t.list = st.ats
 sz : szS (decL enc t.list) <= 65536
 lim0 : lim <= 65536
 map : MapE w st.mb m
 undo : StackAt w N B g add n enc vu st.undo
 redo : StackAt w N B g add n enc vr st.redo
 sep : ∀ b, vu.ownBlock = some b -> vr.ownBlock ≠ some b
 open_ : match st.now with | none => now = none | some o => ∃ p, now = some ⟨p, 0, none⟩ /\ OpenAt w N B g add n enc st.mb p o
 nle : N <= w.heap.size
 nums : 0 <= st.last /\ st.last <= 1073741824 /\ 1 <= st.depth /\ st.depth <= 200
 low : B <= gb /\ B <= g /\ B <= N /\ ∀ p, now = some ⟨p, 0, none⟩ -> B <= p
def BookTy (T : TypeId) : Prop := T = 139 \/ T = 5 \/ T = 87 \/ T = 198 \/ T = 103 \/ T = 96
def BkFr (B : Nat) (w w' : World) : Prop := Fr (fun b => B <= b /\ ∃ T cs, Blk w b T cs /\ BookTy T) w w'
theorem BkFr.refl (B : Nat) (w : World) : BkFr B w w := Fr.refl _ _
theorem BkFr.below {B : Nat} {w w' : World} (h : Below w.heap.size w w') : BkFr B w w' := Fr.of_below h
theorem BkFr.trans {B : Nat} {w w' w'' : World} (h : BkFr B w w') (k : BkFr B w' w'') : BkFr B w w'' := by
 refine ⟨k.os.trans h.os, k.tape.trans h.tape, k.output.trans h.output, Nat.le_trans h.size k.size, fun i hi hn => ?_⟩
 have h1 := h.block i hi hn
 refine (k.block i (Nat.lt_of_lt_of_le hi h.size) (fun hs => ?_)).trans h1
 obtain ⟨hB, T, cs, hb, hT⟩ := hs
 exact hn ⟨hB, T, cs, h1.symm.trans hb, hT⟩
theorem BkFr.blk {B : Nat} {w w' : World} {b : Nat} {T : TypeId} {cs : Array Value} (h : BkFr B w w') (hb : Blk w b T cs) (hT : ¬ BookTy T) : Blk w' b T cs := hb.fr h (fun hs => by
 obtain ⟨-, T', cs', hb', hT'⟩ := hs
 have : T = T' := by
  unfold Blk at hb hb'
  rw [hb] at hb'
  injection hb' with hb'
  injection hb' with _ hb'
 exact hT (this ▸ hT'))
theorem OwnB.low {w : World} {B e size n y : Nat} {v : Value} {xs : List Value} (h : OwnB v y) (ho : w.ownsRow B e size v n xs) : B <= y := by
 rcases ho.2 with ⟨e0, _⟩ | ⟨r, c, cur, e0, h1, _⟩
 ·unfold OwnB at h; rw [e0] at h; cases h
 ·unfold OwnB at h
  rw [e0] at h
  have : r = y := by simpa [Value.ownBlock] using h
  omega
theorem BkFr.of_fr {B : Nat} {w w' : World} {S : Nat -> Prop} (h : Fr S w w') (hS : ∀ b, b < w.heap.size -> S b -> B <= b /\ ∃ T cs, Blk w b T cs /\ BookTy T) : BkFr B w w' := h.more hS
theorem follow_none (w : World) (gb m : Nat) (cs : Array Value) (l : Value) (hb : Blk w gb 87 cs) (h4 : cs[4]? = some (.map (some m))) (h5 : cs[5]? = some (.slice none 0 0)) (hm : EmptyMap w m) :
  Calls Tryz.prog 57 #[.pointer (some ⟨gb, 0, none⟩), l] w fun e w' => e = .returned (.tuple #[]) /\ Below w.heap.size w w' := by
 have c4 := hb.cell 4
 rw [h4] at c4
 have hx := EmptyMap.range (t := 84) hm Tryz.underlying84
 have hy := EmptyMap.next hm 0
 have c5 := (hb.alloc (.mapIter (some m) 0 #[] 0)).cell 5
 rw [h5] at c5
 clear hb h4 h5
 go_enter Tryz.func57, Tryz.ntmps57
 go_wp2_with fail
 refine wp_loop_rounds 1 ?_
 rw [rounds_succ]
 go_wp2_with fail
 refine wp_loop_rounds 1 ?_
 rw [rounds_succ]
 go_wp2_with fail
 show bodyPost _ _ _ _ _ _
 refine bodyPost_end (results_none rfl _ _ _) rfl ?_
 exact ⟨rfl, balloc (Below.refl _ _)⟩
end Go.Proofs.YtkoakanpaehkmaaGreatDoor
