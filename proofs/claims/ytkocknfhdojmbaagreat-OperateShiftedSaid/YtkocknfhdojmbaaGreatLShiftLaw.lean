/-
  What putting atoms ahead of lines makes of a text, and taking them away again (plain).
-/
import Derived.Test.YtkocknfhdojmbaaGreatLRepl
import Derived.Test.YtkocknfhdojmbaaGreatLMove4
import Derived.Test.YtkocknfhdojmbaaGreatLSame
import Derived.Test.YtkocknfhdojmbaaGreatLLineLaw
set_option linter.unusedSimpArgs false
set_option linter.unusedVariables false
set_option maxRecDepth 100000
set_option maxHeartbeats 32000000
namespace Go.Proofs.YtkocknfhdojmbaaGreat
open Go.RowKit
structure Ed where
 f : Int
 t : Int
 A : Option Addr
 n : Nat
 c : Nat
 put : List Int
def Ed.cells (e : Ed) : Array Value := #[.int .i64 e.f, .int .i64 e.t, .slice e.A e.n e.c]
structure EdsAt (w : World) (D : Nat -> Prop) (A : Option Addr) (m : Nat) (es : List Ed) : Prop where
 rds : Reads w D 3 A m (es.flatMap fun e => e.cells.toList)
 put : ∀ e ∈ es, Ints w D e.A e.n e.put
theorem flat3 (es : List Ed) : (es.flatMap fun e => e.cells.toList).length = es.length * 3 := by
 induction es with
 | nil => rfl
 | cons p ps ih => rw [List.flatMap_cons, List.length_append, ih]; simp [Ed.cells]; omega
theorem EdsAt.len {w : World} {D : Nat -> Prop} {A : Option Addr} {m : Nat} {es : List Ed} (h : EdsAt w D A m es) : es.length = m := by
 have := h.rds.1
 rw [flat3] at this
 omega
theorem flat3_at (es : List Ed) (k : Nat) (hk : k < es.length) (j : Nat) (hj : j < 3) : (es.flatMap fun e => e.cells.toList)[k * 3 + j]? = es[k].cells[j]? := by
 induction es generalizing k with
 | nil => simp at hk
 | cons p ps ih =>
  rw [List.flatMap_cons]
  cases k with
  | zero =>
   rw [List.getElem?_append_left (by simp [Ed.cells]; omega)]
   simp
  | succ k =>
   rw [List.getElem?_append_right (by simp [Ed.cells]; omega)]
   have := ih k (by simpa using hk)
   simp only [List.getElem_cons_succ]
   rw [<- this]
   congr 1
   simp [Ed.cells]
   omega
theorem EdsAt.at_ {w : World} {D : Nat -> Prop} {A : Option Addr} {m k : Nat} {es : List Ed} (h : EdsAt w D A m es) (hk : k < m) : ∃ b o e, A = some ⟨b, o, none⟩ /\ es[k]? = some e /\ D b /\ w.cell? ⟨b, o + k * 3, none⟩ = some (.int .i64 e.f) /\ w.cell? ⟨b, o + k * 3 + 1, none⟩ = some (.int .i64 e.t) /\ w.cell? ⟨b, o + k * 3 + 2, none⟩ = some (.slice e.A e.n e.c) := by
 have hl := h.len
 obtain ⟨ad, e, hd, hc⟩ := h.rds.2 (by omega)
 have hkl : k < es.length := by omega
 have hs := cell_spot (hc 0 (.int .i64 es[0].f) (by have := flat3_at es 0 (by omega) 0 (by omega); simp only [Nat.zero_mul, Nat.add_zero] at this; rw [this]; rfl))
 rw [add_zero] at hs
 refine ⟨ad.block, ad.off, es[k], by rw [e, <- hs], List.getElem?_eq_getElem hkl, hd, ?_, ?_, ?_⟩
 ·have := hc (k * 3 + 0) (.int .i64 es[k].f) (by rw [flat3_at es k hkl 0 (by omega)]; rfl)
  rw [hs, add_cell] at this
  exact this
 ·have := hc (k * 3 + 1) (.int .i64 es[k].t) (by rw [flat3_at es k hkl 1 (by omega)]; rfl)
  rw [hs, add_cell] at this
  rw [Nat.add_assoc]
  exact this
 ·have := hc (k * 3 + 2) (.slice es[k].A es[k].n es[k].c) (by rw [flat3_at es k hkl 2 (by omega)]; rfl)
  rw [hs, add_cell] at this
  rw [Nat.add_assoc]
  exact this
theorem EdsAt.below {w w' : World} {D : Nat -> Prop} {A : Option Addr} {m : Nat} {es : List Ed} (h : EdsAt w D A m es) (hb : Below w.heap.size w w') : EdsAt w' D A m es :=
 ⟨Reads.below h.rds hb, fun e he => Reads.below (h.put e he) hb⟩
theorem EdsAt.more {w : World} {D D' : Nat -> Prop} {A : Option Addr} {m : Nat} {es : List Ed} (h : EdsAt w D A m es) (hD : ∀ b, D b -> b < w.heap.size -> D' b) : EdsAt w D' A m es :=
 ⟨Reads.more h.rds hD (by decide), fun e he => Reads.more (h.put e he) hD (by decide)⟩
theorem EdsAt.fr {w w' : World} {D S : Nat -> Prop} {A : Option Addr} {m : Nat} {es : List Ed} (h : EdsAt w D A m es) (hf : Fr S w w') (hd : ∀ b, D b -> b < w.heap.size -> ¬ S b) : EdsAt w' D A m es :=
 ⟨Reads.fr h.rds hf hd, fun e he => Reads.fr (h.put e he) hf hd⟩
def ordF : Int -> Int -> List Ed -> Bool
 | _, _, [] => true
 | a, size, e :: r => if e.f < a \/ e.t < e.f \/ size < e.t then false else ordF e.t size r
def fitP (enc : Int) (l : List Int) : Bool := l.all fun a => szA enc a != 0
def fitF (enc : Int) (es : List Ed) : Bool := es.all fun e => fitP enc e.put
def szL_ (enc : Int) (l : List Int) : Int := (l.map (szA enc)).sum
def putB (enc : Int) (es : List Ed) : Int := (es.map fun e => szL_ enc e.put).sum
def rem1 (ds : List (Int × Int)) (e : Ed) : Int := if e.f < e.t then (sumsOf (ds.take e.t.toNat)).bytes - (sumsOf (ds.take e.f.toNat)).bytes else 0
def remB (ds : List (Int × Int)) (es : List Ed) : Int := (es.map (rem1 ds)).sum
def refF (enc lim : Int) (ds : List (Int × Int)) (es : List Ed) : Int :=
 if 70000 < es.length then 3 else if ordF 0 ds.length es = false then 2 else if fitF enc es = false then 11 else if lim < (sumsOf ds).bytes + putB enc es - remB ds es then 50 else 0
theorem ordF_mem : ∀ (es : List Ed) (a size : Int), ordF a size es = true -> 0 <= a -> ∀ e ∈ es, a <= e.f /\ e.f <= e.t /\ e.t <= size := by
 intro es
 induction es with
 | nil => intro _ _ _ _ e he; cases he
 | cons x r ih =>
  intro a size h h0 e he
  unfold ordF at h
  split at h
  ·cases h
  ·rename_i hc
   rcases List.mem_cons.1 he with rfl | he
   ·omega
   ·have := ih x.t size h (by omega) e he
    omega
theorem szA_ge (enc a : Int) : 0 <= szA enc a := by
 unfold szA sz8 sz16 szL
 repeat' split
 all_goals omega
theorem szL_bd (enc : Int) (l : List Int) : 0 <= szL_ enc l /\ szL_ enc l <= 4 * l.length := by
 unfold szL_
 induction l with
 | nil => simp
 | cons a l ih =>
  have h1 := szA_ge enc a
  have h2 := szA_le enc a
  simp only [List.map_cons, List.sum_cons, List.length_cons]
  omega
theorem szL_snoc (enc : Int) (l : List Int) (a : Int) : szL_ enc (l ++ [a]) = szL_ enc l + szA enc a := by unfold szL_; simp
theorem putB_snoc (enc : Int) (es : List Ed) (e : Ed) : putB enc (es ++ [e]) = putB enc es + szL_ enc e.put := by unfold putB; simp
theorem remB_snoc (ds : List (Int × Int)) (es : List Ed) (e : Ed) : remB ds (es ++ [e]) = remB ds es + rem1 ds e := by unfold remB; simp
def putN (es : List Ed) : Nat := (es.map fun e => e.put.length).sum
theorem putN_snoc (es : List Ed) (e : Ed) : putN (es ++ [e]) = putN es + e.put.length := by unfold putN; simp
theorem putB_bd (enc : Int) (es : List Ed) : 0 <= putB enc es /\ putB enc es <= 4 * putN es := by
 unfold putB putN
 induction es with
 | nil => simp
 | cons e es ih =>
  have := szL_bd enc e.put
  simp only [List.map_cons, List.sum_cons]
  omega
theorem putN_take (es : List Ed) (k : Nat) : putN (es.take k) <= putN es := by
 conv => rhs; rw [<- List.take_append_drop k es]
 unfold putN
 rw [List.map_append, List.sum_append]
 omega
theorem take_snoc {α : Type} (l : List α) (k : Nat) (x : α) (h : l[k]? = some x) : l.take (k + 1) = l.take k ++ [x] := by rw [List.take_add_one, h]; rfl
def RefR1 (ds : List (Int × Int)) (es : List Ed) (w : World) (k : Nat) (q24 q5 : Value) (wr : World) : Prop :=
 ∃ (j : Nat) (a : Int), q24 = .int .i64 (j : Int) /\ q5 = .int .i64 a /\ Hid (ordF a ds.length (es.drop j) = ordF 0 ds.length es) /\ j <= es.length /\ Below w.heap.size w wr /\ es.length - j <= k
def RefR2 (enc BY : Int) (es : List Ed) (w : World) (k : Nat) (q52 q9 : Value) (wr : World) : Prop :=
 ∃ (j : Nat) (S : Int), q52 = .int .i64 (j : Int) /\ q9 = .int .i64 (BY + S) /\ Hid (S = putB enc (es.take j) /\ fitF enc (es.take j) = true) /\ j <= es.length /\ Below w.heap.size w wr /\ es.length - j <= k
def RefR4 (ds : List (Int × Int)) (BS : Int) (es : List Ed) (w : World) (k : Nat) (q78 q9 : Value) (wr : World) : Prop :=
 ∃ (j : Nat) (R : Int), q78 = .int .i64 (j : Int) /\ q9 = .int .i64 (BS - R) /\ Hid (R = remB ds (es.take j) /\ -(1073741824 * (j : Int)) <= R /\ R <= 1073741824 * (j : Int)) /\ j <= es.length /\ Below w.heap.size w wr /\ es.length - j <= k
def RefR3 (enc BS : Int) (put : List Int) (w : World) (k : Nat) (q59 q9 : Value) (wr : World) : Prop :=
 ∃ (i : Nat) (S : Int), q59 = .int .i64 (i : Int) /\ q9 = .int .i64 (BS + S) /\ Hid (S = szL_ enc (put.take i) /\ fitP enc (put.take i) = true) /\ i <= put.length /\ Below w.heap.size w wr /\ put.length - i <= k
theorem refuse_any (D D2 : Nat -> Prop) (g : Nat) (enc lim : Int) (t : Tr) (a : Option Addr) (add : Value) (A : Option Addr) (m c : Nat) (es : List Ed) (w : World) (h : TextIn w D g enc lim t a add) (he : EdsAt w D2 A m es) (hp : putN es <= 268435456) :
  Calls Tryz.prog 151 #[.pointer (some ⟨g, 0, none⟩), .slice A m c] w fun e w' => e = .returned (.int .i64 (refF enc lim (decL enc t.list) es)) /\ Below w.heap.size w w' := by
 have hml := he.len
 have hta : TextAt w D g enc (decL enc t.list) := ⟨lim, t, a, add, h, rfl⟩
 have hKL := len_any D g enc _ w hta
 have hKS := fun (w' : World) (hb : Below w.heap.size w w') => size_any D g enc _ w' (hta.below hb)
 have hdl := h.decLen
 have htot := h.tot
 obtain ⟨ds, hds⟩ : ∃ ds, decL enc t.list = ds := ⟨_, rfl⟩
 have hKA := fun (x : Int) (w' : World) (hb : Below w.heap.size w w') (h0 : 0 <= x) (h1 : x <= (ds.length : Int)) => ahead_any D g enc lim t a add x w' (h.below hb) h0 (by rw [hds]; exact h1)
 have hby : 0 <= (sumsOf ds).bytes /\ (sumsOf ds).bytes <= 1073741824 := by
  have h1 := totB_dec h.ok
  have h2 := sumsOf_good' (decL_pos enc t.list)
  rw [hds] at h1 h2
  obtain ⟨⟨_, _, h4, _⟩, _, h5⟩ := h2
  omega
 rw [hds] at hKL hKS hKA hdl ⊢
 have HDS := Lib.hid hds
 by_cases hlen : 70000 < es.length
 ·have e1 : refF enc lim ds es = 3 := by unfold refF; rw [if_pos hlen]
  rw [e1]
  have q : ((70000 : Int) < (m : Int)) = True := by simp; omega
  clear hKL hKS hKA e1
  go_enter Tryz.func151, Tryz.ntmps151
  go_wp2_with fail
  go_ret
  exact ⟨rfl, Below.refl _ _⟩
 ·have q : ((70000 : Int) < (m : Int)) = False := by simp; omega
  have hrf : refF enc lim ds es = if ordF 0 ds.length es = false then 2 else if fitF enc es = false then 11 else if lim < (sumsOf ds).bytes + putB enc es - remB ds es then 50 else 0 := by unfold refF; rw [if_neg hlen]
  rw [hrf]
  obtain ⟨V, hV⟩ : ∃ V : Int, (if ordF 0 ds.length es = false then 2 else if fitF enc es = false then 11 else if lim < (sumsOf ds).bytes + putB enc es - remB ds es then 50 else 0) = V := ⟨_, rfl⟩
  rw [hV]
  have HV := Lib.hid hV
  obtain ⟨DL, hDL⟩ : ∃ DL, ds.length = DL := ⟨_, rfl⟩
  rw [hDL] at hKL hKA hdl
  have HDL := Lib.hid hDL
  have HKL := Lib.hid hKL
  have HKS := Lib.hid hKS
  have HKA := Lib.hid hKA
  have HE := Lib.hid he
  have HH := Lib.hid h
  clear hKL hKS hKA hrf he h hta hds hV hDL
  go_enter Tryz.func151, Tryz.ntmps151
  go_wp2_with fail
  refine (HKL.out).mono ?_
  rintro e w1 ⟨rfl, hb1⟩
  go_wp2_with fail
  go_loopg [24, 5] es.length (fun k q24 q5 wr => RefR1 ds es w k q24 q5 wr)
  case atStart => exact ⟨0, 0, rfl, rfl, Lib.hid rfl, by omega, hb1, by omega⟩
  case round =>
   obtain ⟨j, at_, rfl, rfl, ho, hj, hbr, hgk⟩ := hrel
   by_cases hlt : j < m
   ·obtain ⟨eb, eo, ed, rfl, hed, hD2, z0, z1, z2⟩ := (HE.out.below hbr).at_ hlt
    obtain ⟨ef, et, eA, en, ec, eput⟩ := ed
    dsimp only at z0 z1 z2
    have hdr : es.drop j = ⟨ef, et, eA, en, ec, eput⟩ :: es.drop (j + 1) := by
     rw [List.drop_eq_getElem_cons (by omega)]
     rw [List.getElem?_eq_getElem (by omega)] at hed
     injection hed with hed
     rw [hed]
    have hfo : ordF at_ ds.length (es.drop j) = if ef < at_ \/ et < ef \/ (ds.length : Int) < et then false else ordF et ds.length (es.drop (j + 1)) := by rw [hdr]; rfl
    have HO : Hid (ordF 0 ds.length es = if ef < at_ \/ et < ef \/ (ds.length : Int) < et then false else ordF et ds.length (es.drop (j + 1))) := Lib.hid (by rw [<- ho.out]; exact hfo)
    clear hfo hdr ho hed HH
    rw [HDL.out] at HO
    have hcs : ((ef < at_) = True) \/ ((ef < at_) = False /\ (((et < ef) = True) \/ ((et < ef) = False /\ (((DL : Int) < et) = True \/ ((DL : Int) < et) = False)))) := by
     simp only [eq_iff_iff, iff_true, iff_false]
     omega
    rcases hcs with q1 | ⟨q1, q2 | ⟨q2, q3 | q3⟩⟩
    ·go_wp2_with fail
     go_ret
     exact ⟨ret_i (by rw [<- HV.out, HDL.out, if_pos (by rw [HO.out, if_pos (.inl (of_eq_true q1))])]), balloc hbr⟩
    ·go_wp2_with fail
     go_ret
     exact ⟨ret_i (by rw [<- HV.out, HDL.out, if_pos (by rw [HO.out, if_pos (.inr (.inl (of_eq_true q2)))])]), balloc hbr⟩
    ·go_wp2_with fail
     go_ret
     exact ⟨ret_i (by rw [<- HV.out, HDL.out, if_pos (by rw [HO.out, if_pos (.inr (.inr (of_eq_true q3)))])]), balloc hbr⟩
    ·go_wp2_with fail
     go_roundg (es.length - (j + 1))
     case measure => omega
     case rel =>
      refine ⟨j + 1, et, by go_num, rfl, Lib.hid ?_, by omega, balloc hbr, by omega⟩
      rw [HDL.out, HO.out, if_neg (by
       rintro (h | h | h)
       ·exact (of_eq_false q1) h
       ·exact (of_eq_false q2) h
       ·exact (of_eq_false q3) h)]
   ·have hjm : j = es.length := by omega
    subst hjm
    have hord : ordF 0 ds.length es = true := by
     have := ho.out
     rw [List.drop_length] at this
     exact this.symm
    have hK2 := HKS.out _ hbr
    obtain ⟨BY, hBY⟩ : ∃ BY, (sumsOf ds).bytes = BY := ⟨_, rfl⟩
    have HBY := Lib.hid hBY
    rw [hBY] at hK2 hby
    have HK2 := Lib.hid hK2
    have HORD := Lib.hid hord
    clear hK2 hord ho hBY HKS HKL
    go_wp2_with fail
    refine (HK2.out).mono ?_
    rintro e w2 ⟨rfl, hb2⟩
    have hW2 := bseq hbr hb2
    clear hb2 hbr HK2
    go_wp2_with fail
    go_loopg [52, 9] es.length (fun k q52 q9 wr => RefR2 enc BY es w k q52 q9 wr)
    case atStart => exact ⟨0, 0, rfl, by simp, Lib.hid ⟨by simp [putB], rfl⟩, by omega, hW2, by omega⟩
    case round =>
     obtain ⟨j, S, rfl, rfl, hs, hj, hbr, hgk⟩ := hrel
     obtain ⟨w3, hw3⟩ : ∃ x, x = wr := ⟨_, rfl⟩
     subst hw3
     obtain ⟨k1, hk1⟩ : ∃ x, x = gk := ⟨_, rfl⟩
     subst hk1
     by_cases hlt : j < m
     ·obtain ⟨eb, eo, ed, rfl, hed, hD2, z0, z1, z2⟩ := (HE.out.below hbr).at_ hlt
      have hmem := List.mem_of_getElem? hed
      have hput := HE.out.put ed hmem
      have hnf : ∀ x ∈ ed.put, szA enc x = 0 -> fitF enc es = false := by
       intro x hx hz
       unfold fitF
       rw [List.all_eq_false]
       refine ⟨ed, hmem, ?_⟩
       unfold fitP
       simp only [List.all_eq_true, bne_iff_ne, ne_eq, Classical.not_forall, Decidable.not_not]
       exact ⟨x, hx, hz⟩
      have hN1 := putB_bd enc (es.take j)
      have hN2 := putN_take es j
      have hN3 := putN_take es (j + 1)
      have e3 := take_snoc es j ed hed
      rw [e3, putN_snoc] at hN3
      have hS := hs.out.1
      rw [<- hS] at hN1
      have HSE := Lib.hid hS
      clear hS
      have HT3 := Lib.hid e3
      have HS3 := Lib.hid hs.out.2
      obtain ⟨ef, et, eA, en, ec, eput⟩ := ed
      dsimp only at z0 z1 z2 hput hN3 hnf
      have HNF := Lib.hid hnf
      clear hnf
      have hpl := hput.len
      have HPUT := Lib.hid hput
      clear hs e3 hput hed hmem
      go_wp2_with fail
      have hb4 := balloc (o := .cells #[.int .i64 ef, .int .i64 et, .slice eA en ec] 96) hbr
      go_loopg [59, 9] eput.length (fun k q59 q9 wr => RefR3 enc (BY + S) eput w k q59 q9 wr)
      case atStart => exact ⟨0, 0, rfl, by simp, Lib.hid ⟨rfl, rfl⟩, by omega, hb4, by omega⟩
      case round =>
       obtain ⟨i, S1, rfl, rfl, hs1, hi, hbr5, hgk5⟩ := hrel
       by_cases hlt5 : i < en
       ·obtain ⟨ad5, rfl, _, c5⟩ := Ints.at_ (Reads.below HPUT.out hbr5) hlt5
        obtain ⟨x, hx⟩ : ∃ x, eput.getD i 0 = x := ⟨_, rfl⟩
        have hxi : eput[i]? = some x := by
         rw [<- hx, List.getD_eq_getElem?_getD, List.getElem?_eq_getElem (by omega)]
         rfl
        rw [hx] at c5
        have e5 := take_snoc eput i x hxi
        have hc5 := csize_any enc x wr HH.out.enc4
        have hz4 := szA_le enc x
        have hz0 := szA_ge enc x
        have hs5 := szL_bd enc (eput.take i)
        rw [List.length_take] at hs5
        have hS1 := hs1.out.1
        rw [<- hS1] at hs5
        obtain ⟨t0, -⟩ := (HH.out.below hbr5).cells
        by_cases hzz : szA enc x = 0
        ·have hv : V = 11 := by
          rw [<- HV.out, HORD.out, HNF.out x (List.mem_of_getElem? hxi) hzz]
          simp
         have HVV := Lib.hid hv
         rw [hzz] at hc5
         have HC5 := Lib.hid hc5
         clear hv hc5 hx hxi e5 hS1 hs1
         go_wp2_with fail
         refine (HC5.out).mono ?_
         rintro e w6 ⟨rfl, hb6⟩
         go_wp2_with fail
         go_ret
         exact ⟨ret_i HVV.out.symm, bseq hbr5 hb6⟩
        ·obtain ⟨z, hz⟩ : ∃ z, szA enc x = z := ⟨_, rfl⟩
         rw [hz] at hc5 hzz hz4 hz0
         have hsn := szL_snoc enc (eput.take i) x
         rw [<- e5, hz, <- hS1] at hsn
         have hfp : fitP enc (eput.take (i + 1)) = true := by
          have h1 := hs1.out.2
          rw [e5]
          unfold fitP at h1 ⊢
          rw [List.all_append, h1]
          simp [hz, hzz]
         have q0 : (z == 0) = false := by simpa using hzz
         have HC5 := Lib.hid hc5
         have HSN := Lib.hid hsn
         have HFP := Lib.hid hfp
         clear hc5 hx hxi e5 hs1 hz hsn hfp hS1
         go_wp2_with fail
         refine (HC5.out).mono ?_
         rintro e w6 ⟨rfl, hb6⟩
         go_wp2_with fail
         go_roundg (eput.length - (i + 1))
         case measure => omega
         case rel => exact ⟨i + 1, S1 + z, by go_num, by rw [Int.add_assoc], Lib.hid ⟨HSN.out.symm, HFP.out⟩, by omega, bseq hbr5 hb6, by omega⟩
       ·have hie : i = eput.length := by omega
        subst hie
        have hs2 := hs1.out
        rw [List.take_length] at hs2
        have HS2 := Lib.hid hs2
        clear hs1 hs2
        go_wp2_with fail
        go_roundg (es.length - (j + 1))
        case measure => omega
        case rel =>
         refine ⟨j + 1, S + S1, by go_num, by rw [Int.add_assoc], Lib.hid ⟨?_, ?_⟩, by omega, hbr5, by omega⟩
         ·rw [HT3.out, putB_snoc, <- HS2.out.1, <- HSE.out]
         ·have h1 := HS3.out
          rw [HT3.out]
          unfold fitF at h1 ⊢
          rw [List.all_append, h1]
          simp [HS2.out.2]
     ·have hje : j = es.length := by omega
      subst hje
      have hs2 := hs.out
      rw [List.take_length] at hs2
      have hPB := putB_bd enc es
      have hSS := hs2.1
      rw [<- hSS] at hPB
      have HFIT := Lib.hid hs2.2
      have HSS := Lib.hid hSS
      clear hs hs2 hSS
      go_wp2_with fail
      go_loopg [78, 9] es.length (fun k q78 q9 wr => RefR4 ds (BY + S) es w k q78 q9 wr)
      case atStart => exact ⟨0, 0, rfl, by simp, Lib.hid ⟨by simp [remB], by simp⟩, by omega, hbr, by omega⟩
      case round =>
       obtain ⟨j, R, rfl, rfl, hs, hj4, hbr4, hgk4⟩ := hrel
       obtain ⟨w3, hw3⟩ : ∃ x, x = wr := ⟨_, rfl⟩
       subst hw3
       obtain ⟨hR, hRb⟩ := hs.out
       by_cases hlt4 : j < m
       ·obtain ⟨eb, eo, ed, rfl, hed, hD2, z0, z1, z2⟩ := (HE.out.below hbr4).at_ hlt4
        have hmem := List.mem_of_getElem? hed
        have hrng := ordF_mem es 0 ds.length HORD.out (Int.le_refl _) ed hmem
        have e3 := take_snoc es j ed hed
        have hrs := remB_snoc ds (es.take j) ed
        rw [<- e3, <- hR] at hrs
        have HRS := Lib.hid hrs
        obtain ⟨ef, et, eA, en, ec, eput⟩ := ed
        dsimp only at z0 z1 z2 hrng
        rw [HDL.out] at hrng
        have hb4 := balloc (o := .cells #[.int .i64 ef, .int .i64 et, .slice eA en ec] 96) hbr4
        have hB4 := Blk.new w3 96 #[.int .i64 ef, .int .i64 et, .slice eA en ec]
        clear hs e3 hed hmem hrs hR
        by_cases hft : ef < et
        ·have q1 : (ef < et) = True := by simpa using hft
         have ha1 := fun (w' : World) (hb : Below w.heap.size w w') => HKA.out et w' hb (by omega) (by omega)
         have ha2 := fun (w' : World) (hb : Below w.heap.size w w') => HKA.out ef w' hb (by omega) (by omega)
         have hr1 : rem1 ds ⟨ef, et, eA, en, ec, eput⟩ = (sumsOf (ds.take et.toNat)).bytes - (sumsOf (ds.take ef.toNat)).bytes := by unfold rem1; rw [if_pos hft]
         have hbd : ∀ x : Int, 0 <= (sumsOf (ds.take x.toNat)).bytes /\ (sumsOf (ds.take x.toNat)).bytes <= 1073741824 := by
          intro x
          have h1 := totB_dec HH.out.ok
          have h2 := sumsOf_good' ((decL_pos enc t.list).take x.toNat)
          have h3 := sumsOf_good' ((decL_pos enc t.list).drop x.toNat)
          have h4 : ((decL enc t.list).map Prod.snd).sum = (((decL enc t.list).take x.toNat).map Prod.snd).sum + (((decL enc t.list).drop x.toNat).map Prod.snd).sum := by
           rw [<- List.sum_append, <- List.map_append, List.take_append_drop]
          rw [HDS.out] at h1 h2 h3 h4
          obtain ⟨⟨_, _, h5, _⟩, _, h6⟩ := h2
          obtain ⟨⟨_, _, h7, _⟩, _, h8⟩ := h3
          omega
         have hbd1 := hbd et
         have hbd2 := hbd ef
         obtain ⟨S1, hS1⟩ : ∃ S1, sumsOf (ds.take et.toNat) = S1 := ⟨_, rfl⟩
         obtain ⟨S2, hS2⟩ : ∃ S2, sumsOf (ds.take ef.toNat) = S2 := ⟨_, rfl⟩
         rw [hS1] at ha1 hr1 hbd1
         rw [hS2] at ha2 hr1 hbd2
         have HR1 := Lib.hid hr1
         have k1 := field1 S1.atoms S1.bytes S1.breaks S1.lf S1.cr
         have k2 := field1 S2.atoms S2.bytes S2.breaks S2.lf S2.cr
         unfold Sums.cells at ha1 ha2
         have HA1 := Lib.hid ha1
         have HA2 := Lib.hid ha2
         obtain ⟨B1, hB1⟩ : ∃ B1, S1.bytes = B1 := ⟨_, rfl⟩
         obtain ⟨B2, hB2⟩ : ∃ B2, S2.bytes = B2 := ⟨_, rfl⟩
         rw [hB1] at HA1 HR1 hbd1 k1
         rw [hB2] at HA2 HR1 hbd2 k2
         have e8 : IntKind.i64.wrap (B1 - B2) = B1 - B2 := IntWalk.i64_in _ (by omega)
         have e9 : IntKind.i64.wrap (BY + S - R - (B1 - B2)) = BY + S - R - (B1 - B2) := IntWalk.i64_in _ (by omega)
         clear ha1 ha2 hr1 hS1 hS2 hbd hft hB1 hB2
         go_upto_region 28 with fail
         obtain ⟨w4, hw4⟩ : ∃ w4, w3.alloc (.cells #[.int .i64 ef, .int .i64 et, .slice eA en ec] 96) = w4 := ⟨_, rfl⟩
         rw [hw4] at hb4 hB4 ⊢
         clear hw4
         have hfc : ∀ w', Below w4.heap.size w4 w' -> w'.cell? ⟨w3.heap.size, 0, none⟩ = some (.int .i64 ef) /\ w'.cell? ⟨w3.heap.size, 1, none⟩ = some (.int .i64 et) := fun w' hb => ⟨(hB4.below hb).cell 0, (hB4.below hb).cell 1⟩
         have HFC := Lib.hid hfc
         clear hfc hB4
         refine wp_region_steady (fun w' => Below w4.heap.size w4 w') (by kernel_rfl) (by kernel_rfl) (Below.drew (Below.refl _ _)) ?_
         repeat ((first
          | (refine wpSt_read (v := ?_) (by rfl) (fun w6 hSw => ?_) ?_; rotate_left; (· (obtain ⟨y0, y1⟩ := HFC.out _ hSw; go_simp; try with_reducible rfl)))
          | refine wpSt_not (by rfl) ?_
          | (refine wpSt_call (f := ?_) (args := ?_) (v := .agg #[.int .i64 S1.atoms, .int .i64 B1, .int .i64 S1.breaks, .bool S1.lf, .bool S1.cr]) (by rfl) (fun w6 hSw => ?_) (fun w6 hSw => ?_) ?_; rotate_left 2; (· (obtain ⟨y0, y1⟩ := HFC.out _ hSw; go_simp; first | done | (constructor <;> with_reducible rfl) | with_reducible rfl)); (· ((with_reducible refine (HA1.out _ (bseq hb4 hSw)).mono ?_); rintro e w5 ⟨rfl, hb5⟩; exact ⟨rfl, bseq hSw hb5⟩)))
          | (refine wpSt_call (f := ?_) (args := ?_) (v := .agg #[.int .i64 S2.atoms, .int .i64 B2, .int .i64 S2.breaks, .bool S2.lf, .bool S2.cr]) (by rfl) (fun w6 hSw => ?_) (fun w6 hSw => ?_) ?_; rotate_left 2; (· (obtain ⟨y0, y1⟩ := HFC.out _ hSw; go_simp; first | done | (constructor <;> with_reducible rfl) | with_reducible rfl)); (· ((with_reducible refine (HA2.out _ (bseq hb4 hSw)).mono ?_); rintro e w5 ⟨rfl, hb5⟩; exact ⟨rfl, bseq hSw hb5⟩)))); (try simp only [Act.put, pA, pB, pC]))
         refine wpSt_nil ?_
         intro w5 hw5
         have hb5 := bseq hb4 hw5
         clear hw5 hb4
         go_wp2_with fail
         go_roundg (es.length - (j + 1))
         case measure => omega
         case rel =>
          exact ⟨j + 1, R + (B1 - B2), by go_num, by rw [Int.sub_sub], Lib.hid ⟨by rw [HRS.out, HR1.out], by omega⟩, by omega, hb5, by omega⟩
        ·have q1 : (ef < et) = False := by simpa using hft
         have hr1 : rem1 ds ⟨ef, et, eA, en, ec, eput⟩ = 0 := by unfold rem1; rw [if_neg hft]
         have HR1 := Lib.hid hr1
         clear hr1 hft hB4
         go_wp2_with fail
         go_roundg (es.length - (j + 1))
         case measure => omega
         case rel =>
          exact ⟨j + 1, R, by go_num, rfl, Lib.hid ⟨by rw [HRS.out, HR1.out, Int.add_zero], by omega⟩, by omega, hb4, by omega⟩
       ·have hje : j = es.length := by omega
        subst hje
        rw [List.take_length] at hR
        have c1 := (HH.out.below hbr4).blk.cell 1
        simp at c1
        have hv : V = if lim < BY + S - R then 50 else 0 := by
         rw [<- HV.out, HORD.out, HFIT.out, HBY.out, HSS.out, hR]
         simp
        have HVV := Lib.hid hv
        clear hs hR hv
        by_cases hl : lim < BY + S - R
        ·have q1 : (lim < BY + S - R) = True := eq_true hl
         rw [if_pos hl] at HVV
         clear hl
         go_wp2_with fail
         go_ret
         exact ⟨ret_i HVV.out.symm, hbr4⟩
        ·have q1 : (lim < BY + S - R) = False := eq_false hl
         rw [if_neg hl] at HVV
         clear hl
         go_wp2_with fail
         go_ret
         exact ⟨ret_i HVV.out.symm, hbr4⟩
def ed1 {α : Type} (f : Int -> α) (e : Ed) (l : List α) : List α := l.take e.f.toNat ++ e.put.map f ++ l.drop e.t.toNat
def edL {α : Type} (f : Int -> α) (es : List Ed) (l : List α) : List α := es.foldr (ed1 f) l
def edD (enc : Int) : List Ed -> List (Int × Int) -> List (Int × Int) := edL (fun x => (x, szA enc x))
def edA : List Ed -> List (Int × Int) -> List (Int × Int) := edL (fun x => (x, -1))
theorem edL_cons {α : Type} (f : Int -> α) (e : Ed) (es : List Ed) (l : List α) : edL f (e :: es) l = ed1 f e (edL f es l) := rfl
theorem edL_take {α : Type} (f : Int -> α) : ∀ (es : List Ed) (a : Int) (l : List α), ordF a l.length es = true -> 0 <= a -> a <= l.length -> (edL f es l).take a.toNat = l.take a.toNat := by
 intro es
 induction es with
 | nil => intro a l _ _ _; rfl
 | cons e r ih =>
  intro a l h h0 h1
  have hm := ordF_mem (e :: r) a l.length h h0 e List.mem_cons_self
  unfold ordF at h
  split at h
  ·cases h
  ·have hi := ih e.t l h (by omega) (by omega)
   rw [edL_cons]
   unfold ed1
   have h2 : (edL f r l).take e.f.toNat = l.take e.f.toNat := by
    have := congrArg (List.take e.f.toNat) hi
    rw [List.take_take, List.take_take, Nat.min_eq_left (by omega)] at this
    exact this
   rw [h2, List.append_assoc, List.take_append_of_le_length (by rw [List.length_take]; omega), List.take_take, Nat.min_eq_left (by omega)]
theorem edL_len {α : Type} (f : Int -> α) (es : List Ed) (a : Int) (l : List α) (h : ordF a l.length es = true) (h0 : 0 <= a) (h1 : a <= l.length) : a <= (edL f es l).length := by
 have := congrArg List.length (edL_take f es a l h h0 h1)
 rw [List.length_take, List.length_take] at this
 omega
theorem ed1_none {α : Type} (f : Int -> α) (e : Ed) (l : List α) (h0 : 0 <= e.f) (h : e.f = e.t) (hp : e.put = []) : ed1 f e l = l := by
 unfold ed1
 rw [hp, <- h, List.map_nil, List.append_nil, List.take_append_drop]
def szS (l : List (Int × Int)) : Int := (l.map Prod.snd).sum
theorem szS_app (a b : List (Int × Int)) : szS (a ++ b) = szS a + szS b := by unfold szS; rw [List.map_append, List.sum_append]
theorem szS_split (l : List (Int × Int)) (k : Nat) : szS l = szS (l.take k) + szS (l.drop k) := by rw [<- szS_app, List.take_append_drop]
theorem szS_pos {l : List (Int × Int)} (h : PosD l) : 0 <= szS l := by
 have h1 := sumsOf_good' h
 obtain ⟨⟨_, _, h4, _⟩, _, h5⟩ := h1
 unfold szS
 omega
theorem szS_mono {l : List (Int × Int)} (h : PosD l) (a b : Nat) (hab : a <= b) : szS (l.take a) <= szS (l.take b) := by
 have e : (l.take b).take a = l.take a := by rw [List.take_take, Nat.min_eq_left hab]
 have := szS_split (l.take b) a
 rw [e] at this
 have h2 := szS_pos ((h.take b).drop a)
 omega
theorem szS_bytes {l : List (Int × Int)} (h : PosD l) (k : Nat) : (sumsOf (l.take k)).bytes = szS (l.take k) := (sumsOf_good' (h.take k)).2.2
theorem rem1_sz {l : List (Int × Int)} (h : PosD l) (e : Ed) (hle : e.f <= e.t) : rem1 l e = szS (l.take e.t.toNat) - szS (l.take e.f.toNat) := by
 unfold rem1
 split
 ·rw [szS_bytes h, szS_bytes h]
 ·have : e.f = e.t := by omega
  rw [this]
  omega
theorem remB_le {l : List (Int × Int)} (hp : PosD l) : ∀ (es : List Ed) (a : Int), ordF a l.length es = true -> 0 <= a -> remB l es <= szS l - szS (l.take a.toNat) := by
 intro es
 induction es with
 | nil =>
  intro a _ _
  have := szS_split l a.toNat
  have := szS_pos (hp.drop a.toNat)
  unfold remB
  simp
  omega
 | cons e r ih =>
  intro a h h0
  have hm := ordF_mem (e :: r) a l.length h h0 e List.mem_cons_self
  unfold ordF at h
  split at h
  ·cases h
  ·have h1 := ih e.t h (by omega)
   have h2 := rem1_sz hp e hm.2.1
   have h3 := szS_mono hp a.toNat e.f.toNat (by omega)
   unfold remB at h1 ⊢
   rw [List.map_cons, List.sum_cons]
   omega
theorem withSz_sz (enc : Int) (xs : List Int) : szS (xs.map fun x => (x, szA enc x)) = szL_ enc xs := by
 unfold szS szL_
 rw [List.map_map]
 rfl
theorem edD_sz {enc : Int} {l : List (Int × Int)} (hp : PosD l) : ∀ (es : List Ed) (a : Int), ordF a l.length es = true -> 0 <= a -> szS (edD enc es l) = szS l + putB enc es - remB l es := by
 intro es
 induction es with
 | nil => intro a _ _; simp [edD, edL, putB, remB]
 | cons e r ih =>
  intro a h h0
  have hm := ordF_mem (e :: r) a l.length h h0 e List.mem_cons_self
  unfold ordF at h
  split at h
  ·cases h
  ·have h1 := ih e.t h (by omega)
   have h2 := rem1_sz hp e hm.2.1
   have h3 : (edD enc r l).take e.t.toNat = l.take e.t.toNat := edL_take _ r e.t l h (by omega) hm.2.2
   have h4 : (edD enc r l).take e.f.toNat = l.take e.f.toNat := by
    have := congrArg (List.take e.f.toNat) h3
    rw [List.take_take, List.take_take, Nat.min_eq_left (by omega)] at this
    exact this
   have h5 := szS_split (edD enc r l) e.t.toNat
   have e1 : edD enc (e :: r) l = ed1 (fun x => (x, szA enc x)) e (edD enc r l) := rfl
   rw [e1]
   unfold ed1
   rw [szS_app, szS_app, withSz_sz, h4]
   unfold putB remB at h1 ⊢
   rw [List.map_cons, List.sum_cons, List.map_cons, List.sum_cons]
   rw [h3] at h5
   omega
theorem fitF_mem {enc : Int} {es : List Ed} (h : fitF enc es = true) : ∀ e ∈ es, Fit enc e.put := by
 intro e he x hx
 unfold fitF at h
 have h1 := List.all_eq_true.1 h e he
 unfold fitP at h1
 have h2 := List.all_eq_true.1 h1 x hx
 have h3 := szA_ge enc x
 simp at h2
 omega
theorem szL_ge (enc : Int) (xs : List Int) (h : Fit enc xs) : (xs.length : Int) <= szL_ enc xs := by
 unfold szL_
 induction xs with
 | nil => simp
 | cons a xs ih =>
  have h1 := h a List.mem_cons_self
  have h2 := ih (fun x hx => h x (List.mem_cons_of_mem _ hx))
  simp only [List.map_cons, List.sum_cons, List.length_cons]
  omega
theorem putB_mem (enc : Int) (es : List Ed) : ∀ e ∈ es, szL_ enc e.put <= putB enc es := by
 induction es with
 | nil => intro e he; cases he
 | cons x r ih =>
  intro e he
  have h1 := szL_bd enc x.put
  have h2 := putB_bd enc r
  have e1 : putB enc (x :: r) = szL_ enc x.put + putB enc r := by unfold putB; simp
  rcases List.mem_cons.1 he with rfl | he
  ·omega
  ·have := ih e he; omega
theorem ordF_drop : ∀ (es : List Ed) (a size : Int) (i : Nat) (e : Ed), ordF a size es = true -> es[i]? = some e -> ordF e.t size (es.drop (i + 1)) = true := by
 intro es
 induction es with
 | nil => intro _ _ i e _ h; simp at h
 | cons x r ih =>
  intro a size i e h hi
  unfold ordF at h
  split at h
  ·cases h
  ·cases i with
   | zero =>
    simp at hi
    subst hi
    exact h
   | succ i => exact ih x.t size i e h (by simpa using hi)
theorem remB_ge {l : List (Int × Int)} (hp : PosD l) : ∀ (es : List Ed) (a : Int), ordF a l.length es = true -> 0 <= a -> 0 <= remB l es := by
 intro es
 induction es with
 | nil => intro a _ _; simp [remB]
 | cons e r ih =>
  intro a h h0
  have hm := ordF_mem (e :: r) a l.length h h0 e List.mem_cons_self
  unfold ordF at h
  split at h
  ·cases h
  ·have h1 := ih e.t h (by omega)
   have h2 := rem1_sz hp e hm.2.1
   have h3 := szS_mono hp e.f.toNat e.t.toNat (by omega)
   unfold remB at h1 ⊢
   rw [List.map_cons, List.sum_cons]
   omega
theorem putB_cons (enc : Int) (e : Ed) (es : List Ed) : putB enc (e :: es) = szL_ enc e.put + putB enc es := by unfold putB; simp
theorem putB_drop (enc : Int) (es : List Ed) (k : Nat) : putB enc (es.drop k) <= putB enc es := by
 have e : putB enc es = putB enc (es.take k) + putB enc (es.drop k) := by
  conv => lhs; rw [<- List.take_append_drop k es]
  unfold putB
  rw [List.map_append, List.sum_append]
 have := (putB_bd enc (es.take k)).1
 omega
theorem putL_sz (enc : Int) (xs : List Int) (h : Fit enc xs) : ((putL enc xs).length : Int) = szL_ enc xs := by
 rw [putL_len enc xs h]
 unfold withSz szL_
 rw [List.map_map]
 rfl
theorem refF_ok {enc lim : Int} {ds : List (Int × Int)} {es : List Ed} (hp : PosD ds) (h : refF enc lim ds es = 0) (hl : lim <= 65536) (hs : szS ds <= 65536) :
  es.length <= 70000 /\ ordF 0 ds.length es = true /\ fitF enc es = true /\ putB enc es <= 131072 /\ szS (edD enc es ds) <= lim := by
 unfold refF at h
 split at h
 ·cases h
 ·rename_i h1
  split at h
  ·cases h
  ·rename_i h2
   split at h
   ·cases h
   ·rename_i h3
    split at h
    ·cases h
    ·rename_i h4
     have h2' : ordF 0 ds.length es = true := by simpa using h2
     have h3' : fitF enc es = true := by simpa using h3
     have h5 := edD_sz (enc := enc) hp es 0 h2' (Int.le_refl _)
     have h6 := remB_le hp es 0 h2' (Int.le_refl _)
     have h7 : (sumsOf ds).bytes = szS ds := (sumsOf_good' hp).2.2
     have h8 : szS (ds.take (0 : Int).toNat) = 0 := by simp [szS]
     rw [h7] at h4
     exact ⟨by omega, h2', h3', by omega, by omega⟩
def ChgR (B g : Nat) (enc lim : Int) (n : Nat) (add : Value) (xs : List Value) (ds ats : List (Int × Int)) (es : List Ed) (w : World) (k : Nat) (q6 : Value) (wr : World) : Prop :=
 ∃ (j : Nat) (add' : Value) (n' : Nat) (xs' : List Value), q6 = .int .i64 ((j : Int) - 1) /\ Hid (ReplR g add add' n n' B xs xs' enc lim (edD enc (es.drop j) ds) (edA (es.drop j) ats) w wr) /\ (n' : Int) <= n + putB enc (es.drop j) /\ j <= es.length /\ j <= k
def ChgPost (B g : Nat) (enc lim : Int) (n : Nat) (add : Value) (xs : List Value) (ds ats : List (Int × Int)) (es : List Ed) (w w' : World) : Prop :=
 ∃ (add' : Value) (n' : Nat) (xs' : List Value), ReplR g add add' n n' B xs xs' enc lim (edD enc es ds) (edA es ats) w w' /\ n' <= n + 131072
theorem ReplR.below {B g : Nat} {enc lim : Int} {n n' : Nat} {add add' : Value} {xs xs' : List Value} {ds ats : List (Int × Int)} {w w1 w2 : World} (h : ReplR g add add' n n' B xs xs' enc lim ds ats w w1) (hr : w.ownsRow B 5 1 add n xs) (hb : Below w1.heap.size w1 w2) : ReplR g add add' n n' B xs xs' enc lim ds ats w w2 := by
 obtain ⟨t, a, h1, h2, h3, h4⟩ := h
 exact ⟨t, a, h1.below hb, h2.loc (S := No) (Fr.of_below hb) (fun _ hs => hs.elim) hr, h3, h4⟩
theorem change_any (B g : Nat) (enc lim : Int) (n : Nat) (add : Value) (t : Tr) (a : Option Addr) (xs : List Value) (D : Nat -> Prop) (A : Option Addr) (m c : Nat) (es : List Ed) (w : World) (h : TextM w B g enc lim n add t a xs) (he : EdsAt w D A m es) (hD : ∀ b, D b -> b ≠ g /\ add.ownBlock ≠ some b) (hp : putN es <= 268435456)
    (hlim : lim <= 65536) (hsz : szS (decL enc t.list) <= 65536) (hn : n + 131072 <= 1073741824) :
    Calls Tryz.prog 136 #[.pointer (some ⟨g, 0, none⟩), .slice A m c] w fun e w' => e = .returned (.int .i64 (refF enc lim (decL enc t.list) es)) /\ (refF enc lim (decL enc t.list) es ≠ 0 -> Below w.heap.size w w') /\
      (refF enc lim (decL enc t.list) es = 0 -> ChgPost B g enc lim n add xs (decL enc t.list) (atsL enc t.list) es w w') := by
  have hK := refuse_any Any D g enc lim t a add A m c es w h.text he hp
  have hml := he.len
  have hdpos := decL_pos enc t.list
  obtain ⟨D', hDD⟩ : ∃ D' : Nat -> Prop, D' = fun b => D b /\ b < w.heap.size := ⟨_, rfl⟩
  have he' : EdsAt w D' A m es := he.more (fun b h1 h2 => by rw [hDD]; exact ⟨h1, h2⟩)
  have hD' : ∀ b, D' b -> b ≠ g /\ add.ownBlock ≠ some b /\ b < w.heap.size := fun b hb => by
    rw [hDD] at hb
    exact ⟨(hD b hb.1).1, (hD b hb.1).2, hb.2⟩
  clear hDD hD he
  by_cases hz : refF enc lim (decL enc t.list) es = 0
  · obtain ⟨o1, o2, o3, o4, o5⟩ := refF_ok hdpos hz hlim hsz
    rw [hz] at hK ⊢
    have hL := h.text.decLen
    have hal : (atsL enc t.list).length = (decL enc t.list).length := atsL_len enc _
    obtain ⟨ds, hds⟩ : ∃ ds, decL enc t.list = ds := ⟨_, rfl⟩
    obtain ⟨ats, hats⟩ : ∃ ats, atsL enc t.list = ats := ⟨_, rfl⟩
    rw [hds] at hL hal hdpos o2 o5 hsz ⊢
    rw [hats] at hal ⊢
    have HK := Lib.hid hK
    have HH := Lib.hid h
    have HE := Lib.hid he'
    have HORD := Lib.hid o2
    have HFIT := Lib.hid o3
    have HDS := Lib.hid hds
    have HATS := Lib.hid hats
    have HAL := Lib.hid hal
    clear hK h he' o2 o3 hds hats hz hal
    go_enter Tryz.func136, Tryz.ntmps136
    go_wp2_with fail
    refine (HK.out).mono ?_
    rintro e w1 ⟨rfl, hb1⟩
    have e1 : IntKind.i64.wrap ((m : Int) - 1) = (m : Int) - 1 := IntWalk.i64_in _ (by omega)
    go_wp2_with fail
    go_loopg [6] es.length (fun k q6 wr => ChgR B g enc lim n add xs ds ats es w k q6 wr)
    case atStart =>
      refine ⟨m, add, n, xs, rfl, Lib.hid ⟨t, a, HH.out.below hb1, TStep.below HH.out.row hb1, ?_, ?_⟩, ?_, by omega, by omega⟩
      · rw [<- hml, List.drop_length]
        exact HDS.out
      · rw [<- hml, List.drop_length]
        exact HATS.out
      · rw [<- hml, List.drop_length]
        simp [putB]
    case round =>
      obtain ⟨j, add', n', xs', rfl, hR, hnn, hj, hgk⟩ := hrel
      obtain ⟨w2, hw2⟩ : ∃ x, x = wr := ⟨_, rfl⟩
      subst hw2
      by_cases hj0 : 0 < j
      · have q1 : ((0 : Int) <= (j : Int) - 1) = True := by simp; omega
        obtain ⟨i, rfl⟩ : ∃ i, j = i + 1 := ⟨j - 1, by omega⟩
        obtain ⟨t2, a2, hT2, hS2, hd2, ha2⟩ := hR.out
        have hE2 := HE.out.fr hS2.fr (fun b hb _ hs => hs.elim (fun e => (hD' b hb).1 e) (fun e => (hD' b hb).2.1 e))
        obtain ⟨eb, eo, ed, rfl, hed, hD2, z0, z1, z2⟩ := hE2.at_ (show i < m by omega)
        have hmem := List.mem_of_getElem? hed
        have hput := hE2.put ed hmem
        have hrng := ordF_mem es 0 ds.length HORD.out (Int.le_refl _) ed hmem
        have hfit := fitF_mem HFIT.out ed hmem
        have hpb := putB_mem enc es ed hmem
        have hge := szL_ge enc ed.put hfit
        have hdr : es.drop i = ed :: es.drop (i + 1) := by
          rw [List.getElem?_eq_getElem (by omega)] at hed
          injection hed with hed
          rw [List.drop_eq_getElem_cons (by omega), hed]
        have hordd := ordF_drop es 0 ds.length i ed HORD.out hed
        have hcl := edL_len (fun x => (x, szA enc x)) (es.drop (i + 1)) ed.t ds hordd (by omega) hrng.2.2
        have hsz2 := edD_sz (enc := enc) hdpos (es.drop (i + 1)) ed.t hordd (by omega)
        have hrm := remB_ge hdpos (es.drop (i + 1)) ed.t hordd (by omega)
        have hpd := putB_drop enc es (i + 1)
        have hpl := putL_sz enc ed.put hfit
        have hput1 := hput.len
        have htb := totB_dec hT2.tree.pcs.ok
        rw [hd2] at htb
        have hb3 : Below w2.heap.size w2 (w2.alloc (.cells #[.int .i64 ed.f, .int .i64 ed.t, .slice ed.A ed.n ed.c] 96)) := balloc (Below.refl _ _)
        have hT3 := hT2.below hb3
        have hown : ∀ b, D' b -> b ≠ g /\ add'.ownBlock ≠ some b := fun b hb => ⟨(hD' b hb).1, fun hh => by
          rcases hS2.own b hh with h1 | h1
          · exact (hD' b hb).2.1 h1
          · have := (hD' b hb).2.2; omega⟩
        have hcc : ed.t <= ((decL enc t2.list).length : Int) := by rw [hd2]; exact hcl
        have hbyt2 : szS (edD enc (es.drop (i + 1)) ds) = ((edD enc (es.drop (i + 1)) ds).map Prod.snd).sum := rfl
        have hsz3 : totB t2.list <= 196608 := by
          have e0 : edL (fun x => (x, szA enc x)) (es.drop (i + 1)) ds = edD enc (es.drop (i + 1)) ds := rfl
          omega
        have hpc : putB enc (es.drop i) = szL_ enc ed.put + putB enc (es.drop (i + 1)) := by rw [hdr, putB_cons]
        have hpd0 := putB_drop enc es i
        have hrp := repl_any B g enc lim n' add' t2 a2 xs' ed.f ed.t ed.put D' ed.A ed.n ed.c _ hT3 (by omega) hrng.2.1 hcc (Reads.below hput hb3) hown hfit (by omega) (by omega) (by omega)
        have hjoin : ∀ w4 add2, ReplR g add' add2 n' (n' + (putL enc ed.put).length) B xs' (xs' ++ (putL enc ed.put).map (Value.int .u8)) enc lim ((decL enc t2.list).take ed.f.toNat ++ withSz enc ed.put ++ (decL enc t2.list).drop ed.t.toNat) ((atsL enc t2.list).take ed.f.toNat ++ ed.put.map (fun x => (x, -1)) ++ (atsL enc t2.list).drop ed.t.toNat) (w2.alloc (.cells #[.int .i64 ed.f, .int .i64 ed.t, .slice ed.A ed.n ed.c] 96)) w4 ->
            ReplR g add add2 n (n' + (putL enc ed.put).length) B xs (xs' ++ (putL enc ed.put).map (Value.int .u8)) enc lim (edD enc (es.drop i) ds) (edA (es.drop i) ats) w w4 := by
          rintro w4 add2 ⟨t4, a4, r1, r2, r3, r4⟩
          refine ⟨t4, a4, r1, (hS2.loc (S := No) (Fr.of_below hb3) (fun _ hs => hs.elim) HH.out.row).trans r2 HH.out.row HH.out.ne, ?_, ?_⟩
          · rw [r3, hd2, hdr]
            rfl
          · rw [r4, ha2, hdr]
            rfl
        have hsame : ed.f = ed.t -> ed.put = [] -> ReplR g add add' n n' B xs xs' enc lim (edD enc (es.drop i) ds) (edA (es.drop i) ats) w (w2.alloc (.cells #[.int .i64 ed.f, .int .i64 ed.t, .slice ed.A ed.n ed.c] 96)) := by
          intro h1 h2
          have h3 := hR.out.below HH.out.row hb3
          have e1 : edD enc (es.drop i) ds = edD enc (es.drop (i + 1)) ds := by rw [hdr]; exact ed1_none _ ed _ (by omega) h1 h2
          have e2 : edA (es.drop i) ats = edA (es.drop (i + 1)) ats := by rw [hdr]; exact ed1_none _ ed _ (by omega) h1 h2
          rw [e1, e2]
          exact h3
        have hpz : 0 <= szL_ enc ed.put := (szL_bd enc ed.put).1
        have hbn : ((n' + (putL enc ed.put).length : Nat) : Int) <= n + putB enc (es.drop i) := by omega
        have hbn0 : (n' : Int) <= n + putB enc (es.drop i) := by omega
        have hlen0 : ed.put.length = ed.n := hput1
        have hempty : ed.n = 0 -> ed.put = [] := fun h => List.eq_nil_of_length_eq_zero (by omega)
        have hft := hrng.2.1
        have e6 : (((i + 1 : Nat) : Int) - 1) = (i : Int) := by omega
        have e7 : IntKind.i64.wrap ((i : Int) - 1) = (i : Int) - 1 := IntWalk.i64_in _ (by omega)
        have q0 : ((0 : Int) <= (i : Int)) = True := by simp
        obtain ⟨ef, et, eA, en, ec, eput⟩ := ed
        dsimp only at z0 z1 z2 hrp hjoin hsame hbn hft hempty
        rw [e6]
        have HRP := Lib.hid hrp
        have HJ := Lib.hid hjoin
        have HSM := Lib.hid hsame
        have HBN := Lib.hid hbn
        have HBN0 := Lib.hid hbn0
        have HEM := Lib.hid hempty
        clear hrp hjoin hsame hbn hbn0 hempty hdr hed hmem hput hfit hcl hsz2 hrm hpd hpl htb hT3 hown hcc hbyt2 hpc hpz e6 q1 hR hT2 hS2 hd2 ha2 hE2 hordd hlen0 hput1 hrng hsz3 hpb hge hb3 hpd0
        by_cases hc1 : ef < et
        · have q1 : (ef < et) = True := eq_true hc1
          clear hc1
          go_wp2_with fail
          refine (HRP.out).mono ?_
          rintro e w4 ⟨rfl, add2, hR4⟩
          have HR4 := Lib.hid (HJ.out _ _ hR4)
          clear hR4
          go_wp2_with fail
          go_roundg i
          case measure => omega
          case rel => exact ⟨i, add2, _, _, rfl, HR4, HBN.out, by omega, by omega⟩
        · have q1 : (ef < et) = False := eq_false hc1
          by_cases hc2 : 0 < en
          · have q2 : ((0 : Int) < (en : Int)) = True := by simp; omega
            have q3 : (0 < en) = True := by simp; omega
            clear hc1 hc2
            go_wp2_with fail
            refine (HRP.out).mono ?_
            rintro e w4 ⟨rfl, add2, hR4⟩
            have HR4 := Lib.hid (HJ.out _ _ hR4)
            clear hR4
            go_wp2_with fail
            go_roundg i
            case measure => omega
            case rel => exact ⟨i, add2, _, _, rfl, HR4, HBN.out, by omega, by omega⟩
          · have q2 : ((0 : Int) < (en : Int)) = False := by simp; omega
            have q3 : (0 < en) = False := by simp; omega
            have HS4 := Lib.hid (HSM.out (by omega) (HEM.out (by omega)))
            clear hc1 hc2 HRP HJ HSM
            go_wp2_with fail
            go_roundg i
            case measure => omega
            case rel => exact ⟨i, add', n', xs', rfl, HS4, HBN0.out, by omega, by omega⟩
      · have hj0' : j = 0 := by omega
        subst hj0'
        rw [List.drop_zero] at hR hnn
        have hc : ChgPost B g enc lim n add xs ds ats es w w2 := ⟨add', n', xs', hR.out, by omega⟩
        have HC := Lib.hid hc
        clear hc
        go_wp2_with fail
        go_ret
        exact ⟨rfl, fun h => absurd rfl h, fun _ => HC.out⟩
  · obtain ⟨E, hE⟩ : ∃ E, refF enc lim (decL enc t.list) es = E := ⟨_, rfl⟩
    rw [hE] at hK hz ⊢
    have q2 : (E != 0) = true := by rw [bne_iff_ne]; exact hz
    have HK := Lib.hid hK
    have HZ := Lib.hid hz
    clear hK hE hz h he'
    go_enter Tryz.func136, Tryz.ntmps136
    go_wp2_with fail
    refine (HK.out).mono ?_
    rintro e w1 ⟨rfl, hb1⟩
    go_wp2_with fail
    go_ret
    exact ⟨rfl, fun _ => hb1, fun h => absurd h HZ.out⟩
theorem run_equalIn_self {P : Program} (w : World) (d : Nat) (t e : TypeId) (a : Addr) (i : TypeInfo) (h : P.underlying t = some (.pointer e)) (hi : P.info? e = some i) (hs : i.size ≠ 0) :
  (Op.equalIn (d + 1) t (.pointer (some a)) (.pointer (some a))).run P w = .ok true w := by
 simp [Op.equalIn, run_underlying h, sizeOf, typeInfo, hi, hs, sameAddr]
theorem run_neq_self {P : Program} (w : World) (t e : TypeId) (a : Addr) (i : TypeInfo) (h : P.underlying t = some (.pointer e)) (hi : P.info? e = some i) (hs : i.size ≠ 0) :
  (binOp .neq t (.pointer (some a)) (.pointer (some a))).run P w = .ok (.bool false) w := by
 have h1 : (Op.equal t (.pointer (some a)) (.pointer (some a))).run P w = .ok true w := run_equalIn_self w 9999 t e a i h hi hs
 simp only [binOp]
 simp [h1]
def SnapAt (w : World) (g : Nat) (add : Value) (n : Nat) (enc : Int) (s : Nat) (ats : List (Int × Int)) : Prop :=
 ∃ t a, Blk w s 207 #[.pointer (some ⟨g, 0, none⟩), .pointer a] /\ TreeIn w add n enc t a /\ atsL enc t.list = ats /\ szS (decL enc t.list) <= 65536
theorem snap_any (B g : Nat) (enc lim : Int) (n : Nat) (add : Value) (t : Tr) (a : Option Addr) (xs : List Value) (w : World) (h : TextM w B g enc lim n add t a xs) (hs : szS (decL enc t.list) <= 65536) :
  Calls Tryz.prog 133 #[.pointer (some ⟨g, 0, none⟩)] w fun e w' => ∃ s, e = .returned (.pointer (some ⟨s, 0, none⟩)) /\ SnapAt w' g add n enc s (atsL enc t.list) /\ w.heap.size <= s /\ Below w.heap.size w w' := by
 have c2 := h.blk.cell 2
 simp at c2
 have hb : Below w.heap.size w (w.alloc (.cells #[.pointer (some ⟨g, 0, none⟩), .pointer a] 207)) := balloc (Below.refl _ _)
 have HH := Lib.hid h
 have HS := Lib.hid hs
 clear h hs
 go_enter Tryz.func133, Tryz.ntmps133
 go_wp2_with fail
 go_ret
 exact ⟨_, rfl, ⟨t, a, Blk.new w _ _, (HH.out.below hb).tree, rfl, HS.out⟩, Nat.le_refl _, hb⟩
theorem text_row : ∃ i, Tryz.prog.info? 114 = some i /\ True /\ i.size = 4 /\ True := by
 have h : (Tryz.prog.info? 114).map (fun i => i.size) = some 4 := by kernel_rfl
 obtain ⟨i, hi, hs⟩ := Option.map_eq_some_iff.1 h
 exact ⟨i, hi, trivial, hs, trivial⟩
theorem tback_any (g s : Nat) (cs : Array Value) (a2 : Option Addr) (w : World) (hg : Blk w g 114 cs) (h2 : ∃ v, cs[2]? = some v) (hs : Blk w s 207 #[.pointer (some ⟨g, 0, none⟩), .pointer a2]) :
  Calls Tryz.prog 84 #[.pointer (some ⟨g, 0, none⟩), .pointer (some ⟨s, 0, none⟩)] w fun e w' => e = .returned (.int .i64 0) /\ w' = w.setCell ⟨g, 2, none⟩ (.pointer a2) := by
 obtain ⟨v, h2⟩ := h2
 have c0 := hs.cell 0
 have c1 := hs.cell 1
 have c2 := hg.cell 2
 have f2 := hg.frozen 2
 rw [h2] at c2
 simp at c0 c1
 obtain ⟨ti, hti, -, hsz, -⟩ := text_row
 have hne := fun (w : World) => run_neq_self w 32 114 ⟨g, 0, none⟩ ti Tryz.underlying32 hti (by rw [hsz]; decide)
 go_enter Tryz.func84, Tryz.ntmps84
 go_wp2_with fail
 go_ret
 exact ⟨rfl, rfl⟩
theorem inside_any (gb g : Nat) (cs : Array Value) (D : Nat -> Prop) (enc : Int) (ds : List (Int × Int)) (x : Int) (w : World) (hb : Blk w gb 83 cs) (h0 : cs[0]? = some (.pointer (some ⟨g, 0, none⟩))) (ht : TextAt w D g enc ds) :
  Calls Tryz.prog 132 #[.pointer (some ⟨gb, 0, none⟩), .int .i64 x] w fun e w' => e = .returned (.bool (decide (0 <= x /\ x <= (ds.length : Int)))) /\ Below w.heap.size w w' := by
 have c0 := hb.cell 0
 rw [h0] at c0
 have hk := len_any D g enc ds w ht
 have HK := Lib.hid hk
 clear hk
 by_cases hx : 0 <= x
 ·have q : ((0 : Int) <= x) = True := eq_true hx
  go_enter Tryz.func132, Tryz.ntmps132
  go_wp2_with fail
  refine (HK.out).mono ?_
  rintro e w1 ⟨rfl, hb1⟩
  go_wp2_with fail
  go_ret
  refine ⟨ret_b ?_, hb1⟩
  simp [hx]
 ·have q : ((0 : Int) <= x) = False := eq_false hx
  go_enter Tryz.func132, Tryz.ntmps132
  go_wp2_with fail
  go_ret
  refine ⟨ret_b ?_, Below.refl _ _⟩
  simp [hx]
theorem isOpen_any (gb : Nat) (cs : Array Value) (p : Option Addr) (w : World) (hb : Blk w gb 83 cs) (h6 : cs[6]? = some (.pointer p)) :
  Calls Tryz.prog 96 #[.pointer (some ⟨gb, 0, none⟩)] w fun e w' => e = .returned (.bool p.isSome) /\ w = w' := by
 have c6 := hb.cell 6
 rw [h6] at c6
 cases p with
 | none =>
  go_enter Tryz.func96, Tryz.ntmps96
  go_wp2_with fail
  go_ret
  exact ⟨rfl, rfl⟩
 | some p =>
  go_enter Tryz.func96, Tryz.ntmps96
  go_wp2_with fail
  go_ret
  exact ⟨rfl, rfl⟩
def RowT (w : World) (N : Nat) (T : TypeId) (size : Nat) (A : Option Addr) (n : Nat) (xs : List Value) : Prop :=
 xs.length = n * size /\ (0 < n -> ∃ b o cs, A = some ⟨b, o, none⟩ /\ b < N /\ Blk w b T cs /\ ∀ j u, xs[j]? = some u -> cs[o + j]? = some u)
def KeepTy (N : Nat) (T : TypeId) (w w' : World) : Prop := ∀ b cs, b < N -> Blk w b T cs -> Blk w' b T cs
section
variable {w w' w'' : World} {N N' size n : Nat} {T : TypeId} {A : Option Addr} {xs : List Value}
theorem RowT.keep (h : RowT w N T size A n xs) (hk : KeepTy N T w w') : RowT w' N T size A n xs := by
 refine ⟨h.1, fun hn => ?_⟩
 obtain ⟨b, o, cs, e, hb, hc, hx⟩ := h.2 hn
 exact ⟨b, o, cs, e, hb, hk b cs hb hc, hx⟩
theorem RowT.mono (h : RowT w N T size A n xs) (hN : N <= N') : RowT w N' T size A n xs := by
 refine ⟨h.1, fun hn => ?_⟩
 obtain ⟨b, o, cs, e, hb, hc, hx⟩ := h.2 hn
 exact ⟨b, o, cs, e, Nat.lt_of_lt_of_le hb hN, hc, hx⟩
theorem RowT.of_own {B c : Nat} (h : w.ownsRow B T size (.slice A n c) n xs) (hN : w.heap.size <= N) : RowT w N T size A n xs := by
 refine ⟨h.1, fun hn => ?_⟩
 rcases h.2 with ⟨_, h0⟩ | ⟨g, cap, cur, e, _, hg, _, _, _, ht⟩
 ·omega
 ·injection e with e1 e2 e3
  subst e1
  have hb : Blk w g T cur := hg
  refine ⟨g, 0, cur, rfl, Nat.lt_of_lt_of_le hb.lt hN, hb, fun j u hu => ?_⟩
  rw [<- ht, List.getElem?_take] at hu
  split at hu
  ·rw [Nat.zero_add]
   simpa using hu
  ·cases hu
theorem KeepTy.trans (h : KeepTy N T w w') (k : KeepTy N T w' w'') : KeepTy N T w w'' := fun b cs hb hc => k b cs hb (h b cs hb hc)
theorem KeepTy.below (h : Below w.heap.size w w') : KeepTy N T w w' := fun _ _ _ hc => hc.below h
theorem KeepTy.fr {S : Nat -> Prop} (hf : Fr S w w') (hS : ∀ b cs, b < N -> S b -> ¬ Blk w b T cs) : KeepTy N T w w' := fun b cs hb hc => hc.fr hf (fun hs => hS b cs hb hs hc)
end
structure Mv where
 f : Int
 t : Int
 n : Int
def Mv.cells (e : Mv) : Array Value := #[.int .i64 e.f, .int .i64 e.t, .int .i64 e.n]
def mvFlat (l : List Mv) : List Value := l.flatMap fun e => e.cells.toList
structure Gr where
 before : List (Int × Int)
 behind : List (Int × Int)
 bgn : Int
 fin : Int
 moves : List (List Mv)
 old : Int
 fresh : Int
def MvRows (w : World) (N : Nat) (vs : List Value) (mvs : List (List Mv)) : Prop := vs.length = mvs.length /\ ∀ (i : Nat) (v : Value) (mv : List Mv), vs[i]? = some v -> mvs[i]? = some mv -> ∃ A m c, v = Value.slice A m c /\ m <= c /\ RowT w N 211 3 A m (mvFlat mv) /\ mv.length = m
structure GKeep (N : Nat) (add add' : Value) (n n' : Nat) (enc : Int) (w w' : World) : Prop where
 gr : KeepTy N 156 w w'
 sn : KeepTy N 207 w w'
 rows : KeepTy N 158 w w'
 mvs : KeepTy N 211 w w'
 tree : ∀ t a, TreeIn w add n enc t a -> TreeIn w' add' n' enc t a
def SnapB (w : World) (N g : Nat) (add : Value) (n : Nat) (enc : Int) (s : Nat) (ats : List (Int × Int)) : Prop := s < N /\ SnapAt w g add n enc s ats
def GrAt (w : World) (N g : Nat) (add : Value) (n : Nat) (enc : Int) (p : Nat) (G : Gr) : Prop :=
 ∃ s1 s2 A m c vs, p < N /\ Blk w p 156 #[.pointer (some ⟨s1, 0, none⟩), .pointer (some ⟨s2, 0, none⟩), .int .i64 G.bgn, .int .i64 G.fin, .slice A m c, .int .i64 G.old, .int .i64 G.fresh] /\
  SnapB w N g add n enc s1 G.before /\ SnapB w N g add n enc s2 G.behind /\ RowT w N 158 1 A m vs /\ m <= c /\ MvRows w N vs G.moves /\ m <= 1073741824
section
variable {w w' w'' : World} {N N' g n n' n'' : Nat} {add add' add'' : Value} {enc : Int}
theorem GKeep.below {B : Nat} {xs : List Value} {cs : Array Value} (hr : w.ownsRow B 5 1 add n xs) (hg : Blk w g 114 cs) (h : Below w.heap.size w w') : GKeep N add add n n enc w w' :=
 ⟨KeepTy.below h, KeepTy.below h, KeepTy.below h, KeepTy.below h, fun _ _ ht => ht.step (g := g) (TStep.below hr h) hr hg⟩
theorem GKeep.trans (h : GKeep N add add' n n' enc w w') (k : GKeep N add' add'' n' n'' enc w' w'') : GKeep N add add'' n n'' enc w w'' :=
 ⟨h.gr.trans k.gr, h.sn.trans k.sn, h.rows.trans k.rows, h.mvs.trans k.mvs, fun t a ht => k.tree t a (h.tree t a ht)⟩
theorem GKeep.step {B : Nat} {xs : List Value} {cs : Array Value} (hs : TStep g add add' n n' w w') (hr : w.ownsRow B 5 1 add n xs) (hg : Blk w g 114 cs) : GKeep N add add' n n' enc w w' := by
 have key : ∀ T : TypeId, T ≠ 114 -> T ≠ 5 -> KeepTy N T w w' := fun T h1 h2 => KeepTy.fr hs.fr (fun b cs _ hs hb => by
  rcases hs with rfl | hs
  ·exact Blk.ne_ hb hg h1 rfl
  ·exact own_blk_ne hr hb (Ne.symm h2) hs)
 exact ⟨key _ (by decide) (by decide), key _ (by decide) (by decide), key _ (by decide) (by decide), key _ (by decide) (by decide), fun _ _ ht => ht.step hs hr hg⟩
def Far2 (w : World) (N k : Nat) : Prop := Far w k /\ ∀ T cs, Blk w k T cs -> (T ≠ 156 /\ T ≠ 207 /\ T ≠ 158 /\ T ≠ 211) \/ N <= k
theorem GKeep.far {S : Nat -> Prop} (hf : Fr S w w') (hS : ∀ k, k < w.heap.size -> S k -> Far2 w N k) : GKeep N add add n n enc w w' := by
 have key : ∀ T : TypeId, (T = 156 \/ T = 207 \/ T = 158 \/ T = 211) -> KeepTy N T w w' := fun T hT => KeepTy.fr hf (fun b cs hb hs hc => by
  rcases (hS b hc.lt hs).2 T cs hc with ⟨h1, h2, h3, h4⟩ | h5
  ·rcases hT with rfl | rfl | rfl | rfl
   ·exact h1 rfl
   ·exact h2 rfl
   ·exact h3 rfl
   ·exact h4 rfl
  ·omega)
 exact ⟨key _ (.inl rfl), key _ (.inr (.inl rfl)), key _ (.inr (.inr (.inl rfl))), key _ (.inr (.inr (.inr rfl))), fun _ _ ht => ht.far hf (fun k h1 h2 => (hS k h1 h2).1)⟩
theorem Far2.blk {T : TypeId} {cs : Array Value} {k : Nat} (h : Blk w k T cs) (h1 : (T ≠ 114 /\ T ≠ 192 /\ T ≠ 5) /\ T ≠ 156 /\ T ≠ 207 /\ T ≠ 158 /\ T ≠ 211) : Far2 w N k :=
 ⟨Far.blk h h1.1, fun T' cs' h' => .inl (by
  have : T' = T := by
   unfold Blk at h h'
   rw [h] at h'
   injection h' with h'
   injection h' with _ h'
   exact h'.symm
  rw [this]
  exact h1.2)⟩
theorem Far2.new {T : TypeId} {cs : Array Value} {k : Nat} (h : Blk w k T cs) (h1 : T ≠ 114 /\ T ≠ 192 /\ T ≠ 5) (hN : N <= k) : Far2 w N k := ⟨Far.blk h h1, fun _ _ _ => .inr hN⟩
theorem SnapB.keep {s : Nat} {ats : List (Int × Int)} (h : SnapB w N g add n enc s ats) (hk : GKeep N add add' n n' enc w w') : SnapB w' N g add' n' enc s ats := by
 obtain ⟨hs, t, a, h1, h2, h3⟩ := h
 exact ⟨hs, t, a, hk.sn s _ hs h1, hk.tree t a h2, h3⟩
theorem MvRows.keep {vs : List Value} {mvs : List (List Mv)} (h : MvRows w N vs mvs) (hk : KeepTy N 211 w w') : MvRows w' N vs mvs := by
 refine ⟨h.1, fun i v mv hv hm => ?_⟩
 obtain ⟨A, m, c, e, hc, hr, hl⟩ := h.2 i v mv hv hm
 exact ⟨A, m, c, e, hc, hr.keep hk, hl⟩
theorem GrAt.keep {p : Nat} {G : Gr} (h : GrAt w N g add n enc p G) (hk : GKeep N add add' n n' enc w w') : GrAt w' N g add' n' enc p G := by
 obtain ⟨s1, s2, A, m, c, vs, hp, h1, h2, h3, h4, h5, h6, h7⟩ := h
 exact ⟨s1, s2, A, m, c, vs, hp, hk.gr p _ hp h1, h2.keep hk, h3.keep hk, h4.keep hk.rows, h5, h6.keep hk.mvs, h7⟩
theorem SnapB.mono {s : Nat} {ats : List (Int × Int)} (h : SnapB w N g add n enc s ats) (hN : N <= N') : SnapB w N' g add n enc s ats := ⟨Nat.lt_of_lt_of_le h.1 hN, h.2⟩
theorem MvRows.mono {vs : List Value} {mvs : List (List Mv)} (h : MvRows w N vs mvs) (hN : N <= N') : MvRows w N' vs mvs := by
 refine ⟨h.1, fun i v mv hv hm => ?_⟩
 obtain ⟨A, m, c, e, hc, hr, hl⟩ := h.2 i v mv hv hm
 exact ⟨A, m, c, e, hc, hr.mono hN, hl⟩
theorem GrAt.mono {p : Nat} {G : Gr} (h : GrAt w N g add n enc p G) (hN : N <= N') : GrAt w N' g add n enc p G := by
 obtain ⟨s1, s2, A, m, c, vs, hp, h1, h2, h3, h4, h5, h6, h7⟩ := h
 exact ⟨s1, s2, A, m, c, vs, Nat.lt_of_lt_of_le hp hN, h1, h2.mono hN, h3.mono hN, h4.mono hN, h5, h6.mono hN, h7⟩
end
def StackAt (w : World) (N B g : Nat) (add : Value) (n : Nat) (enc : Int) (v : Value) (Gs : List Gr) : Prop :=
 ∃ ps : List Nat, w.ownsRow B 151 1 v ps.length (ps.map fun p => Value.pointer (some ⟨p, 0, none⟩)) /\ ps.length = Gs.length /\ (∀ (i p : Nat) (G : Gr), ps[i]? = some p -> Gs[i]? = some G -> GrAt w N g add n enc p G) /\ Gs.length <= 1048576
theorem StackAt.keep {w w' : World} {N N' B g n n' : Nat} {add add' v : Value} {enc : Int} {Gs : List Gr} (h : StackAt w N B g add n enc v Gs) (hk : GKeep N add add' n n' enc w w') (hN : N <= N')
  (ho : ∀ m xs, w.ownsRow B 151 1 v m xs -> w'.ownsRow B 151 1 v m xs) : StackAt w' N' B g add' n' enc v Gs := by
 obtain ⟨ps, h1, h2, h3, h4⟩ := h
 exact ⟨ps, ho _ _ h1, h2, fun i p G hp hG => ((h3 i p G hp hG).keep hk).mono hN, h4⟩
theorem own_fr' {w w' : World} {B e size n : Nat} {S : Nat -> Prop} {v : Value} {xs : List Value} (h : w.ownsRow B e size v n xs) (hf : Fr S w w') (hn : ∀ b cs, S b -> ¬ Blk w b e cs) : w'.ownsRow B e size v n xs :=
 own_fr h hf (fun b hb hs => by
  rcases h.2 with ⟨rfl, _⟩ | ⟨r, c, cur, rfl, _, h2, _⟩
  ·cases hb
  ·have : r = b := by simpa [Value.ownBlock] using hb
   subst this
   exact hn r cur hs h2)
theorem TextM.far {w w' : World} {B g n : Nat} {enc lim : Int} {add : Value} {t : Tr} {a : Option Addr} {xs : List Value} {S : Nat -> Prop} (h : TextM w B g enc lim n add t a xs) (hf : Fr S w w') (hS : ∀ k, k < w.heap.size -> S k -> Far w k) : TextM w' B g enc lim n add t a xs :=
 ⟨h.blk.fr hf (fun hs => (hS g h.blk.lt hs).ne (.inl rfl) h.blk rfl), own_fr' h.row hf (fun b cs hs hb => (hS b hb.lt hs).ne (.inr (.inr rfl)) hb rfl), h.enc4, Nat.le_trans h.base hf.size, h.tree.far hf hS⟩
structure OpS where
 before : List (Int × Int)
 bgn : Int
 moves : List (List Mv)
 old : Int
 changed : Bool
def OpenAt (w : World) (N B g : Nat) (add : Value) (n : Nat) (enc : Int) (p : Nat) (o : OpS) : Prop :=
 ∃ s m vm vs, Blk w p 220 #[.pointer (some ⟨s, 0, none⟩), .pointer none, .int .i64 o.bgn, .int .i64 0, vm, .int .i64 o.old, .int .i64 0, .map (some m), .slice none 0 0, .bool o.changed] /\ EmptyMap w m /\ SnapB w N g add n enc s o.before /\
  w.ownsRow N 158 1 vm vs.length vs /\ MvRows w w.heap.size vs o.moves /\ o.moves.length <= 1048576
structure BkS where
 ats : List (Int × Int)
 undo : List Gr
 redo : List Gr
 now : Option OpS
 state : Int
 saved : Int
 last : Int
 depth : Int
structure BkAt (w : World) (N B gb g : Nat) (enc lim : Int) (n : Nat) (add : Value) (st : BkS) (t : Tr) (a : Option Addr) (xs : List Value) (m : Nat) (vu vr : Value) (now : Option Addr) : Prop where
 blk : Blk w gb 83 #[.pointer (some ⟨g, 0, none⟩), .int .i64 st.depth, vu, vr, .map (some m), .slice none 0 0, .pointer now, .int .i64 st.state, .int .i64 st.saved, .int .i64 st.last]
 text : TextM w B g enc lim n add t a xs
 ats : atsL enc t.list = st.ats
 sz : szS (decL enc t.list) <= 65536
 lim0 : lim <= 65536
 map : EmptyMap w m
 undo : StackAt w N B g add n enc vu st.undo
 redo : StackAt w N B g add n enc vr st.redo
 sep : ∀ b, vu.ownBlock = some b -> vr.ownBlock ≠ some b
 open_ : match st.now with | none => now = none | some o => ∃ p, now = some ⟨p, 0, none⟩ /\ OpenAt w N B g add n enc p o
 nle : N <= w.heap.size
 nums : 0 <= st.last /\ st.last <= 1073741824 /\ 1 <= st.depth /\ st.depth <= 200
 low : B <= gb /\ B <= g /\ B <= N /\ ∀ p, now = some ⟨p, 0, none⟩ -> B <= p
def BookTy (T : TypeId) : Prop := T = 114 \/ T = 5 \/ T = 83 \/ T = 220 \/ T = 158 \/ T = 151
def BkFr (B : Nat) (w w' : World) : Prop := Fr (fun b => B <= b /\ ∃ T cs, Blk w b T cs /\ BookTy T) w w'
theorem BkFr.refl (B : Nat) (w : World) : BkFr B w w := Fr.refl _ _
theorem BkFr.below {B : Nat} {w w' : World} (h : Below w.heap.size w w') : BkFr B w w' := Fr.of_below h
theorem BkFr.trans {B : Nat} {w w' w'' : World} (h : BkFr B w w') (k : BkFr B w' w'') : BkFr B w w'' := by
 refine ⟨k.os.trans h.os, k.tape.trans h.tape, k.output.trans h.output, Nat.le_trans h.size k.size, fun i hi hn => ?_⟩
 have h1 := h.block i hi hn
 refine (k.block i (Nat.lt_of_lt_of_le hi h.size) (fun hs => ?_)).trans h1
 obtain ⟨hB, T, cs, hb, hT⟩ := hs
 exact hn ⟨hB, T, cs, h1.symm.trans hb, hT⟩
theorem BkFr.blk {B : Nat} {w w' : World} {b : Nat} {T : TypeId} {cs : Array Value} (h : BkFr B w w') (hb : Blk w b T cs) (hT : ¬ BookTy T) : Blk w' b T cs := hb.fr h (fun hs => by
 obtain ⟨-, T', cs', hb', hT'⟩ := hs
 have : T = T' := by
  unfold Blk at hb hb'
  rw [hb] at hb'
  injection hb' with hb'
  injection hb' with _ hb'
 exact hT (this ▸ hT'))
theorem OwnB.low {w : World} {B e size n y : Nat} {v : Value} {xs : List Value} (h : OwnB v y) (ho : w.ownsRow B e size v n xs) : B <= y := by
 rcases ho.2 with ⟨e0, _⟩ | ⟨r, c, cur, e0, h1, _⟩
 ·unfold OwnB at h; rw [e0] at h; cases h
 ·unfold OwnB at h
  rw [e0] at h
  have : r = y := by simpa [Value.ownBlock] using h
  omega
theorem BkFr.of_fr {B : Nat} {w w' : World} {S : Nat -> Prop} (h : Fr S w w') (hS : ∀ b, b < w.heap.size -> S b -> B <= b /\ ∃ T cs, Blk w b T cs /\ BookTy T) : BkFr B w w' := h.more hS
theorem follow_none (w : World) (gb m : Nat) (cs : Array Value) (l : Value) (hb : Blk w gb 83 cs) (h4 : cs[4]? = some (.map (some m))) (h5 : cs[5]? = some (.slice none 0 0)) (hm : EmptyMap w m) :
  Calls Tryz.prog 85 #[.pointer (some ⟨gb, 0, none⟩), l] w fun e w' => e = .returned (.tuple #[]) /\ Below w.heap.size w w' := by
 have c4 := hb.cell 4
 rw [h4] at c4
 have hx := EmptyMap.range (t := 80) hm Tryz.underlying80
 have hy := EmptyMap.next hm 0
 have c5 := (hb.alloc (.mapIter (some m) 0 #[] 0)).cell 5
 rw [h5] at c5
 clear hb h4 h5
 go_enter Tryz.func85, Tryz.ntmps85
 go_wp2_with fail
 refine wp_loop_rounds 1 ?_
 rw [rounds_succ]
 go_wp2_with fail
 refine wp_loop_rounds 1 ?_
 rw [rounds_succ]
 go_wp2_with fail
 show bodyPost _ _ _ _ _ _
 refine bodyPost_end (results_none rfl _ _ _) rfl ?_
 exact ⟨rfl, balloc (Below.refl _ _)⟩
section
variable {ds : List (Int × Int)} (hp : PosD ds) {nb : Int -> Bool} (h10 : nb 10 = false) (h13 : nb 13 = false) (h32 : nb 32 = false) {bare : Bool}
include hp h10 h13 h32
end
theorem ilt_or_ge (a b : Int) : a < b \/ b <= a := by omega
def insP (P : Nat -> Bool) (u : List Int) : Nat -> List Int -> List Int
 | _, [] => []
 | j, x :: r => (if P j = true then u else []) ++ x :: insP P u (j + 1) r
theorem insP_cons (P : Nat -> Bool) (u : List Int) (j : Nat) (x : Int) (r : List Int) : insP P u j (x :: r) = (if P j = true then u else []) ++ x :: insP P u (j + 1) r := rfl
theorem insP_app (P : Nat -> Bool) (u : List Int) : ∀ (l1 l2 : List Int) (j : Nat), insP P u j (l1 ++ l2) = insP P u j l1 ++ insP P u (j + l1.length) l2 := by
 intro l1
 induction l1 with
 | nil => intro l2 j; rfl
 | cons x r ih =>
  intro l2 j
  rw [List.cons_append, insP_cons, insP_cons, ih, List.length_cons, show j + 1 + r.length = j + (r.length + 1) by omega, List.append_assoc, List.cons_append]
theorem insP_none (P : Nat -> Bool) (u : List Int) : ∀ (l : List Int) (j : Nat), (∀ q, j <= q -> q < j + l.length -> P q = false) -> insP P u j l = l := by
 intro l
 induction l with
 | nil => intro j _; rfl
 | cons x r ih =>
  intro j h
  rw [List.length_cons] at h
  rw [insP_cons, h j (Nat.le_refl _) (by omega), ih (j + 1) (fun q h1 h2 => h q (by omega) (by omega))]
  rfl
def phi (P : Nat -> Bool) (u A : List Int) (p : Nat) : Nat := (insP P u 0 (A.take p)).length
theorem phi_zero (P : Nat -> Bool) (u A : List Int) : phi P u A 0 = 0 := by
 unfold phi
 rw [List.take_zero]
 rfl
theorem phi_len (P : Nat -> Bool) (u A : List Int) : phi P u A A.length = (insP P u 0 A).length := by
 unfold phi
 rw [List.take_length]
section
variable {P : Nat -> Bool} {u A : List Int}
theorem phi_succ {p : Nat} (h : p < A.length) : phi P u A (p + 1) = phi P u A p + (if P p = true then u else []).length + 1 := by
 unfold phi
 rw [List.take_succ_eq_append_getElem h, insP_app, List.length_append, List.length_take, Nat.min_eq_left (by omega), insP_cons, Nat.zero_add, List.length_append]
 simp only [insP, List.length_cons, List.length_nil]
 omega
theorem phi_le {p q : Nat} (h : p <= q) (hq : q <= A.length) : phi P u A p <= phi P u A q := by
 induction q with
 | zero => rw [show p = 0 by omega]; exact Nat.le_refl _
 | succ q ih =>
  rcases Nat.lt_or_ge q p with h1 | h1
  ·rw [show p = q + 1 by omega]; exact Nat.le_refl _
  ·have := ih h1 (by omega)
   have := phi_succ (P := P) (u := u) (A := A) (p := q) (by omega)
   omega
theorem phi_lt {p q : Nat} (h : p < q) (hq : q <= A.length) : phi P u A p < phi P u A q := by
 have h1 := phi_succ (P := P) (u := u) (A := A) (p := p) (by omega)
 have h2 := phi_le (P := P) (u := u) (A := A) (p := p + 1) (q := q) h hq
 omega
theorem ins_split {p : Nat} (h : p < A.length) : insP P u 0 A = insP P u 0 (A.take p) ++ ((if P p = true then u else []) ++ A[p] :: insP P u (p + 1) (A.drop (p + 1))) := by
 have e : A = A.take p ++ A[p] :: A.drop (p + 1) := by
  conv => lhs; rw [<- List.take_append_drop p A, List.drop_eq_getElem_cons h]
 conv => lhs; rw [e]
 rw [insP_app, List.length_take, Nat.min_eq_left (by omega), Nat.zero_add, insP_cons]
theorem ins_drop {p : Nat} (h : p <= A.length) : (insP P u 0 A).drop (phi P u A p) = insP P u p (A.drop p) := by
 have e : insP P u 0 A = insP P u 0 (A.take p) ++ insP P u (0 + (A.take p).length) (A.drop p) := by rw [<- insP_app, List.take_append_drop]
 rw [e]
 unfold phi
 rw [List.drop_left, List.length_take, Nat.min_eq_left h, Nat.zero_add]
theorem ins_at {p : Nat} (h : p < A.length) : (insP P u 0 A).getD (phi P u A (p + 1) - 1) 0 = A.getD p 0 := by
 have e := phi_succ (P := P) (u := u) (A := A) h
 have e2 : (insP P u 0 (A.take p)).length = phi P u A p := rfl
 rw [ins_split h]
 generalize (if P p = true then u else []) = v at e ⊢
 rw [List.getD_eq_getElem?_getD, List.getElem?_append_right (by omega), List.getElem?_append_right (by omega), show phi P u A (p + 1) - 1 - (insP P u 0 (A.take p)).length - v.length = 0 by omega, List.getElem?_cons_zero, List.getD_eq_getElem?_getD, List.getElem?_eq_getElem h]
theorem ins_tab {p j : Nat} (h : p < A.length) (hP : P p = true) (hj : j < u.length) : (insP P u 0 A).getD (phi P u A p + j) 0 = u.getD j 0 := by
 have e2 : (insP P u 0 (A.take p)).length = phi P u A p := rfl
 rw [ins_split h, if_pos hP, List.getD_eq_getElem?_getD, List.getElem?_append_right (by omega), List.getElem?_append_left (by omega), show phi P u A p + j - (insP P u 0 (A.take p)).length = j by omega, List.getD_eq_getElem?_getD]
theorem ins_head {p : Nat} (h : p < A.length) (hP : P p = false) : (insP P u 0 A).getD (phi P u A p) 0 = A.getD p 0 := by
 have e := phi_succ (P := P) (u := u) (A := A) h
 have e3 := ins_at (P := P) (u := u) h
 rw [hP] at e
 simp only [Bool.false_eq_true, if_false, List.length_nil, Nat.add_zero] at e
 rw [show phi P u A p = phi P u A (p + 1) - 1 by omega]
 exact e3
theorem cntE_flat {A : List Int} {a b : Nat} (h : a <= b) (hf : ∀ q, a < q -> q <= b -> isE A q = false) : cntE A b = cntE A a := by
 induction b with
 | zero => rw [show a = 0 by omega]
 | succ n ih =>
  rcases Nat.lt_or_ge n a with h1 | h1
  ·rw [show a = n + 1 by omega]
  ·rw [cntE_succ, hf (n + 1) (by omega) (Nat.le_refl _), ih h1 (fun q h2 h3 => hf q h2 (by omega))]
   simp
structure InsOk (P : Nat -> Bool) (u A : List Int) : Prop where
 at_ : ∀ p, P p = true -> p < A.length /\ A.getD p 0 ≠ 10 /\ A.getD p 0 ≠ 13
 u10 : ∀ x ∈ u, x ≠ 10 /\ x ≠ 13
 u0 : 0 < u.length
theorem getD_mem {u : List Int} {j : Nat} (h : j < u.length) : u.getD j 0 ∈ u := by
 rw [List.getD_eq_getElem?_getD, List.getElem?_eq_getElem h]
 exact List.getElem_mem h
theorem isE_phi (ho : InsOk P u A) {p : Nat} (h : p <= A.length) : isE (insP P u 0 A) (phi P u A p) = isE A p := by
 cases p with
 | zero => rw [phi_zero]; unfold isE; simp
 | succ q =>
  have h1 := ins_at (P := P) (u := u) (A := A) (p := q) (by omega)
  have h2 := phi_lt (P := P) (u := u) (A := A) (p := q) (q := q + 1) (by omega) h
  have h3 := phi_le (P := P) (u := u) (A := A) (p := q + 1) (q := A.length) h (Nat.le_refl _)
  have h4 := phi_len P u A
  have hn : (phi P u A (q + 1) < (insP P u 0 A).length /\ (insP P u 0 A).getD (phi P u A (q + 1)) 0 = 10) ↔ (q + 1 < A.length /\ A.getD (q + 1) 0 = 10) := by
   rcases Nat.lt_or_ge (q + 1) A.length with hq | hq
   ·have h5 := phi_lt (P := P) (u := u) (A := A) (p := q + 1) (q := A.length) hq (Nat.le_refl _)
    cases hb : P (q + 1) with
    | true =>
     have h6 := ins_tab (j := 0) hq hb ho.u0
     rw [Nat.add_zero] at h6
     have h7 := ho.u10 _ (getD_mem ho.u0)
     have h8 := ho.at_ _ hb
     rw [h6]
     exact ⟨fun h => absurd h.2 h7.1, fun h => absurd h.2 h8.2.1⟩
    | false =>
     rw [ins_head hq hb]
     exact ⟨fun h => ⟨hq, h.2⟩, fun h => ⟨by omega, h.2⟩⟩
   ·have : q + 1 = A.length := by omega
    rw [this]
    exact ⟨fun h => by omega, fun h => by omega⟩
  unfold isE
  rw [h1, Nat.add_sub_cancel, Bool.eq_iff_iff, decide_eq_true_eq, decide_eq_true_eq, hn]
  exact ⟨fun h5 => ⟨by omega, h, h5.2.2⟩, fun h5 => ⟨by omega, by omega, h5.2.2⟩⟩
theorem cnt_phi (ho : InsOk P u A) {p : Nat} (h : p <= A.length) : cntE (insP P u 0 A) (phi P u A p) = cntE A p := by
 induction p with
 | zero => rw [phi_zero]; rfl
 | succ q ih =>
  have e := phi_succ (P := P) (u := u) (A := A) (p := q) (by omega)
  have hm : cntE (insP P u 0 A) (phi P u A (q + 1) - 1) = cntE (insP P u 0 A) (phi P u A q) := cntE_flat (by omega) (fun r h1 h2 => by
   cases hb : P q with
   | false =>
    rw [hb] at e
    simp at e
    omega
   | true =>
    rw [hb, if_pos rfl] at e
    have h3 := ins_tab (u := u) (j := r - 1 - phi P u A q) (show q < A.length by omega) hb (by omega)
    rw [show phi P u A q + (r - 1 - phi P u A q) = r - 1 by omega] at h3
    have h4 := ho.u10 _ (getD_mem (show r - 1 - phi P u A q < u.length by omega))
    unfold isE
    rw [h3, decide_eq_false_iff_not]
    rintro ⟨_, _, h5 | h5⟩
    ·exact h4.1 h5
    ·exact h4.2 h5.1)
  have h5 := cntE_succ (insP P u 0 A) (phi P u A (q + 1) - 1)
  rw [show phi P u A (q + 1) - 1 + 1 = phi P u A (q + 1) by omega] at h5
  rw [h5, hm, ih (by omega), isE_phi ho h, cntE_succ]
end
section
variable {ds ds' : List (Int × Int)} (hp : PosD ds) (hp' : PosD ds') {P : Nat -> Bool} {u : List Int} (ho : InsOk P u (ds.map Prod.fst)) (hd : ds'.map Prod.fst = insP P u 0 (ds.map Prod.fst))
include hp in
theorem sk_uniq {k p : Nat} (h0 : 0 < k) (hk : k <= totE ds) (he : isE (ds.map Prod.fst) p = true) (hc : cntE (ds.map Prod.fst) p = k) : sk ds k = p := by
 obtain ⟨_, h2, h3⟩ := sk_spec hp h0 hk
 rcases Nat.lt_trichotomy (sk ds k) p with h | h | h
 ·have := cntE_lt (ds.map Prod.fst) h he
  omega
 ·exact h
 ·have := cntE_lt (ds.map Prod.fst) h h2
  omega
include hd in
theorem len_phi : ds'.length = phi P u (ds.map Prod.fst) ds.length := by
 have h1 := congrArg List.length hd
 rw [List.length_map, <- phi_len, List.length_map] at h1
 exact h1
include ho hd in
theorem tot_phi : totE ds' = totE ds := by
 unfold totE
 rw [len_phi hd, hd]
 exact cnt_phi ho (by rw [List.length_map]; exact Nat.le_refl _)
include hp hp' ho hd
theorem sk_phi {k : Nat} (hk : k <= totE ds) : sk ds' k = phi P u (ds.map Prod.fst) (sk ds k) := by
 rcases Nat.eq_zero_or_pos k with h0 | h0
 ·subst h0
  rw [sk_zero, sk_zero, phi_zero]
 ·have hs := sk_spec hp h0 hk
  have hl := isE_le hs.2.1
  refine sk_uniq hp' h0 (by rw [tot_phi ho hd]; exact hk) ?_ ?_
  ·rw [hd, isE_phi ho hl.2]
   exact hs.2.1
  ·rw [hd, cnt_phi ho hl.2]
   exact hs.2.2
theorem count_phi : countF ds' = countF ds := by
 have h1 := sk_cnt hp (k := totE ds) (Nat.le_refl _)
 have h2 := sk_phi hp hp' ho hd (k := totE ds) (Nat.le_refl _)
 have h3 := len_phi hd
 have hl : (ds.map Prod.fst).length = ds.length := List.length_map ..
 have h5 := phi_zero P u (ds.map Prod.fst)
 have he : endB ds' = endB ds := by
  unfold endB
  rw [tot_phi ho hd, h2, h3, Bool.eq_iff_iff, decide_eq_true_eq, decide_eq_true_eq]
  constructor
  ·rintro ⟨h6, h7⟩
   refine ⟨?_, ?_⟩
   ·rcases Nat.eq_zero_or_pos ds.length with h8 | h8
    ·rw [h8, h5] at h6
     omega
    ·exact h8
   ·rcases Nat.lt_or_ge (sk ds (totE ds)) ds.length with h8 | h8
    ·have := phi_lt (P := P) (u := u) (A := ds.map Prod.fst) h8 (by omega)
     omega
    ·omega
  ·rintro ⟨h6, h7⟩
   rw [h7]
   refine ⟨?_, rfl⟩
   have := phi_lt (P := P) (u := u) (A := ds.map Prod.fst) h6 (by omega)
   omega
 unfold countF
 rw [tot_phi ho hd, he]
theorem line_phi {i : Nat} (hi : i <= totE ds) : lineF ds' i = ⟨(phi P u (ds.map Prod.fst) (lineF ds i).from_.toNat : Int), (phi P u (ds.map Prod.fst) (lineF ds i).to_.toNat : Int), (phi P u (ds.map Prod.fst) (lineF ds i).next.toNat : Int), (lineF ds i).brk⟩ := by
 have ht := tot_phi ho hd
 have hl : (ds.map Prod.fst).length = ds.length := List.length_map ..
 have hlp := len_phi hd
 unfold lineF
 rw [ht]
 by_cases hlt : i < totE ds
 ·rw [if_pos hlt, if_pos hlt]
  have h1 := sk_phi hp hp' ho hd hi
  have h2 := sk_phi hp hp' ho hd (k := i + 1) hlt
  have h3 := sk_lt hp hlt
  have h4 := sk_spec hp (k := i + 1) (by omega) hlt
  have h5 := isE_le h4.2.1
  have h6 := isE_brk h4.2.1
  rw [hd, h1, h2]
  obtain ⟨a, ha⟩ : ∃ a, sk ds i = a := ⟨_, rfl⟩
  obtain ⟨b, hb⟩ : ∃ b, sk ds (i + 1) = b + 1 := ⟨sk ds (i + 1) - 1, by omega⟩
  rw [ha, hb] at h3
  rw [hb] at h5 h6
  rw [ha, hb]
  obtain ⟨A, hA⟩ : ∃ A, ds.map Prod.fst = A := ⟨_, rfl⟩
  rw [hA] at ho hl h5 h6 ⊢
  simp only [Nat.add_sub_cancel] at h6
  have hPb : P b = false := by
   cases hq : P b with
   | false => rfl
   | true =>
    have := ho.at_ _ hq
    omega
  have k1 := ins_at (P := P) (u := u) (A := A) (p := b) (by omega)
  have k2 := phi_succ (P := P) (u := u) (A := A) (p := b) (by omega)
  rw [hPb] at k2
  simp only [Bool.false_eq_true, if_false, List.length_nil, Nat.add_zero] at k2
  unfold closedF
  rw [k1]
  simp only [Nat.add_sub_cancel]
  by_cases h13 : A.getD b 0 = 13
  ·rw [if_pos h13, if_pos h13]
   dsimp only
   rw [show ((a : Int)).toNat = a by omega, show (((b + 1 : Nat) : Int) - 1).toNat = b by omega, show (((b + 1 : Nat) : Int)).toNat = b + 1 by omega, k2]
   congr 1
   omega
  ·rw [if_neg h13, if_neg h13]
   have hiff : (phi P u A a + 2 <= phi P u A (b + 1) /\ (insP P u 0 A).getD (phi P u A (b + 1) - 2) 0 = 13) ↔ (a + 2 <= b + 1 /\ A.getD (b + 1 - 2) 0 = 13) := by
    rcases Nat.lt_or_ge a b with hab | hab
    ·have k3 := ins_at (P := P) (u := u) (A := A) (p := b - 1) (by omega)
     rw [show b - 1 + 1 = b by omega] at k3
     have k4 := phi_lt (P := P) (u := u) (A := A) (p := a) (q := b) hab (by omega)
     rw [show phi P u A (b + 1) - 2 = phi P u A b - 1 by omega, k3, show b + 1 - 2 = b - 1 by omega]
     exact ⟨fun h => ⟨by omega, h.2⟩, fun h => ⟨by omega, h.2⟩⟩
    ·have : a = b := by omega
     subst this
     exact ⟨fun h => by omega, fun h => by omega⟩
   by_cases h2c : a + 2 <= b + 1 /\ A.getD (b + 1 - 2) 0 = 13
   ·rw [if_pos h2c, if_pos (hiff.2 h2c)]
    dsimp only
    have hPc : P (b - 1) = false := by
     cases hq : P (b - 1) with
     | false => rfl
     | true =>
      have := (ho.at_ _ hq).2.2
      exact absurd (show A.getD (b - 1) 0 = 13 by rw [show b - 1 = b + 1 - 2 by omega]; exact h2c.2) this
    have k5 := phi_succ (P := P) (u := u) (A := A) (p := b - 1) (by omega)
    rw [hPc, show b - 1 + 1 = b by omega] at k5
    simp only [Bool.false_eq_true, if_false, List.length_nil, Nat.add_zero] at k5
    rw [show ((a : Int)).toNat = a by omega, show (((b + 1 : Nat) : Int) - 2).toNat = b - 1 by omega, show (((b + 1 : Nat) : Int)).toNat = b + 1 by omega, k2, k5]
    congr 1
    omega
   ·rw [if_neg h2c, if_neg (fun h => h2c (hiff.1 h))]
    dsimp only
    rw [show ((a : Int)).toNat = a by omega, show (((b + 1 : Nat) : Int) - 1).toNat = b by omega, show (((b + 1 : Nat) : Int)).toNat = b + 1 by omega, k2]
    congr 1
    omega
 ·rw [if_neg hlt, if_neg hlt]
  have h1 := sk_phi hp hp' ho hd hi
  dsimp only
  rw [h1, hlp]
  simp
theorem cont_phi {i : Nat} (hi : i <= totE ds) (hin : ∀ q : Nat, (lineF ds i).from_ < q -> (q : Int) < (lineF ds i).to_ -> P q = false) : cont ds' i = (if P (lineF ds i).from_.toNat = true then u else []) ++ cont ds i := by
 have hbd := lineF_bd hp hi
 have hl : (ds.map Prod.fst).length = ds.length := List.length_map ..
 have hf := line_form hp hi
 have hlt := line_from ds i
 unfold cont
 rw [line_phi hp hp' ho hd hi]
 dsimp only
 obtain ⟨a, ha⟩ : ∃ a : Nat, (lineF ds i).from_ = a := ⟨_, hlt⟩
 obtain ⟨b, hb⟩ : ∃ b : Nat, (lineF ds i).to_ = b := ⟨(lineF ds i).to_.toNat, by omega⟩
 rw [ha, hb] at hin hbd
 rw [ha, hb] at hf
 rw [ha, hb, hd]
 obtain ⟨A, hA⟩ : ∃ A, ds.map Prod.fst = A := ⟨_, rfl⟩
 rw [hA] at ho hl hf ⊢
 simp only [Int.toNat_natCast]
 unfold seg
 simp only [Int.toNat_natCast]
 rw [ins_drop (by omega)]
 rcases Nat.lt_or_ge a b with hab | hab
 ·have e1 : A.drop a = (A.drop a).take (b - a) ++ A.drop b := by
   conv => lhs; rw [<- List.take_append_drop (b - a) (A.drop a), List.drop_drop, show a + (b - a) = b by omega]
  have hlen : ((A.drop a).take (b - a)).length = b - a := by rw [List.length_take, List.length_drop]; omega
  have e2 : phi P u A b - phi P u A a = (insP P u a ((A.drop a).take (b - a))).length := by
   have : A.take b = A.take a ++ (A.drop a).take (b - a) := by rw [<- List.take_add, show a + (b - a) = b by omega]
   unfold phi
   rw [this, insP_app, List.length_append, List.length_take, Nat.min_eq_left (by omega), Nat.zero_add]
   omega
  have e4 : insP P u a (A.drop a) = insP P u a ((A.drop a).take (b - a)) ++ insP P u (a + ((A.drop a).take (b - a)).length) (A.drop b) := by
   conv => lhs; rw [e1]
   rw [insP_app]
  rw [e2, e4, List.take_left]
  have e3 : (A.drop a).take (b - a) = A[a] :: (A.drop (a + 1)).take (b - (a + 1)) := by
   rw [List.drop_eq_getElem_cons (show a < A.length by omega), show b - a = (b - (a + 1)) + 1 by omega]
   rfl
  rw [e3, insP_cons, insP_none]
  intro q h1 h2
  rw [List.length_take, List.length_drop] at h2
  exact hin q (by omega) (by omega)
 ·have : a = b := by omega
  subst this
  have hPa : P a = false := by
   cases hq : P a with
   | false => rfl
   | true =>
    exfalso
    have h1 := ho.at_ _ hq
    by_cases hnx : (a : Int) < (lineF ds i).next
    ·have := hf.2.1 a (by omega) hnx
     omega
    ·by_cases hit : i < totE ds
     ·have := (hf.2.2 hit).1
      omega
     ·have : (lineF ds i).to_ = ds.length := by
       unfold lineF
       rw [if_neg hit]
      omega
  simp [hPa]
end
def abE (e : Ed) : Int × Int × List Int := (e.f, e.t, e.put)
theorem edL_ins (P : Nat -> Bool) (u A : List Int) : ∀ (ps : List Nat) (es : List Ed) (a : Nat), es.map abE = ps.map (fun p : Nat => ((p : Int), (p : Int), u)) -> a <= A.length -> (∀ q, a <= q -> (P q = true ↔ q ∈ ps)) -> ps.Pairwise (· < ·) -> (∀ q ∈ ps, a <= q /\ q < A.length) ->
  edL (fun x => x) es A = A.take a ++ insP P u a (A.drop a) := by
 intro ps
 induction ps with
 | nil =>
  intro es a he ha hP _ _
  have : es = [] := by simpa using he
  subst this
  rw [insP_none]
  ·exact (List.take_append_drop _ _).symm
  ·intro q h1 _
   cases hq : P q with
   | false => rfl
   | true => have := (hP q h1).1 hq; cases this
 | cons p r ih =>
  intro es a he ha hP hs hm
  cases es with
  | nil => cases he
  | cons e es =>
   rw [List.map_cons, List.map_cons] at he
   injection he with he1 he2
   have hpm := hm p List.mem_cons_self
   have hs' := List.pairwise_cons.1 hs
   have hI := ih es (p + 1) he2 (by omega) (fun q h1 => by
    have h2 := hP q (by omega)
    rw [h2, List.mem_cons]
    exact ⟨fun h => h.resolve_left (by omega), fun h => .inr h⟩) hs'.2 (fun q h1 => ⟨hs'.1 q h1, (hm q (List.mem_cons_of_mem _ h1)).2⟩)
   unfold abE at he1
   injection he1 with e1 he1
   injection he1 with e2 e3
   rw [edL_cons, hI]
   unfold ed1
   rw [e1, e2, e3, List.take_succ_eq_append_getElem hpm.2, List.map_id', show ((p : Int)).toNat = p by omega]
   have e9 : A.take p ++ [A[p]] ++ insP P u (p + 1) (A.drop (p + 1)) = A.take p ++ (A[p] :: insP P u (p + 1) (A.drop (p + 1))) := by rw [List.append_assoc]; rfl
   rw [e9]
   have hlen : (A.take p).length = p := by rw [List.length_take]; omega
   rw [List.take_left' hlen, List.drop_left' hlen]
   have e4 : A.drop a = (A.drop a).take (p - a) ++ A.drop p := by
    conv => lhs; rw [<- List.take_append_drop (p - a) (A.drop a), List.drop_drop, show a + (p - a) = p by omega]
   have e5 : A.take p = A.take a ++ (A.drop a).take (p - a) := by rw [<- List.take_add, show a + (p - a) = p by omega]
   have e6 : ((A.drop a).take (p - a)).length = p - a := by rw [List.length_take, List.length_drop]; omega
   conv => rhs; rw [e4, insP_app, e6, show a + (p - a) = p by omega]
   rw [insP_none P u ((A.drop a).take (p - a)), e5, List.drop_eq_getElem_cons hpm.2, insP_cons, if_pos ((hP p hpm.1).2 List.mem_cons_self)]
   ·simp only [List.append_assoc]
   ·intro q h1 h2
    rw [e6] at h2
    cases hq : P q with
    | false => rfl
    | true =>
     have h3 := (hP q h1).1 hq
     rcases List.mem_cons.1 h3 with h4 | h4
     ·omega
     ·have := hs'.1 q h4
      omega
theorem edL_del (P : Nat -> Bool) (u A : List Int) : ∀ (ps : List Nat) (es : List Ed) (a : Nat), es.map abE = ps.map (fun p => ((phi P u A p : Int), ((phi P u A p + u.length : Nat) : Int), [])) -> a <= A.length -> (∀ q, a <= q -> (P q = true ↔ q ∈ ps)) -> ps.Pairwise (· < ·) -> (∀ q ∈ ps, a <= q /\ q < A.length) ->
  edL (fun x => x) es (insP P u 0 A) = insP P u 0 (A.take a) ++ A.drop a := by
 intro ps
 induction ps with
 | nil =>
  intro es a he ha hP _ _
  have : es = [] := by simpa using he
  subst this
  have e : insP P u 0 A = insP P u 0 (A.take a) ++ insP P u (0 + (A.take a).length) (A.drop a) := by rw [<- insP_app, List.take_append_drop]
  have e2 : edL (fun x => x) [] (insP P u 0 A) = insP P u 0 A := rfl
  rw [e2, e, insP_none P u (A.drop a)]
  ·intro q h1 _
   rw [List.length_take] at h1
   cases hq : P q with
   | false => rfl
   | true => have := (hP q (by omega)).1 hq; cases this
 | cons p r ih =>
  intro es a he ha hP hs hm
  cases es with
  | nil => cases he
  | cons e es =>
   rw [List.map_cons, List.map_cons] at he
   injection he with he1 he2
   have hpm := hm p List.mem_cons_self
   have hs' := List.pairwise_cons.1 hs
   have hPp : P p = true := (hP p hpm.1).2 List.mem_cons_self
   have hI := ih es (p + 1) he2 (by omega) (fun q h1 => by
    have h2 := hP q (by omega)
    rw [h2, List.mem_cons]
    exact ⟨fun h => h.resolve_left (by omega), fun h => .inr h⟩) hs'.2 (fun q h1 => ⟨hs'.1 q h1, (hm q (List.mem_cons_of_mem _ h1)).2⟩)
   unfold abE at he1
   injection he1 with e1 he1
   injection he1 with e2 e3
   have e6 : (A.take p).length = p := by rw [List.length_take]; omega
   rw [edL_cons, hI]
   unfold ed1
   rw [e1, e2, e3, List.take_succ_eq_append_getElem hpm.2, insP_app, e6, Nat.zero_add, insP_cons, if_pos hPp, List.map_nil, List.append_nil]
   have e7 : (insP P u 0 (A.take p)).length = phi P u A p := rfl
   have e8 : insP P u (p + 1) [] = [] := rfl
   rw [e8, show ((phi P u A p : Nat) : Int).toNat = phi P u A p by omega, show ((phi P u A p + u.length : Nat) : Int).toNat = phi P u A p + u.length by omega]
   have e9 : insP P u 0 (A.take p) ++ (u ++ [A[p]]) ++ A.drop (p + 1) = insP P u 0 (A.take p) ++ (u ++ (A[p] :: A.drop (p + 1))) := by rw [List.append_assoc, List.append_assoc]; rfl
   rw [e9, List.take_left' e7, <- List.append_assoc (insP P u 0 (A.take p)) u, List.drop_left' (by rw [List.length_append, e7])]
   have e4 : A.drop a = (A.drop a).take (p - a) ++ A.drop p := by
    conv => lhs; rw [<- List.take_append_drop (p - a) (A.drop a), List.drop_drop, show a + (p - a) = p by omega]
   have e5 : A.take p = A.take a ++ (A.drop a).take (p - a) := by rw [<- List.take_add, show a + (p - a) = p by omega]
   have e10 : ((A.drop a).take (p - a)).length = p - a := by rw [List.length_take, List.length_drop]; omega
   have e11 : insP P u 0 (A.take p) = insP P u 0 (A.take a) ++ (A.drop a).take (p - a) := by
    rw [e5, insP_app, List.length_take, Nat.min_eq_left ha, Nat.zero_add, insP_none P u ((A.drop a).take (p - a))]
    intro q h1 h2
    rw [e10] at h2
    cases hq : P q with
    | false => rfl
    | true =>
     have h3 := (hP q h1).1 hq
     rcases List.mem_cons.1 h3 with h4 | h4
     ·omega
     ·have := hs'.1 q h4
      omega
   rw [e11, List.append_assoc, <- List.drop_eq_getElem_cons hpm.2, <- e4]
def psF (ds : List (Int × Int)) (f m : Nat) : List Nat := (List.range' f m).flatMap fun i => if (lineF ds i).from_ < (lineF ds i).to_ then [(lineF ds i).from_.toNat] else []
theorem psF_mem {ds : List (Int × Int)} {f m q : Nat} : q ∈ psF ds f m ↔ ∃ i, f <= i /\ i < f + m /\ (lineF ds i).from_ < (lineF ds i).to_ /\ q = (lineF ds i).from_.toNat := by
 unfold psF
 rw [List.mem_flatMap]
 constructor
 ·rintro ⟨i, hi, hq⟩
  rw [List.mem_range'_1] at hi
  split at hq
  ·rename_i h
   exact ⟨i, hi.1, hi.2, h, by simpa using hq⟩
  ·cases hq
 ·rintro ⟨i, h1, h2, h3, h4⟩
  exact ⟨i, List.mem_range'_1.2 ⟨h1, h2⟩, by rw [if_pos h3, h4]; exact List.mem_singleton.2 rfl⟩
theorem psF_succ (ds : List (Int × Int)) (f m : Nat) : psF ds f (m + 1) = psF ds f m ++ (if (lineF ds (f + m)).from_ < (lineF ds (f + m)).to_ then [(lineF ds (f + m)).from_.toNat] else []) := by
 unfold psF
 rw [List.range'_1_concat, List.flatMap_append, List.flatMap_cons, List.flatMap_nil, List.append_nil]
theorem sk_mono {ds : List (Int × Int)} (hp : PosD ds) {i j : Nat} (h : i < j) (hj : j <= totE ds) : sk ds i < sk ds j := by
 induction j with
 | zero => omega
 | succ j ih =>
  have h1 := sk_lt hp (k := j) (by omega)
  rcases Nat.lt_or_ge i j with h2 | h2
  ·have := ih h2 (by omega)
   omega
  ·rw [show i = j by omega]
   exact h1
theorem psF_sorted {ds : List (Int × Int)} (hp : PosD ds) (f : Nat) : ∀ m, f + m <= totE ds + 1 -> (psF ds f m).Pairwise (· < ·) := by
 intro m
 induction m with
 | zero => intro _; exact List.Pairwise.nil
 | succ m ih =>
  intro h
  rw [psF_succ, List.pairwise_append]
  refine ⟨ih (by omega), ?_, fun a ha b hb => ?_⟩
  ·split
   ·exact List.pairwise_singleton _ _
   ·exact List.Pairwise.nil
  ·split at hb
   ·rw [List.mem_singleton] at hb
    obtain ⟨i, h1, h2, h3, h4⟩ := psF_mem.1 ha
    rw [h4, hb, line_from, line_from]
    have := sk_mono hp (i := i) (j := f + m) h2 (by omega)
    omega
   ·cases hb
theorem psF_at {ds : List (Int × Int)} (hp : PosD ds) {f m q : Nat} (hm : f + m <= totE ds + 1) (h : q ∈ psF ds f m) : q < ds.length /\ (ds.map Prod.fst).getD q 0 ≠ 10 /\ (ds.map Prod.fst).getD q 0 ≠ 13 := by
 obtain ⟨i, h1, h2, h3, h4⟩ := psF_mem.1 h
 have hbd := lineF_bd hp (i := i) (by omega)
 have hf := (line_form hp (i := i) (by omega)).1 q (by omega) (by omega)
 exact ⟨by omega, hf⟩
def bgnF (A : List Int) (F T : Int) (q : Nat) : Bool := decide (F <= q /\ (q : Int) < T /\ (q = 0 \/ A.getD (q - 1) 0 = 10 \/ (A.getD (q - 1) 0 = 13 /\ A.getD q 0 ≠ 10)) /\ A.getD q 0 ≠ 10 /\ A.getD q 0 ≠ 13)
theorem psF_bgn {ds : List (Int × Int)} (hp : PosD ds) {f l q : Nat} (hfl : f <= l) (hl : l <= totE ds) (hq : q < ds.length) : bgnF (ds.map Prod.fst) (lineF ds f).from_ (lineF ds l).to_ q = true ↔ q ∈ psF ds f (l + 1 - f) := by
 have hlen : (ds.map Prod.fst).length = ds.length := List.length_map ..
 unfold bgnF
 rw [decide_eq_true_eq]
 constructor
 ·rintro ⟨h1, h2, h3, h4, h5⟩
  have hcE : ∃ i, i <= totE ds /\ sk ds i = q := by
   rcases h3 with h3 | h3
   ·exact ⟨0, Nat.zero_le _, by rw [h3]; rfl⟩
   ·rcases Nat.eq_zero_or_pos q with h0 | h0
    ·exact ⟨0, Nat.zero_le _, by rw [h0]; rfl⟩
    ·have he : isE (ds.map Prod.fst) q = true := by
      unfold isE
      rw [decide_eq_true_eq]
      refine ⟨h0, by omega, ?_⟩
      rcases h3 with h3 | h3
      ·exact .inl h3
      ·exact .inr ⟨h3.1, fun h => h4 h.2⟩
     have hle : cntE (ds.map Prod.fst) q <= totE ds := cntE_mono _ (by omega)
     have hpos : 0 < cntE (ds.map Prod.fst) q := by
      have := cntE_lt (ds.map Prod.fst) h0 he
      omega
     exact ⟨cntE (ds.map Prod.fst) q, hle, sk_uniq hp hpos hle he rfl⟩
  obtain ⟨i, hi, rfl⟩ := hcE
  have hfi := line_from ds i
  have hff := line_from ds f
  have hbl := lineF_bd hp hl
  have hbi := lineF_bd hp hi
  have hfl' := line_from ds l
  have g1 : f <= i := by
   rcases Nat.lt_or_ge i f with h | h
   ·have := sk_mono hp h (by omega)
    omega
   ·exact h
  have g2 : i <= l := by
   rcases Nat.lt_or_ge l i with h | h
   ·have h6 := line_form hp (i := l) hl
    have h7 := h6.2.2 (by omega)
    have h8 : sk ds (l + 1) <= sk ds i := by
     rcases Nat.lt_or_ge (l + 1) i with h9 | h9
     ·exact Nat.le_of_lt (sk_mono hp h9 hi)
     ·rw [show l + 1 = i by omega]; exact Nat.le_refl _
    have h9 := line_from ds (l + 1)
    omega
   ·exact h
  refine psF_mem.2 ⟨i, g1, by omega, ?_, by omega⟩
  rcases ilt_or_ge (lineF ds i).from_ (lineF ds i).to_ with h | h
  ·exact h
  ·exfalso
   have hform := line_form hp hi
   by_cases hit : i < totE ds
   ·have := (hform.2.2 hit).1
    have := hform.2.1 (sk ds i) (by omega) (by omega)
    omega
   ·have : (lineF ds i).to_ = ds.length := by
     unfold lineF
     rw [if_neg hit]
    omega
 ·intro h
  obtain ⟨i, h1, h2, h3, h4⟩ := psF_mem.1 h
  have hi : i <= totE ds := by omega
  have hfi := line_from ds i
  have hff := line_from ds f
  have hq2 := psF_at hp (f := f) (m := l + 1 - f) (by omega) h
  have hbi := lineF_bd hp hi
  have hbl := lineF_bd hp hl
  have hsq : sk ds i = q := by omega
  have g1 : (lineF ds f).from_ <= q := by
   rcases Nat.lt_or_ge f i with h5 | h5
   ·have := sk_mono hp h5 hi
    omega
   ·have : f = i := by omega
    subst this
    omega
  have g2 : (q : Int) < (lineF ds l).to_ := by
   rcases Nat.lt_or_ge i l with h5 | h5
   ·have := sk_mono hp h5 hl
    have := line_from ds l
    omega
   ·have : i = l := by omega
    subst this
    omega
  refine ⟨g1, g2, ?_, hq2.2⟩
  rcases Nat.eq_zero_or_pos i with h5 | h5
  ·left
   rw [h5, sk_zero] at hsq
   exact hsq.symm
  ·right
   have h6 := (sk_spec hp h5 hi).2.1
   rw [hsq] at h6
   unfold isE at h6
   rw [decide_eq_true_eq] at h6
   rcases h6.2.2 with h7 | h7
   ·exact .inl h7
   ·exact .inr ⟨h7.1, hq2.2.1⟩
end Go.Proofs.YtkocknfhdojmbaaGreat
