/-
  The walks of package tree at the pieces, third part: build, Of, Sum.
-/
import Derived.Test.YtkoakanpaehkmaaGreatDoorLTree2
set_option linter.unusedSimpArgs false
set_option linter.unusedVariables false
set_option maxRecDepth 100000
set_option maxHeartbeats 32000000
namespace Go.Proofs.YtkoakanpaehkmaaGreatDoor
open Go.RowKit
theorem Reads.form {w : World} {D : Nat -> Prop} {size n : Nat} {A : Option Addr} {xs : List Value} (h : Reads w D size A n xs) (hn : 0 < n) (hs : 0 < size) :
  ∃ b off, A = some ⟨b, off, none⟩ /\ D b /\ ∀ j u, xs[j]? = some u -> w.cell? ⟨b, off + j, none⟩ = some u := by
 obtain ⟨ad, rfl, hd, hc⟩ := h.2 hn
 have hl : 0 < xs.length := by rw [h.1]; exact Nat.mul_pos hn hs
 have h0 := hc 0 _ (List.getElem?_eq_getElem hl)
 rw [add_zero] at h0
 obtain ⟨b, off, sp⟩ := ad
 cases sp with
 | some q => simp [World.cell?] at h0; split at h0 <;> cases h0
 | none =>
  refine ⟨b, off, rfl, hd, fun j u hu => ?_⟩
  have := hc j u hu
  unfold Addr.add at this
  split at this
  ·rename_i hj; subst hj; exact this
  ·exact this
def Parts (w : World) (D : Nat -> Prop) (A : Option Addr) (n : Nat) (ps : List Pc) : Prop := Reads w D 7 A n (ps.flatMap fun p => p.cells.toList)
theorem flat7 (ps : List Pc) : (ps.flatMap fun p => p.cells.toList).length = ps.length * 7 := by
 induction ps with
 | nil => rfl
 | cons p ps ih => rw [List.flatMap_cons, List.length_append, ih]; simp [Pc.cells, partC]; omega
theorem flat7_drop (ps : List Pc) (k : Nat) : (ps.flatMap fun p => p.cells.toList).drop (k * 7) = (ps.drop k).flatMap fun p => p.cells.toList := by
 induction ps generalizing k with
 | nil => simp
 | cons p ps ih =>
  cases k with
  | zero => simp
  | succ k =>
   rw [List.flatMap_cons, List.drop_append, List.drop_succ_cons, <- ih]
   have : (p.cells.toList).length = 7 := rfl
   rw [List.drop_eq_nil_of_le (by omega), List.nil_append]
   congr 1
   omega
theorem flat7_take (ps : List Pc) (k : Nat) : (ps.flatMap fun p => p.cells.toList).take (k * 7) = (ps.take k).flatMap fun p => p.cells.toList := by
 induction ps generalizing k with
 | nil => simp
 | cons p ps ih =>
  cases k with
  | zero => simp
  | succ k =>
   rw [List.flatMap_cons, List.take_append, List.take_succ_cons, List.flatMap_cons, <- ih]
   have : (p.cells.toList).length = 7 := rfl
   rw [List.take_of_length_le (by omega)]
   congr 2
   omega
theorem Parts.len {w : World} {D : Nat -> Prop} {A : Option Addr} {n : Nat} {ps : List Pc} (h : Parts w D A n ps) : ps.length = n := by
 have := h.1
 rw [flat7] at this
 omega
theorem Parts.at_ {w : World} {b off k : Nat} {ps : List Pc} (h : ∀ j u, (ps.flatMap fun p => p.cells.toList)[j]? = some u -> w.cell? ⟨b, off + j, none⟩ = some u) (p : Pc) (hk : ps[k]? = some p) :
  ∀ j u, p.cells.toList[j]? = some u -> w.cell? ⟨b, off + (k * 7 + j), none⟩ = some u := by
 intro j u hu
 apply h
 rw [<- List.getElem?_drop, flat7_drop]
 have hlt : k < ps.length := by
  rcases Nat.lt_or_ge k ps.length with h | h
  ·exact h
  ·rw [List.getElem?_eq_none h] at hk; cases hk
 rw [List.drop_eq_getElem_cons hlt]
 rw [List.getElem?_eq_getElem hlt] at hk
 injection hk with hk
 rw [hk, List.flatMap_cons, List.getElem?_append_left]
 ·exact hu
 ·rcases Nat.lt_or_ge j p.cells.toList.length with h | h
  ·exact h
  ·rw [List.getElem?_eq_none h] at hu; cases hu
def Sums.good (s : Sums) : Prop := 0 <= s.breaks /\ s.breaks <= s.atoms /\ s.atoms <= s.bytes /\ (s.atoms = 0 -> s = zeroS) /\ (s.lf = true -> 1 <= s.breaks) /\ (s.cr = true -> 1 <= s.breaks)
theorem zeroS_good : zeroS.good := ⟨by decide, by decide, by decide, fun _ => rfl, (fun h => by cases h), (fun h => by cases h)⟩
theorem Sums.good.ok {s : Sums} (h : s.good) (hb : s.bytes <= 2147483648) : s.ok := by
 obtain ⟨h1, h2, h3, _, _, _⟩ := h
 exact ⟨by omega, by omega, by omega, hb, h1, by omega⟩
theorem addF_good {s o : Sums} (hs : s.good) (ho : o.good) : (addF s o).good /\ (addF s o).atoms = s.atoms + o.atoms /\ (addF s o).bytes = s.bytes + o.bytes := by
 obtain ⟨s1, s2, s3, s4, s5, s6⟩ := hs
 have ho' := ho
 obtain ⟨o1, o2, o3, o4, o5, o6⟩ := ho
 by_cases h1 : s.atoms = 0
 ·have e := s4 h1
  have e2 : addF s o = o := by unfold addF; rw [if_pos h1]
  rw [e2, e]
  exact ⟨ho', by simp [zeroS], by simp [zeroS]⟩
 ·by_cases h2 : o.atoms = 0
  ·have e := o4 h2
   have e2 : addF s o = s := by unfold addF; rw [if_neg h1, if_pos h2]
   rw [e2, e]
   exact ⟨⟨s1, s2, s3, s4, s5, s6⟩, by simp [zeroS], by simp [zeroS]⟩
  ·have e2 : addF s o = { atoms := s.atoms + o.atoms, bytes := s.bytes + o.bytes, breaks := if (s.cr && o.lf) = true then s.breaks + o.breaks - 1 else s.breaks + o.breaks, lf := s.lf, cr := o.cr } := by
    unfold addF; rw [if_neg h1, if_neg h2]
   rw [e2]
   refine ⟨⟨?_, ?_, ?_, fun h => ?_, fun h => ?_, fun h => ?_⟩, rfl, rfl⟩
   ·dsimp only
    split
    ·rename_i hc; simp only [Bool.and_eq_true] at hc; have := s6 hc.1; omega
    ·omega
   ·dsimp only
    split <;> omega
   ·dsimp only; omega
   ·dsimp only at h; exfalso; omega
   ·dsimp only at h ⊢
    have := s5 h
    split
    ·rename_i hc; simp only [Bool.and_eq_true] at hc; have := o5 hc.2; omega
    ·omega
   ·dsimp only at h ⊢
    have := o6 h
    split
    ·rename_i hc; simp only [Bool.and_eq_true] at hc; have := s6 hc.1; omega
    ·omega
theorem singleF_good (a z : Int) (hz : 1 <= z) : (singleF a z).good := by
 unfold Sums.good singleF
 dsimp only
 refine ⟨by split <;> omega, by split <;> omega, by omega, fun h => by omega, fun h => ?_, fun h => ?_⟩
 ·rw [beq_iff_eq] at h; rw [if_pos (.inl h)]; exact Int.le_refl _
 ·rw [beq_iff_eq] at h; rw [if_pos (.inr h)]; exact Int.le_refl _
theorem foldl_good (ds : List (Int × Int)) (hd : ∀ d ∈ ds, 1 <= d.2) : ∀ s : Sums, s.good -> (ds.foldl stepS s).good /\ (ds.foldl stepS s).atoms = s.atoms + ds.length /\ (ds.foldl stepS s).bytes = s.bytes + (ds.map Prod.snd).sum := by
 induction ds with
 | nil => intro s h; exact ⟨h, by simp, by simp⟩
 | cons d ds ih =>
  intro s h
  have h1 := addF_good h (singleF_good d.1 d.2 (hd d List.mem_cons_self))
  obtain ⟨g, ga, gb⟩ := ih (fun d' h' => hd d' (List.mem_cons_of_mem _ h')) (stepS s d) h1.1
  refine ⟨g, ?_, ?_⟩
  ·rw [List.foldl_cons, ga]
   have : (stepS s d).atoms = s.atoms + 1 := h1.2.1
   rw [this, List.length_cons]
   omega
  ·rw [List.foldl_cons, gb]
   have : (stepS s d).bytes = s.bytes + d.2 := h1.2.2
   rw [this, List.map_cons, List.sum_cons]
   omega
theorem decF_size (enc : Int) : ∀ (f : Nat) (l : List Int), l.length <= f -> (∀ d ∈ decF enc f l, 1 <= d.2) /\ ((decF enc f l).map Prod.snd).sum = l.length := by
 intro f
 induction f with
 | zero => intro l h; simp [decF]; omega
 | succ f ih =>
  intro l h
  simp only [decF]
  split
  ·rename_i h0; simp [h0]
  ·have hb := sizeAt_bd enc l (by omega)
   obtain ⟨h1, h2⟩ := ih (l.drop (sizeAt enc l).toNat) (by rw [List.length_drop]; omega)
   refine ⟨fun d hd => ?_, ?_⟩
   ·rcases List.mem_cons.1 hd with rfl | hd
    ·exact hb.1
    ·exact h1 d hd
   ·rw [List.map_cons, List.sum_cons, h2, List.length_drop]
    dsimp only
    omega
def totB (ps : List Pc) : Int := (ps.map fun p => p.sum.bytes).sum
theorem totB_app (a b : List Pc) : totB (a ++ b) = totB a + totB b := by unfold totB; rw [List.map_append, List.sum_append]
theorem totB_cons (a : Pc) (b : List Pc) : totB (a :: b) = a.sum.bytes + totB b := by unfold totB; rw [List.map_cons, List.sum_cons]
def AllGood (ps : List Pc) : Prop := ∀ p ∈ ps, p.sum.good
theorem totB_nonneg {ps : List Pc} (h : AllGood ps) : 0 <= totB ps := by
 induction ps with
 | nil => exact Int.le_refl _
 | cons p ps ih =>
  have h1 := h p List.mem_cons_self
  have := ih (fun q hq => h q (List.mem_cons_of_mem _ hq))
  rw [totB_cons]
  obtain ⟨a, b, c, _⟩ := h1
  omega
theorem Tr.sum_good : ∀ t : Tr, AllGood t.list -> t.sum.good /\ t.sum.bytes = totB t.list
 | .nil, _ => ⟨zeroS_good, rfl⟩
 | .node l x r, h => by
  have hl := Tr.sum_good l (fun p hp => h p (by simp [Tr.list, hp]))
  have hr := Tr.sum_good r (fun p hp => h p (by simp [Tr.list, hp]))
  have hx : x.sum.good := h x (by simp [Tr.list])
  have h1 : (lsum l x).good /\ (lsum l x).bytes = totB l.list + x.sum.bytes := by
   cases l with
   | nil => exact ⟨hx, by simp [lsum, Tr.list, totB]⟩
   | node a b c =>
    have := addF_good hl.1 hx
    exact ⟨this.1, by show (addF _ _).bytes = _; rw [this.2.2, hl.2]⟩
  rw [Tr.sum_node, Tr.list, totB_app, totB_cons]
  cases r with
  | nil => exact ⟨h1.1, by rw [show rsum (lsum l x) Tr.nil = lsum l x from rfl, h1.2]; simp [Tr.list, totB]⟩
  | node a b c =>
   have := addF_good h1.1 hr.1
   refine ⟨this.1, ?_⟩
   show (addF _ _).bytes = _
   rw [this.2.2, h1.2, hr.2]
   omega
theorem lsum_good (l : Tr) (x : Pc) (hl : AllGood l.list) (hx : x.sum.good) : (lsum l x).good /\ (lsum l x).bytes = totB l.list + x.sum.bytes := by
 have h1 := Tr.sum_good l hl
 cases l with
 | nil => exact ⟨hx, by simp [lsum, Tr.list, totB]⟩
 | node a b c =>
  have := addF_good h1.1 hx
  exact ⟨this.1, by show (addF _ _).bytes = _; rw [this.2.2, h1.2]⟩
theorem Tr.size_list : ∀ t : Tr, t.size = t.list.length
 | .nil => rfl
 | .node l x r => by simp only [Tr.size, Tr.list, List.length_append, List.length_cons, Tr.size_list l, Tr.size_list r]; omega
theorem Tr.tall_le : ∀ t : Tr, 0 <= t.tall /\ t.tall <= t.size
 | .nil => by simp [Tr.tall, Tr.size]
 | .node l x r => by
  have h1 := Tr.tall_le l
  have h2 := Tr.tall_le r
  have h3 := Tr.size_list l
  have h4 := Tr.size_list r
  simp only [Tr.tall, Tr.size]
  omega
theorem Tr.small_of {t : Tr} (h : t.list.length <= 1073741824) : t.small := by
 have h1 := Tr.size_list t
 have h2 := Tr.tall_le t
 exact ⟨by omega, by omega, h2.1, by omega⟩
def btF : Nat -> List Pc -> Tr
 | 0, _ => .nil
 | f + 1, ps => match ps[ps.length / 2]? with
  | none => .nil
  | some x => .node (btF f (ps.take (ps.length / 2))) x (btF f (ps.drop (ps.length / 2 + 1)))
theorem btF_list : ∀ (f : Nat) (ps : List Pc), ps.length <= f -> (btF f ps).list = ps := by
 intro f
 induction f with
 | zero =>
  intro ps h
  have e : ps = [] := List.eq_nil_of_length_eq_zero (by omega)
  subst e
  rfl
 | succ f ih =>
  intro ps h
  simp only [btF]
  cases hx : ps[ps.length / 2]? with
  | none =>
   have : ps = [] := by
    cases ps with
    | nil => rfl
    | cons p ps => rw [List.getElem?_eq_none_iff] at hx; simp only [List.length_cons] at hx; omega
   rw [this]; rfl
  | some x =>
   have hlt : ps.length / 2 < ps.length := by
    rcases Nat.lt_or_ge (ps.length / 2) ps.length with h | h
    ·exact h
    ·rw [List.getElem?_eq_none h] at hx; cases hx
   simp only [Tr.list]
   rw [ih _ (by rw [List.length_take]; omega), ih _ (by rw [List.length_drop]; omega)]
   rw [List.getElem?_eq_getElem hlt] at hx
   injection hx with hx
   rw [<- hx]
   rw [<- List.drop_eq_getElem_cons hlt, List.take_append_drop]
def ItemAt (w : World) (b off : Nat) (x : Pc) : Prop :=
 w.cell? ⟨b, off, none⟩ = some (.slice x.A x.n x.c) /\ w.cell? ⟨b, off + 1, none⟩ = some (.int .i64 x.tag) /\ w.cell? ⟨b, off + 2, none⟩ = some (.int .i64 x.sum.atoms) /\ w.cell? ⟨b, off + 3, none⟩ = some (.int .i64 x.sum.bytes) /\
 w.cell? ⟨b, off + 4, none⟩ = some (.int .i64 x.sum.breaks) /\ w.cell? ⟨b, off + 5, none⟩ = some (.bool x.sum.lf) /\ w.cell? ⟨b, off + 6, none⟩ = some (.bool x.sum.cr)
theorem ItemAt.out {w : World} {b off : Nat} {x : Pc} (h : ItemAt w b off x) :
  w.cell? ⟨b, off, none⟩ = some (.slice x.A x.n x.c) /\ w.cell? ⟨b, off + 1, none⟩ = some (.int .i64 x.tag) /\ w.cell? ⟨b, off + 2, none⟩ = some (.int .i64 x.sum.atoms) /\ w.cell? ⟨b, off + 3, none⟩ = some (.int .i64 x.sum.bytes) /\
  w.cell? ⟨b, off + 4, none⟩ = some (.int .i64 x.sum.breaks) /\ w.cell? ⟨b, off + 5, none⟩ = some (.bool x.sum.lf) /\ w.cell? ⟨b, off + 6, none⟩ = some (.bool x.sum.cr) := h
theorem ItemAt.below {w w' : World} {b off : Nat} {x : Pc} (h : ItemAt w b off x) (hb : Below w.heap.size w w') : ItemAt w' b off x :=
 ⟨cell_keep hb h.1, cell_keep hb h.2.1, cell_keep hb h.2.2.1, cell_keep hb h.2.2.2.1, cell_keep hb h.2.2.2.2.1, cell_keep hb h.2.2.2.2.2.1, cell_keep hb h.2.2.2.2.2.2⟩
def BuildPost (t : Tr) (w : World) (e : Ending) (w' : World) : Prop := ∃ a, e = .returned (.pointer a) /\ NodeAt w' t a /\ Below w.heap.size w w'
theorem Parts.below {w w' : World} {D : Nat -> Prop} {A : Option Addr} {n : Nat} {ps : List Pc} (h : Parts w D A n ps) (hb : Below w.heap.size w w') : Parts w' D A n ps := Reads.below h hb
theorem totB_take {ps : List Pc} (h : AllGood ps) (k : Nat) : totB (ps.take k) <= totB ps := by
 have e := totB_app (ps.take k) (ps.drop k)
 rw [List.take_append_drop] at e
 have := totB_nonneg (ps := ps.drop k) (fun p hp => h p (List.mem_of_mem_drop hp))
 omega
theorem build_any : ∀ (f : Nat) (D : Nat -> Prop) (A : Option Addr) (n c : Nat) (ps : List Pc) (w : World), n <= f -> Parts w D A n ps -> AllGood ps -> totB ps <= 2147483648 -> n <= 1073741824 -> n <= c ->
    Calls Tryz.prog 173 #[.slice A n c] w fun e w' => BuildPost (btF f ps) w e w' := by
  intro f
  induction f with
  | zero =>
    intro D A n c ps w hf hp hg hB hn hc
    have e0 : n = 0 := by omega
    subst e0
    go_enter Tryz.func173, Tryz.ntmps173
    go_wp2_with fail
    go_ret
    exact ⟨none, rfl, rfl, Below.refl _ _⟩
  | succ f ih =>
    intro D A n c ps w hf hp hg hB hn hc
    have hlen := hp.len
    by_cases e0 : n = 0
    · subst e0
      have e : ps = [] := List.eq_nil_of_length_eq_zero hlen
      subst e
      go_enter Tryz.func173, Tryz.ntmps173
      go_wp2_with fail
      go_ret
      exact ⟨none, rfl, rfl, Below.refl _ _⟩
    · obtain ⟨b, off, rfl, hD, hc0⟩ := Reads.form hp (by omega) (by omega)
      have hk : n / 2 < ps.length := by omega
      obtain ⟨x, hx⟩ : ∃ x, ps[n / 2]? = some x := ⟨_, List.getElem?_eq_getElem hk⟩
      have hxc := Parts.at_ hc0 x hx
      have HI := Lib.hid ih
      have HX := Lib.hid hx
      have HL := Lib.hid hlen
      clear ih hx hlen hc0
      obtain ⟨k, hkk⟩ : ∃ k, n / 2 = k := ⟨_, rfl⟩
      have q0 : ((n : Int) == 0) = false := by rw [beq_eq_false_iff_ne]; omega
      have q1 : (n : Int) / 2 = (k : Int) := by omega
      go_enter Tryz.func173, Tryz.ntmps173
      go_wp2_with fail
      rw [hkk] at hxc HX
      have hxs : ItemAt w b (off + k * 7) x := ⟨hxc 0 _ rfl, by rw [Nat.add_assoc]; exact hxc 1 _ rfl, by rw [Nat.add_assoc]; exact hxc 2 _ rfl, by rw [Nat.add_assoc]; exact hxc 3 _ rfl, by rw [Nat.add_assoc]; exact hxc 4 _ rfl, by rw [Nat.add_assoc]; exact hxc 5 _ rfl, by rw [Nat.add_assoc]; exact hxc 6 _ rfl⟩
      clear hxc
      obtain ⟨x0, x1, x2, x3, x4, x5, x6⟩ := hxs.out
      have q2 : (0 : Int) <= (k : Int) := by omega
      have q3 : (k : Int) < (n : Int) := by omega
      have q4 : (k : Int) <= (c : Int) := by omega
      have q5 : (0 : Int) <= (k : Int) + 1 := by omega
      have q6 : (k : Int) + 1 <= (n : Int) := by omega
      have q7 : (k : Int) + 1 <= (c : Int) := by omega
      have q8 : ((k : Int) + 1).toNat = k + 1 := by omega
      have q9 : IntKind.i64.wrap ((k : Int) + 1) = (k : Int) + 1 := IntWalk.i64_in _ (by omega)
      have hgl : AllGood (ps.take k) := fun p h => hg p (List.mem_of_mem_take h)
      have hgr : AllGood (ps.drop (k + 1)) := fun p h => hg p (List.mem_of_mem_drop h)
      have hgx : x.sum.good := hg x (List.mem_of_getElem? HX.out)
      have hsplit : totB ps = totB (ps.take k) + (x.sum.bytes + totB (ps.drop (k + 1))) := by
        rw [<- totB_cons, <- totB_app]
        congr 1
        have hlt : k < ps.length := by have := HL.out; omega
        have := HX.out
        rw [List.getElem?_eq_getElem hlt] at this
        injection this with this
        rw [<- this, <- List.drop_eq_getElem_cons hlt, List.take_append_drop]
      have hll : (ps.take k).length <= k := List.length_take_le _ _
      have hlr : (ps.drop (k + 1)).length <= n - (k + 1) := by rw [List.length_drop]; have := HL.out; omega
      have hbl0 := totB_nonneg hgl
      have hbr0 := totB_nonneg hgr
      have hbx0 : 0 <= x.sum.bytes := by obtain ⟨a, b, c, _⟩ := hgx; omega
      have hpl : Parts w D (some ⟨b, off, none⟩) k (ps.take k) := by
        have := Reads.take hp (show k <= n by omega)
        rw [flat7_take] at this
        exact this
      have hleft : ∀ w2, Below w.heap.size w w2 -> Calls Tryz.prog 173 #[.slice (some ⟨b, off, none⟩) k c] w2 fun e w' => BuildPost (btF f (ps.take k)) w2 e w' :=
        fun w2 h2 => HI.out D _ k c (ps.take k) w2 (by omega) (hpl.below h2) hgl (by omega) (by omega) (by omega)
      have hfl : (btF f (ps.take k)).list = ps.take k := btF_list f _ (by omega)
      have hfr : (btF f (ps.drop (k + 1))).list = ps.drop (k + 1) := btF_list f _ (by omega)
      have gl := Tr.sum_good (btF f (ps.take k)) (by rw [hfl]; exact hgl)
      have gr := Tr.sum_good (btF f (ps.drop (k + 1))) (by rw [hfr]; exact hgr)
      have glx := lsum_good (btF f (ps.take k)) x (by rw [hfl]; exact hgl) hgx
      rw [hfl] at gl glx
      rw [hfr] at gr
      have hof : ∀ (al ar : Option Addr) (w2 : World), NodeAt w2 (btF f (ps.take k)) al -> NodeAt w2 (btF f (ps.drop (k + 1))) ar ->
          Calls Tryz.prog 193 #[.pointer al, .agg #[.slice x.A x.n x.c, .int .i64 x.tag, .int .i64 x.sum.atoms, .int .i64 x.sum.bytes, .int .i64 x.sum.breaks, .bool x.sum.lf, .bool x.sum.cr], .pointer ar] w2 fun e w' =>
            OfPost (btF f (ps.take k)) x (btF f (ps.drop (k + 1))) w2 e w' :=
        fun al ar w2 h1 h2 => tof_any _ _ al ar x w2 h1 h2 (Tr.small_of (by rw [hfl]; omega)) (Tr.small_of (by rw [hfr]; omega)) (hgx.ok (by omega)) (gl.1.ok (by omega)) (gr.1.ok (by omega)) (glx.1.ok (by omega))
      have hbt : btF (f + 1) ps = .node (btF f (ps.take k)) x (btF f (ps.drop (k + 1))) := by
        simp only [btF]
        rw [HL.out, hkk, HX.out]
      have HBT := Lib.hid hbt
      have HLF := Lib.hid hleft
      have HOF := Lib.hid hof
      have HSP := Lib.hid hsplit
      clear hleft hof hbt hsplit hfl hfr gl gr glx hgx hkk q1
      by_cases hck : c = k + 1
      · subst hck
        have hright : ∀ w2, Below w.heap.size w w2 -> Calls Tryz.prog 173 #[.slice (some ⟨b, off, none⟩) 0 0] w2 fun e w' => BuildPost (btF f (ps.drop (k + 1))) w2 e w' := by
          intro w2 h2
          have e2 : ps.drop (k + 1) = [] := List.eq_nil_of_length_eq_zero (by omega)
          rw [e2]
          exact HI.out D _ 0 0 [] w2 (by omega) Reads.none_ (fun p h => by cases h) (by simp [totB]) (by omega) (by omega)
        have HRT := Lib.hid hright
        clear hright
        go_region_with (first | (go_at_call 193; refine (HOF.out _ _ _ (NodeAt.below hb2 _ _ hn1) hn2).mono ?_; rintro e w3 ⟨a3, rfl, hn3, hb3⟩) | (go_at_call 173; (with_reducible refine (HLF.out _ (Below.drew (Below.refl _ _))).mono ?_); rintro e w1 ⟨a1, rfl, hn1, hb1⟩; obtain ⟨y0, y1, y2, y3, y4, y5, y6⟩ := (hxs.below (bdrew hb1)).out) | (go_at_call 173; (with_reducible refine (HRT.out _ (bdrew hb1)).mono ?_); rintro e w2 ⟨a2, rfl, hn2, hb2⟩; obtain ⟨z0, z1, z2, z3, z4, z5, z6⟩ := (hxs.below (bseq (bdrew hb1) hb2)).out))
        all_goals
          go_wp2_with fail
          go_ret
          refine ⟨a3, rfl, ?_, bseq (bseq (bdrew hb1) hb2) hb3⟩
          rw [HBT.out]
          exact hn3
      · have hpr : Parts w D (some ⟨b, off + (k + 1) * 7, none⟩) (n - (k + 1)) (ps.drop (k + 1)) := by
          have := Reads.cut hp (show k + 1 <= n by omega) hc
          rw [if_neg hck, flat7_drop] at this
          rw [show (⟨b, off + (k + 1) * 7, none⟩ : Addr) = (⟨b, off, none⟩ : Addr).add ((k + 1) * 7) by unfold Addr.add; rw [if_neg (by omega)]]
          exact this
        have hright : ∀ w2, Below w.heap.size w w2 -> Calls Tryz.prog 173 #[.slice (some ⟨b, off + (k + 1) * 7, none⟩) (n - (k + 1)) (c - (k + 1))] w2 fun e w' => BuildPost (btF f (ps.drop (k + 1))) w2 e w' :=
          fun w2 h2 => HI.out D _ _ _ (ps.drop (k + 1)) w2 (by omega) (hpr.below h2) hgr (by have := HSP.out; omega) (by omega) (by omega)
        have HRT := Lib.hid hright
        clear hright
        go_region_with (first | (go_at_call 193; refine (HOF.out _ _ _ (NodeAt.below hb2 _ _ hn1) hn2).mono ?_; rintro e w3 ⟨a3, rfl, hn3, hb3⟩) | (go_at_call 173; (with_reducible refine (HLF.out _ (Below.drew (Below.refl _ _))).mono ?_); rintro e w1 ⟨a1, rfl, hn1, hb1⟩; obtain ⟨y0, y1, y2, y3, y4, y5, y6⟩ := (hxs.below (bdrew hb1)).out) | (go_at_call 173; (with_reducible refine (HRT.out _ (bdrew hb1)).mono ?_); rintro e w2 ⟨a2, rfl, hn2, hb2⟩; obtain ⟨z0, z1, z2, z3, z4, z5, z6⟩ := (hxs.below (bseq (bdrew hb1) hb2)).out))
        all_goals
          go_wp2_with fail
          go_ret
          refine ⟨a3, rfl, ?_, bseq (bseq (bdrew hb1) hb2) hb3⟩
          rw [HBT.out]
          exact hn3
theorem NodeAt.keepBut {T : TypeId} {w w' : World} (hk : KeepBut T w w') (hT : T ≠ 196) : ∀ (t : Tr) (a : Option Addr), NodeAt w t a -> NodeAt w' t a := by
 intro t
 induction t with
 | nil => intro a h; exact h
 | node l x r ihl ihr =>
  rintro a ⟨b, al, ar, e, h, hl, hr⟩
  exact ⟨b, al, ar, e, hk b _ h (fun cs f e => hT (by injection e with _ e; exact e.symm)), ihl al hl, ihr ar hr⟩
def OfTree (ps : List Pc) (w : World) (e : Ending) (w' : World) : Prop := ∃ a, e = .returned (.agg #[.pointer a]) /\ NodeAt w' (btF ps.length ps) a /\ Below w.heap.size w w'
theorem treeOf_any (D : Nat -> Prop) (A : Option Addr) (n c : Nat) (ps : List Pc) (w : World) (hp : Parts w D A n ps) (hg : AllGood ps) (hB : totB ps <= 2147483648) (hn : n <= 1073741824) (hc : n <= c) :
  Calls Tryz.prog 148 #[.slice A n c] w fun e w' => OfTree ps w e w' := by
 have hlen := hp.len
 have hW : Below w.heap.size w (w.alloc (.cells #[.pointer none] 137)) := balloc (Below.refl _ w)
 have hbu := build_any ps.length D A n c ps _ (by omega) (hp.below hW) hg hB hn hc
 have HB := Lib.hid hbu
 clear hbu hlen
 go_enter Tryz.func148, Tryz.ntmps148
 go_wp2_with fail
 refine (HB.out).mono ?_
 rintro e w1 ⟨a, rfl, hn1, hb1⟩
 have hbk : Blk w1 w.heap.size 137 #[.pointer none] := (Blk.new w _ _).below hb1
 have c0 := hbk.cell 0
 have f0 := hbk.frozen 0
 simp at c0
 go_wp2_with fail
 refine bodyPost_ret (v := .agg #[.pointer a]) (by simp [results, Tryz.results148, go_sem, c0]) rfl ⟨a, rfl, ?_, ?_⟩
 ·exact NodeAt.keepBut (KeepBut.of_fr ((Fr.refl _ _).set1 0 _) hbk) (by decide) _ _ hn1
 ·exact (hW.trans (hb1.mono (by simp))).setCell (Nat.le_refl _) _
end Go.Proofs.YtkoakanpaehkmaaGreatDoor
