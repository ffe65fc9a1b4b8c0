/-
  What edits make of a text (plain). The walk of Text.Change. The walks of Text.Snap, Text.Back; of Book's smallest methods. A book as it lies in memory (without marks and watched offsets): its text, its groups, the open group; what keeps them. The walk of Book.follow where there are no marks and no watched offsets. What joining lines makes of a text (plain).
-/
import Derived.Test.YteekabaoocaghaaGreatLRefuse
import Derived.Test.YteekabaoocaghaaGreatLSame
import Derived.Test.YteekabaoocaghaaGreatLClamp
set_option linter.unusedSimpArgs false
set_option linter.unusedVariables false
namespace Go.Proofs.YteekabaoocaghaaGreat
open Go.RowKit

/-- one edit, all edits (the last one first) -/
def ed1 {α : Type} (f : Int → α) (e : Ed) (l : List α) : List α := l.take e.f.toNat ++ e.put.map f ++ l.drop e.t.toNat
def edL {α : Type} (f : Int → α) (es : List Ed) (l : List α) : List α := es.foldr (ed1 f) l
def edD (enc : Int) : List Ed → List (Int × Int) → List (Int × Int) := edL (fun x => (x, szA enc x))
def edA : List Ed → List (Int × Int) → List (Int × Int) := edL (fun x => (x, -1))
theorem edL_cons {α : Type} (f : Int → α) (e : Ed) (es : List Ed) (l : List α) : edL f (e :: es) l = ed1 f e (edL f es l) := rfl
theorem edL_take {α : Type} (f : Int → α) : ∀ (es : List Ed) (a : Int) (l : List α), ordF a l.length es = true → 0 ≤ a → a ≤ l.length → (edL f es l).take a.toNat = l.take a.toNat := by
  intro es
  induction es with
  | nil => intro a l _ _ _; rfl
  | cons e r ih =>
    intro a l h h0 h1
    have hm := ordF_mem (e :: r) a l.length h h0 e List.mem_cons_self
    unfold ordF at h
    split at h
    · cases h
    · have hi := ih e.t l h (by omega) (by omega)
      rw [edL_cons]
      unfold ed1
      have h2 : (edL f r l).take e.f.toNat = l.take e.f.toNat := by
        have := congrArg (List.take e.f.toNat) hi
        rw [List.take_take, List.take_take, Nat.min_eq_left (by omega)] at this
        exact this
      rw [h2, List.append_assoc, List.take_append_of_le_length (by rw [List.length_take]; omega), List.take_take, Nat.min_eq_left (by omega)]
theorem edL_len {α : Type} (f : Int → α) (es : List Ed) (a : Int) (l : List α) (h : ordF a l.length es = true) (h0 : 0 ≤ a) (h1 : a ≤ l.length) : a ≤ (edL f es l).length := by
  have := congrArg List.length (edL_take f es a l h h0 h1)
  rw [List.length_take, List.length_take] at this
  omega
theorem ed1_none {α : Type} (f : Int → α) (e : Ed) (l : List α) (h0 : 0 ≤ e.f) (h : e.f = e.t) (hp : e.put = []) : ed1 f e l = l := by
  unfold ed1
  rw [hp, ← h, List.map_nil, List.append_nil, List.take_append_drop]
/-- the bytes of atoms -/
def szS (l : List (Int × Int)) : Int := (l.map Prod.snd).sum
theorem szS_app (a b : List (Int × Int)) : szS (a ++ b) = szS a + szS b := by unfold szS; rw [List.map_append, List.sum_append]
theorem szS_split (l : List (Int × Int)) (k : Nat) : szS l = szS (l.take k) + szS (l.drop k) := by rw [← szS_app, List.take_append_drop]
theorem szS_pos {l : List (Int × Int)} (h : PosD l) : 0 ≤ szS l := by
  have h1 := sumsOf_good' h
  obtain ⟨⟨_, _, h4, _⟩, _, h5⟩ := h1
  unfold szS
  omega
theorem szS_mono {l : List (Int × Int)} (h : PosD l) (a b : Nat) (hab : a ≤ b) : szS (l.take a) ≤ szS (l.take b) := by
  have e : (l.take b).take a = l.take a := by rw [List.take_take, Nat.min_eq_left hab]
  have := szS_split (l.take b) a
  rw [e] at this
  have h2 := szS_pos ((h.take b).drop a)
  omega
theorem szS_bytes {l : List (Int × Int)} (h : PosD l) (k : Nat) : (sumsOf (l.take k)).bytes = szS (l.take k) := (sumsOf_good' (h.take k)).2.2
theorem rem1_sz {l : List (Int × Int)} (h : PosD l) (e : Ed) (hle : e.f ≤ e.t) : rem1 l e = szS (l.take e.t.toNat) - szS (l.take e.f.toNat) := by
  unfold rem1
  split
  · rw [szS_bytes h, szS_bytes h]
  · have : e.f = e.t := by omega
    rw [this]
    omega
theorem remB_le {l : List (Int × Int)} (hp : PosD l) : ∀ (es : List Ed) (a : Int), ordF a l.length es = true → 0 ≤ a → remB l es ≤ szS l - szS (l.take a.toNat) := by
  intro es
  induction es with
  | nil =>
    intro a _ _
    have := szS_split l a.toNat
    have := szS_pos (hp.drop a.toNat)
    unfold remB
    simp
    omega
  | cons e r ih =>
    intro a h h0
    have hm := ordF_mem (e :: r) a l.length h h0 e List.mem_cons_self
    unfold ordF at h
    split at h
    · cases h
    · have h1 := ih e.t h (by omega)
      have h2 := rem1_sz hp e hm.2.1
      have h3 := szS_mono hp a.toNat e.f.toNat (by omega)
      unfold remB at h1 ⊢
      rw [List.map_cons, List.sum_cons]
      omega
theorem withSz_sz (enc : Int) (xs : List Int) : szS (xs.map fun x => (x, szA enc x)) = szL_ enc xs := by
  unfold szS szL_
  rw [List.map_map]
  rfl
theorem edD_sz {enc : Int} {l : List (Int × Int)} (hp : PosD l) : ∀ (es : List Ed) (a : Int), ordF a l.length es = true → 0 ≤ a → szS (edD enc es l) = szS l + putB enc es - remB l es := by
  intro es
  induction es with
  | nil => intro a _ _; simp [edD, edL, putB, remB]
  | cons e r ih =>
    intro a h h0
    have hm := ordF_mem (e :: r) a l.length h h0 e List.mem_cons_self
    unfold ordF at h
    split at h
    · cases h
    · have h1 := ih e.t h (by omega)
      have h2 := rem1_sz hp e hm.2.1
      have h3 : (edD enc r l).take e.t.toNat = l.take e.t.toNat := edL_take _ r e.t l h (by omega) hm.2.2
      have h4 : (edD enc r l).take e.f.toNat = l.take e.f.toNat := by
        have := congrArg (List.take e.f.toNat) h3
        rw [List.take_take, List.take_take, Nat.min_eq_left (by omega)] at this
        exact this
      have h5 := szS_split (edD enc r l) e.t.toNat
      have e1 : edD enc (e :: r) l = ed1 (fun x => (x, szA enc x)) e (edD enc r l) := rfl
      rw [e1]
      unfold ed1
      rw [szS_app, szS_app, withSz_sz, h4]
      unfold putB remB at h1 ⊢
      rw [List.map_cons, List.sum_cons, List.map_cons, List.sum_cons]
      rw [h3] at h5
      omega
theorem fitF_mem {enc : Int} {es : List Ed} (h : fitF enc es = true) : ∀ e ∈ es, Fit enc e.put := by
  intro e he x hx
  unfold fitF at h
  have h1 := List.all_eq_true.1 h e he
  unfold fitP at h1
  have h2 := List.all_eq_true.1 h1 x hx
  have h3 := szA_ge enc x
  simp at h2
  omega
theorem szL_ge (enc : Int) (xs : List Int) (h : Fit enc xs) : (xs.length : Int) ≤ szL_ enc xs := by
  unfold szL_
  induction xs with
  | nil => simp
  | cons a xs ih =>
    have h1 := h a List.mem_cons_self
    have h2 := ih (fun x hx => h x (List.mem_cons_of_mem _ hx))
    simp only [List.map_cons, List.sum_cons, List.length_cons]
    omega
theorem putB_mem (enc : Int) (es : List Ed) : ∀ e ∈ es, szL_ enc e.put ≤ putB enc es := by
  induction es with
  | nil => intro e he; cases he
  | cons x r ih =>
    intro e he
    have h1 := szL_bd enc x.put
    have h2 := putB_bd enc r
    have e1 : putB enc (x :: r) = szL_ enc x.put + putB enc r := by unfold putB; simp
    rcases List.mem_cons.1 he with rfl | he
    · omega
    · have := ih e he; omega
theorem ordF_drop : ∀ (es : List Ed) (a size : Int) (i : Nat) (e : Ed), ordF a size es = true → es[i]? = some e → ordF e.t size (es.drop (i + 1)) = true := by
  intro es
  induction es with
  | nil => intro _ _ i e _ h; simp at h
  | cons x r ih =>
    intro a size i e h hi
    unfold ordF at h
    split at h
    · cases h
    · cases i with
      | zero =>
        simp at hi
        subst hi
        exact h
      | succ i => exact ih x.t size i e h (by simpa using hi)
theorem remB_ge {l : List (Int × Int)} (hp : PosD l) : ∀ (es : List Ed) (a : Int), ordF a l.length es = true → 0 ≤ a → 0 ≤ remB l es := by
  intro es
  induction es with
  | nil => intro a _ _; simp [remB]
  | cons e r ih =>
    intro a h h0
    have hm := ordF_mem (e :: r) a l.length h h0 e List.mem_cons_self
    unfold ordF at h
    split at h
    · cases h
    · have h1 := ih e.t h (by omega)
      have h2 := rem1_sz hp e hm.2.1
      have h3 := szS_mono hp e.f.toNat e.t.toNat (by omega)
      unfold remB at h1 ⊢
      rw [List.map_cons, List.sum_cons]
      omega
theorem putB_cons (enc : Int) (e : Ed) (es : List Ed) : putB enc (e :: es) = szL_ enc e.put + putB enc es := by unfold putB; simp
theorem putB_drop (enc : Int) (es : List Ed) (k : Nat) : putB enc (es.drop k) ≤ putB enc es := by
  have e : putB enc es = putB enc (es.take k) + putB enc (es.drop k) := by
    conv => lhs; rw [← List.take_append_drop k es]
    unfold putB
    rw [List.map_append, List.sum_append]
  have := (putB_bd enc (es.take k)).1
  omega
theorem putL_sz (enc : Int) (xs : List Int) (h : Fit enc xs) : ((putL enc xs).length : Int) = szL_ enc xs := by
  rw [putL_len enc xs h]
  unfold withSz szL_
  rw [List.map_map]
  rfl
/-- what a refusal that is none says -/
theorem refF_ok {enc lim : Int} {ds : List (Int × Int)} {es : List Ed} (hp : PosD ds) (h : refF enc lim ds es = 0) (hl : lim ≤ 65536) (hs : szS ds ≤ 65536) :
    es.length ≤ 70000 ∧ ordF 0 ds.length es = true ∧ fitF enc es = true ∧ putB enc es ≤ 131072 ∧ szS (edD enc es ds) ≤ lim := by
  unfold refF at h
  split at h
  · cases h
  · rename_i h1
    split at h
    · cases h
    · rename_i h2
      split at h
      · cases h
      · rename_i h3
        split at h
        · cases h
        · rename_i h4
          have h2' : ordF 0 ds.length es = true := by simpa using h2
          have h3' : fitF enc es = true := by simpa using h3
          have h5 := edD_sz (enc := enc) hp es 0 h2' (Int.le_refl _)
          have h6 := remB_le hp es 0 h2' (Int.le_refl _)
          have h7 : (sumsOf ds).bytes = szS ds := (sumsOf_good' hp).2.2
          have h8 : szS (ds.take (0 : Int).toNat) = 0 := by simp [szS]
          rw [h7] at h4
          exact ⟨by omega, h2', h3', by omega, by omega⟩
end Go.Proofs.YteekabaoocaghaaGreat
namespace Go.Proofs.YteekabaoocaghaaGreat
open Go.RowKit

def ChgR (B g : Nat) (enc lim : Int) (n : Nat) (add : Value) (xs : List Value) (ds ats : List (Int × Int)) (es : List Ed) (w : World) (k : Nat) (q6 : Value) (wr : World) : Prop :=
  ∃ (j : Nat) (add' : Value) (n' : Nat) (xs' : List Value), q6 = .int .i64 ((j : Int) - 1) ∧ Hid (ReplR g add add' n n' B xs xs' enc lim (edD enc (es.drop j) ds) (edA (es.drop j) ats) w wr) ∧ (n' : Int) ≤ n + putB enc (es.drop j) ∧ j ≤ es.length ∧ j ≤ k
def ChgPost (B g : Nat) (enc lim : Int) (n : Nat) (add : Value) (xs : List Value) (ds ats : List (Int × Int)) (es : List Ed) (w w' : World) : Prop :=
  ∃ (add' : Value) (n' : Nat) (xs' : List Value), ReplR g add add' n n' B xs xs' enc lim (edD enc es ds) (edA es ats) w w' ∧ n' ≤ n + 131072
theorem ReplR.below {B g : Nat} {enc lim : Int} {n n' : Nat} {add add' : Value} {xs xs' : List Value} {ds ats : List (Int × Int)} {w w1 w2 : World} (h : ReplR g add add' n n' B xs xs' enc lim ds ats w w1) (hr : w.ownsRow B 5 1 add n xs) (hb : Below w1.heap.size w1 w2) : ReplR g add add' n n' B xs xs' enc lim ds ats w w2 := by
  obtain ⟨t, a, h1, h2, h3, h4⟩ := h
  exact ⟨t, a, h1.below hb, h2.loc (S := No) (Fr.of_below hb) (fun _ hs => hs.elim) hr, h3, h4⟩
set_option maxRecDepth 100000 in
set_option maxHeartbeats 8000000 in
theorem change_any (B g : Nat) (enc lim : Int) (n : Nat) (add : Value) (t : Tr) (a : Option Addr) (xs : List Value) (D : Nat → Prop) (A : Option Addr) (m c : Nat) (es : List Ed) (w : World) (h : TextM w B g enc lim n add t a xs) (he : EdsAt w D A m es) (hD : ∀ b, D b → b ≠ g ∧ add.ownBlock ≠ some b) (hp : putN es ≤ 268435456)
    (hlim : lim ≤ 65536) (hsz : szS (decL enc t.list) ≤ 65536) (hn : n + 131072 ≤ 1073741824) :
    Calls Tryz.prog 103 #[.pointer (some ⟨g, 0, none⟩), .slice A m c] w fun e w' => e = .returned (.int .i64 (refF enc lim (decL enc t.list) es)) ∧ (refF enc lim (decL enc t.list) es ≠ 0 → Below w.heap.size w w') ∧
      (refF enc lim (decL enc t.list) es = 0 → ChgPost B g enc lim n add xs (decL enc t.list) (atsL enc t.list) es w w') := by
  have hK := refuse_any Any D g enc lim t a add A m c es w h.text he hp
  have hml := he.len
  have hdpos := decL_pos enc t.list
  obtain ⟨D', hDD⟩ : ∃ D' : Nat → Prop, D' = fun b => D b ∧ b < w.heap.size := ⟨_, rfl⟩
  have he' : EdsAt w D' A m es := he.more (fun b h1 h2 => by rw [hDD]; exact ⟨h1, h2⟩)
  have hD' : ∀ b, D' b → b ≠ g ∧ add.ownBlock ≠ some b ∧ b < w.heap.size := fun b hb => by
    rw [hDD] at hb
    exact ⟨(hD b hb.1).1, (hD b hb.1).2, hb.2⟩
  clear hDD hD he
  by_cases hz : refF enc lim (decL enc t.list) es = 0
  · obtain ⟨o1, o2, o3, o4, o5⟩ := refF_ok hdpos hz hlim hsz
    rw [hz] at hK ⊢
    have hL := h.text.decLen
    have hal : (atsL enc t.list).length = (decL enc t.list).length := atsL_len enc _
    obtain ⟨ds, hds⟩ : ∃ ds, decL enc t.list = ds := ⟨_, rfl⟩
    obtain ⟨ats, hats⟩ : ∃ ats, atsL enc t.list = ats := ⟨_, rfl⟩
    rw [hds] at hL hal hdpos o2 o5 hsz ⊢
    rw [hats] at hal ⊢
    have HK := Lib.hid hK
    have HH := Lib.hid h
    have HE := Lib.hid he'
    have HORD := Lib.hid o2
    have HFIT := Lib.hid o3
    have HDS := Lib.hid hds
    have HATS := Lib.hid hats
    have HAL := Lib.hid hal
    clear hK h he' o2 o3 hds hats hz hal
    go_enter Tryz.func103, Tryz.ntmps103
    go_wp2_with fail
    refine (HK.out).mono ?_
    rintro e w1 ⟨rfl, hb1⟩
    have e1 : IntKind.i64.wrap ((m : Int) - 1) = (m : Int) - 1 := IntWalk.i64_in _ (by omega)
    go_wp2_with fail
    go_loopg [6] es.length (fun k q6 wr => ChgR B g enc lim n add xs ds ats es w k q6 wr)
    case atStart =>
      refine ⟨m, add, n, xs, rfl, Lib.hid ⟨t, a, HH.out.below hb1, TStep.below HH.out.row hb1, ?_, ?_⟩, ?_, by omega, by omega⟩
      · rw [← hml, List.drop_length]
        exact HDS.out
      · rw [← hml, List.drop_length]
        exact HATS.out
      · rw [← hml, List.drop_length]
        simp [putB]
    case round =>
      obtain ⟨j, add', n', xs', rfl, hR, hnn, hj, hgk⟩ := hrel
      obtain ⟨w2, hw2⟩ : ∃ x, x = wr := ⟨_, rfl⟩
      subst hw2
      by_cases hj0 : 0 < j
      · have q1 : ((0 : Int) ≤ (j : Int) - 1) = True := by simp; omega
        obtain ⟨i, rfl⟩ : ∃ i, j = i + 1 := ⟨j - 1, by omega⟩
        obtain ⟨t2, a2, hT2, hS2, hd2, ha2⟩ := hR.out
        have hE2 := HE.out.fr hS2.fr (fun b hb _ hs => hs.elim (fun e => (hD' b hb).1 e) (fun e => (hD' b hb).2.1 e))
        obtain ⟨eb, eo, ed, rfl, hed, hD2, z0, z1, z2⟩ := hE2.at_ (show i < m by omega)
        have hmem := List.mem_of_getElem? hed
        have hput := hE2.put ed hmem
        have hrng := ordF_mem es 0 ds.length HORD.out (Int.le_refl _) ed hmem
        have hfit := fitF_mem HFIT.out ed hmem
        have hpb := putB_mem enc es ed hmem
        have hge := szL_ge enc ed.put hfit
        have hdr : es.drop i = ed :: es.drop (i + 1) := by
          rw [List.getElem?_eq_getElem (by omega)] at hed
          injection hed with hed
          rw [List.drop_eq_getElem_cons (by omega), hed]
        have hordd := ordF_drop es 0 ds.length i ed HORD.out hed
        have hcl := edL_len (fun x => (x, szA enc x)) (es.drop (i + 1)) ed.t ds hordd (by omega) hrng.2.2
        have hsz2 := edD_sz (enc := enc) hdpos (es.drop (i + 1)) ed.t hordd (by omega)
        have hrm := remB_ge hdpos (es.drop (i + 1)) ed.t hordd (by omega)
        have hpd := putB_drop enc es (i + 1)
        have hpl := putL_sz enc ed.put hfit
        have hput1 := hput.len
        have htb := totB_dec hT2.tree.pcs.ok
        rw [hd2] at htb
        have hb3 : Below w2.heap.size w2 (w2.alloc (.cells #[.int .i64 ed.f, .int .i64 ed.t, .slice ed.A ed.n ed.c] 79)) := balloc (Below.refl _ _)
        have hT3 := hT2.below hb3
        have hown : ∀ b, D' b → b ≠ g ∧ add'.ownBlock ≠ some b := fun b hb => ⟨(hD' b hb).1, fun hh => by
          rcases hS2.own b hh with h1 | h1
          · exact (hD' b hb).2.1 h1
          · have := (hD' b hb).2.2; omega⟩
        have hcc : ed.t ≤ ((decL enc t2.list).length : Int) := by rw [hd2]; exact hcl
        have hbyt2 : szS (edD enc (es.drop (i + 1)) ds) = ((edD enc (es.drop (i + 1)) ds).map Prod.snd).sum := rfl
        have hsz3 : totB t2.list ≤ 196608 := by
          have e0 : edL (fun x => (x, szA enc x)) (es.drop (i + 1)) ds = edD enc (es.drop (i + 1)) ds := rfl
          omega
        have hpc : putB enc (es.drop i) = szL_ enc ed.put + putB enc (es.drop (i + 1)) := by rw [hdr, putB_cons]
        have hpd0 := putB_drop enc es i
        have hrp := repl_any B g enc lim n' add' t2 a2 xs' ed.f ed.t ed.put D' ed.A ed.n ed.c _ hT3 (by omega) hrng.2.1 hcc (Reads.below hput hb3) hown hfit (by omega) (by omega) (by omega)
        have hjoin : ∀ w4 add2, ReplR g add' add2 n' (n' + (putL enc ed.put).length) B xs' (xs' ++ (putL enc ed.put).map (Value.int .u8)) enc lim ((decL enc t2.list).take ed.f.toNat ++ withSz enc ed.put ++ (decL enc t2.list).drop ed.t.toNat) ((atsL enc t2.list).take ed.f.toNat ++ ed.put.map (fun x => (x, -1)) ++ (atsL enc t2.list).drop ed.t.toNat) (w2.alloc (.cells #[.int .i64 ed.f, .int .i64 ed.t, .slice ed.A ed.n ed.c] 79)) w4 →
            ReplR g add add2 n (n' + (putL enc ed.put).length) B xs (xs' ++ (putL enc ed.put).map (Value.int .u8)) enc lim (edD enc (es.drop i) ds) (edA (es.drop i) ats) w w4 := by
          rintro w4 add2 ⟨t4, a4, r1, r2, r3, r4⟩
          refine ⟨t4, a4, r1, (hS2.loc (S := No) (Fr.of_below hb3) (fun _ hs => hs.elim) HH.out.row).trans r2 HH.out.row HH.out.ne, ?_, ?_⟩
          · rw [r3, hd2, hdr]
            rfl
          · rw [r4, ha2, hdr]
            rfl
        have hsame : ed.f = ed.t → ed.put = [] → ReplR g add add' n n' B xs xs' enc lim (edD enc (es.drop i) ds) (edA (es.drop i) ats) w (w2.alloc (.cells #[.int .i64 ed.f, .int .i64 ed.t, .slice ed.A ed.n ed.c] 79)) := by
          intro h1 h2
          have h3 := hR.out.below HH.out.row hb3
          have e1 : edD enc (es.drop i) ds = edD enc (es.drop (i + 1)) ds := by rw [hdr]; exact ed1_none _ ed _ (by omega) h1 h2
          have e2 : edA (es.drop i) ats = edA (es.drop (i + 1)) ats := by rw [hdr]; exact ed1_none _ ed _ (by omega) h1 h2
          rw [e1, e2]
          exact h3
        have hpz : 0 ≤ szL_ enc ed.put := (szL_bd enc ed.put).1
        have hbn : ((n' + (putL enc ed.put).length : Nat) : Int) ≤ n + putB enc (es.drop i) := by omega
        have hbn0 : (n' : Int) ≤ n + putB enc (es.drop i) := by omega
        have hlen0 : ed.put.length = ed.n := hput1
        have hempty : ed.n = 0 → ed.put = [] := fun h => List.eq_nil_of_length_eq_zero (by omega)
        have hft := hrng.2.1
        have e6 : (((i + 1 : Nat) : Int) - 1) = (i : Int) := by omega
        have e7 : IntKind.i64.wrap ((i : Int) - 1) = (i : Int) - 1 := IntWalk.i64_in _ (by omega)
        have q0 : ((0 : Int) ≤ (i : Int)) = True := by simp
        obtain ⟨ef, et, eA, en, ec, eput⟩ := ed
        dsimp only at z0 z1 z2 hrp hjoin hsame hbn hft hempty
        rw [e6]
        have HRP := Lib.hid hrp
        have HJ := Lib.hid hjoin
        have HSM := Lib.hid hsame
        have HBN := Lib.hid hbn
        have HBN0 := Lib.hid hbn0
        have HEM := Lib.hid hempty
        clear hrp hjoin hsame hbn hbn0 hempty hdr hed hmem hput hfit hcl hsz2 hrm hpd hpl htb hT3 hown hcc hbyt2 hpc hpz e6 q1 hR hT2 hS2 hd2 ha2 hE2 hordd hlen0 hput1 hrng hsz3 hpb hge hb3 hpd0
        by_cases hc1 : ef < et
        · have q1 : (ef < et) = True := eq_true hc1
          clear hc1
          go_wp2_with fail
          refine (HRP.out).mono ?_
          rintro e w4 ⟨rfl, add2, hR4⟩
          have HR4 := Lib.hid (HJ.out _ _ hR4)
          clear hR4
          go_wp2_with fail
          go_roundg i
          case measure => omega
          case rel => exact ⟨i, add2, _, _, rfl, HR4, HBN.out, by omega, by omega⟩
        · have q1 : (ef < et) = False := eq_false hc1
          by_cases hc2 : 0 < en
          · have q2 : ((0 : Int) < (en : Int)) = True := by simp; omega
            have q3 : (0 < en) = True := by simp; omega
            clear hc1 hc2
            go_wp2_with fail
            refine (HRP.out).mono ?_
            rintro e w4 ⟨rfl, add2, hR4⟩
            have HR4 := Lib.hid (HJ.out _ _ hR4)
            clear hR4
            go_wp2_with fail
            go_roundg i
            case measure => omega
            case rel => exact ⟨i, add2, _, _, rfl, HR4, HBN.out, by omega, by omega⟩
          · have q2 : ((0 : Int) < (en : Int)) = False := by simp; omega
            have q3 : (0 < en) = False := by simp; omega
            have HS4 := Lib.hid (HSM.out (by omega) (HEM.out (by omega)))
            clear hc1 hc2 HRP HJ HSM
            go_wp2_with fail
            go_roundg i
            case measure => omega
            case rel => exact ⟨i, add', n', xs', rfl, HS4, HBN0.out, by omega, by omega⟩
      · have hj0' : j = 0 := by omega
        subst hj0'
        rw [List.drop_zero] at hR hnn
        have hc : ChgPost B g enc lim n add xs ds ats es w w2 := ⟨add', n', xs', hR.out, by omega⟩
        have HC := Lib.hid hc
        clear hc
        go_wp2_with fail
        go_ret
        exact ⟨rfl, fun h => absurd rfl h, fun _ => HC.out⟩
  · obtain ⟨E, hE⟩ : ∃ E, refF enc lim (decL enc t.list) es = E := ⟨_, rfl⟩
    rw [hE] at hK hz ⊢
    have q2 : (E != 0) = true := by rw [bne_iff_ne]; exact hz
    have HK := Lib.hid hK
    have HZ := Lib.hid hz
    clear hK hE hz h he'
    go_enter Tryz.func103, Tryz.ntmps103
    go_wp2_with fail
    refine (HK.out).mono ?_
    rintro e w1 ⟨rfl, hb1⟩
    go_wp2_with fail
    go_ret
    exact ⟨rfl, fun _ => hb1, fun h => absurd h HZ.out⟩
end Go.Proofs.YteekabaoocaghaaGreat
namespace Go.Proofs.YteekabaoocaghaaGreat
open Go.RowKit

/-- a pointer is itself -/
theorem run_equalIn_self {P : Program} (w : World) (d : Nat) (t e : TypeId) (a : Addr) (i : TypeInfo) (h : P.underlying t = some (.pointer e)) (hi : P.info? e = some i) (hs : i.size ≠ 0) :
    (Op.equalIn (d + 1) t (.pointer (some a)) (.pointer (some a))).run P w = .ok true w := by
  simp [Op.equalIn, run_underlying h, sizeOf, typeInfo, hi, hs, sameAddr]
theorem run_neq_self {P : Program} (w : World) (t e : TypeId) (a : Addr) (i : TypeInfo) (h : P.underlying t = some (.pointer e)) (hi : P.info? e = some i) (hs : i.size ≠ 0) :
    (binOp .neq t (.pointer (some a)) (.pointer (some a))).run P w = .ok (.bool false) w := by
  have h1 : (Op.equal t (.pointer (some a)) (.pointer (some a))).run P w = .ok true w := run_equalIn_self w 9999 t e a i h hi hs
  simp only [binOp]
  simp [h1]
/-- a state that was kept -/
def SnapAt (w : World) (g : Nat) (add : Value) (n : Nat) (enc : Int) (s : Nat) (ats : List (Int × Int)) : Prop :=
  ∃ t a, Blk w s 150 #[.pointer (some ⟨g, 0, none⟩), .pointer a] ∧ TreeIn w add n enc t a ∧ atsL enc t.list = ats ∧ szS (decL enc t.list) ≤ 65536
set_option maxRecDepth 100000 in
set_option maxHeartbeats 1000000 in
theorem snap_any (B g : Nat) (enc lim : Int) (n : Nat) (add : Value) (t : Tr) (a : Option Addr) (xs : List Value) (w : World) (h : TextM w B g enc lim n add t a xs) (hs : szS (decL enc t.list) ≤ 65536) :
    Calls Tryz.prog 95 #[.pointer (some ⟨g, 0, none⟩)] w fun e w' => ∃ s, e = .returned (.pointer (some ⟨s, 0, none⟩)) ∧ SnapAt w' g add n enc s (atsL enc t.list) ∧ w.heap.size ≤ s ∧ Below w.heap.size w w' := by
  have c2 := h.blk.cell 2
  simp at c2
  have hb : Below w.heap.size w (w.alloc (.cells #[.pointer (some ⟨g, 0, none⟩), .pointer a] 150)) := balloc (Below.refl _ _)
  have HH := Lib.hid h
  have HS := Lib.hid hs
  clear h hs
  go_enter Tryz.func95, Tryz.ntmps95
  go_wp2_with fail
  go_ret
  exact ⟨_, rfl, ⟨t, a, Blk.new w _ _, (HH.out.below hb).tree, rfl, HS.out⟩, Nat.le_refl _, hb⟩
theorem text_row : ∃ i, Tryz.prog.info? 133 = some i ∧ True ∧ i.size = 4 ∧ True := by
  have h : (Tryz.prog.info? 133).map (fun i => i.size) = some 4 := by kernel_rfl
  obtain ⟨i, hi, hs⟩ := Option.map_eq_some_iff.1 h
  exact ⟨i, hi, trivial, hs, trivial⟩
set_option maxRecDepth 100000 in
set_option maxHeartbeats 1000000 in
theorem tback_any (g s : Nat) (cs : Array Value) (a2 : Option Addr) (w : World) (hg : Blk w g 133 cs) (h2 : ∃ v, cs[2]? = some v) (hs : Blk w s 150 #[.pointer (some ⟨g, 0, none⟩), .pointer a2]) :
    Calls Tryz.prog 37 #[.pointer (some ⟨g, 0, none⟩), .pointer (some ⟨s, 0, none⟩)] w fun e w' => e = .returned (.int .i64 0) ∧ w' = w.setCell ⟨g, 2, none⟩ (.pointer a2) := by
  obtain ⟨v, h2⟩ := h2
  have c0 := hs.cell 0
  have c1 := hs.cell 1
  have c2 := hg.cell 2
  have f2 := hg.frozen 2
  rw [h2] at c2
  simp at c0 c1
  obtain ⟨ti, hti, -, hsz, -⟩ := text_row
  have hne := fun (w : World) => run_neq_self w 32 133 ⟨g, 0, none⟩ ti Tryz.underlying32 hti (by rw [hsz]; decide)
  go_enter Tryz.func37, Tryz.ntmps37
  go_wp2_with fail
  go_ret
  exact ⟨rfl, rfl⟩
set_option maxRecDepth 100000 in
set_option maxHeartbeats 1000000 in
theorem inside_any (gb g : Nat) (cs : Array Value) (D : Nat → Prop) (enc : Int) (ds : List (Int × Int)) (x : Int) (w : World) (hb : Blk w gb 71 cs) (h0 : cs[0]? = some (.pointer (some ⟨g, 0, none⟩))) (ht : TextAt w D g enc ds) :
    Calls Tryz.prog 93 #[.pointer (some ⟨gb, 0, none⟩), .int .i64 x] w fun e w' => e = .returned (.bool (decide (0 ≤ x ∧ x ≤ (ds.length : Int)))) ∧ Below w.heap.size w w' := by
  have c0 := hb.cell 0
  rw [h0] at c0
  have hk := len_any D g enc ds w ht
  have HK := Lib.hid hk
  clear hk
  by_cases hx : 0 ≤ x
  · have q : ((0 : Int) ≤ x) = True := eq_true hx
    go_enter Tryz.func93, Tryz.ntmps93
    go_wp2_with fail
    refine (HK.out).mono ?_
    rintro e w1 ⟨rfl, hb1⟩
    go_wp2_with fail
    go_ret
    refine ⟨ret_b ?_, hb1⟩
    simp [hx]
  · have q : ((0 : Int) ≤ x) = False := eq_false hx
    go_enter Tryz.func93, Tryz.ntmps93
    go_wp2_with fail
    go_ret
    refine ⟨ret_b ?_, Below.refl _ _⟩
    simp [hx]
set_option maxRecDepth 100000 in
set_option maxHeartbeats 1000000 in
theorem isOpen_any (gb : Nat) (cs : Array Value) (p : Option Addr) (w : World) (hb : Blk w gb 71 cs) (h6 : cs[6]? = some (.pointer p)) :
    Calls Tryz.prog 64 #[.pointer (some ⟨gb, 0, none⟩)] w fun e w' => e = .returned (.bool p.isSome) ∧ w = w' := by
  have c6 := hb.cell 6
  rw [h6] at c6
  cases p with
  | none =>
    go_enter Tryz.func64, Tryz.ntmps64
    go_wp2_with fail
    go_ret
    exact ⟨rfl, rfl⟩
  | some p =>
    go_enter Tryz.func64, Tryz.ntmps64
    go_wp2_with fail
    go_ret
    exact ⟨rfl, rfl⟩
end Go.Proofs.YteekabaoocaghaaGreat
namespace Go.Proofs.YteekabaoocaghaaGreat
open Go.RowKit

/-! ### rows of one type, below a block -/
def RowT (w : World) (N : Nat) (T : TypeId) (size : Nat) (A : Option Addr) (n : Nat) (xs : List Value) : Prop :=
  xs.length = n * size ∧ (0 < n → ∃ b o cs, A = some ⟨b, o, none⟩ ∧ b < N ∧ Blk w b T cs ∧ ∀ j u, xs[j]? = some u → cs[o + j]? = some u)
/-- blocks of a type, below N, stay -/
def KeepTy (N : Nat) (T : TypeId) (w w' : World) : Prop := ∀ b cs, b < N → Blk w b T cs → Blk w' b T cs
section
variable {w w' w'' : World} {N N' size n : Nat} {T : TypeId} {A : Option Addr} {xs : List Value}
theorem RowT.reads (h : RowT w N T size A n xs) : Reads w (fun b => b < N) size A n xs := by
  refine ⟨h.1, fun hn => ?_⟩
  obtain ⟨b, o, cs, e, hb, hk, hc⟩ := h.2 hn
  refine ⟨_, e, hb, fun j u hu => ?_⟩
  rw [add_cell, hk.cell]
  exact hc j u hu
theorem RowT.keep (h : RowT w N T size A n xs) (hk : KeepTy N T w w') : RowT w' N T size A n xs := by
  refine ⟨h.1, fun hn => ?_⟩
  obtain ⟨b, o, cs, e, hb, hc, hx⟩ := h.2 hn
  exact ⟨b, o, cs, e, hb, hk b cs hb hc, hx⟩
theorem RowT.mono (h : RowT w N T size A n xs) (hN : N ≤ N') : RowT w N' T size A n xs := by
  refine ⟨h.1, fun hn => ?_⟩
  obtain ⟨b, o, cs, e, hb, hc, hx⟩ := h.2 hn
  exact ⟨b, o, cs, e, Nat.lt_of_lt_of_le hb hN, hc, hx⟩
theorem RowT.of_own {B c : Nat} (h : w.ownsRow B T size (.slice A n c) n xs) (hN : w.heap.size ≤ N) : RowT w N T size A n xs := by
  refine ⟨h.1, fun hn => ?_⟩
  rcases h.2 with ⟨_, h0⟩ | ⟨g, cap, cur, e, _, hg, _, _, _, ht⟩
  · omega
  · injection e with e1 e2 e3
    subst e1
    have hb : Blk w g T cur := hg
    refine ⟨g, 0, cur, rfl, Nat.lt_of_lt_of_le hb.lt hN, hb, fun j u hu => ?_⟩
    rw [← ht, List.getElem?_take] at hu
    split at hu
    · rw [Nat.zero_add]
      simpa using hu
    · cases hu
theorem KeepTy.refl (N : Nat) (T : TypeId) (w : World) : KeepTy N T w w := fun _ _ _ h => h
theorem KeepTy.trans (h : KeepTy N T w w') (k : KeepTy N T w' w'') : KeepTy N T w w'' := fun b cs hb hc => k b cs hb (h b cs hb hc)
theorem KeepTy.below (h : Below w.heap.size w w') : KeepTy N T w w' := fun _ _ _ hc => hc.below h
theorem KeepTy.fr {S : Nat → Prop} (hf : Fr S w w') (hS : ∀ b cs, b < N → S b → ¬ Blk w b T cs) : KeepTy N T w w' := fun b cs hb hc => hc.fr hf (fun hs => hS b cs hb hs hc)
end

/-! ### groups -/
structure Mv where
  f : Int
  t : Int
  n : Int
def Mv.cells (e : Mv) : Array Value := #[.int .i64 e.f, .int .i64 e.t, .int .i64 e.n]
def mvFlat (l : List Mv) : List Value := l.flatMap fun e => e.cells.toList
/-- a group of changes -/
structure Gr where
  before : List (Int × Int)
  behind : List (Int × Int)
  bgn : Int
  fin : Int
  moves : List (List Mv)
  old : Int
  fresh : Int
/-- a row of rows of moves: its elements -/
def MvRows (w : World) (N : Nat) (vs : List Value) (mvs : List (List Mv)) : Prop := vs.length = mvs.length ∧ ∀ (i : Nat) (v : Value) (mv : List Mv), vs[i]? = some v → mvs[i]? = some mv → ∃ A m c, v = Value.slice A m c ∧ m ≤ c ∧ RowT w N 154 3 A m (mvFlat mv) ∧ mv.length = m
/-- what the groups hang on stays -/
structure GKeep (N : Nat) (add add' : Value) (n n' : Nat) (enc : Int) (w w' : World) : Prop where
  gr : KeepTy N 90 w w'
  sn : KeepTy N 150 w w'
  rows : KeepTy N 92 w w'
  mvs : KeepTy N 154 w w'
  tree : ∀ t a, TreeIn w add n enc t a → TreeIn w' add' n' enc t a
def SnapB (w : World) (N g : Nat) (add : Value) (n : Nat) (enc : Int) (s : Nat) (ats : List (Int × Int)) : Prop := s < N ∧ SnapAt w g add n enc s ats
def GrAt (w : World) (N g : Nat) (add : Value) (n : Nat) (enc : Int) (p : Nat) (G : Gr) : Prop :=
  ∃ s1 s2 A m c vs, p < N ∧ Blk w p 90 #[.pointer (some ⟨s1, 0, none⟩), .pointer (some ⟨s2, 0, none⟩), .int .i64 G.bgn, .int .i64 G.fin, .slice A m c, .int .i64 G.old, .int .i64 G.fresh] ∧
    SnapB w N g add n enc s1 G.before ∧ SnapB w N g add n enc s2 G.behind ∧ RowT w N 92 1 A m vs ∧ m ≤ c ∧ MvRows w N vs G.moves ∧ m ≤ 1073741824
section
variable {w w' w'' : World} {N N' g n n' n'' : Nat} {add add' add'' : Value} {enc : Int}
theorem GKeep.below {B : Nat} {xs : List Value} {cs : Array Value} (hr : w.ownsRow B 5 1 add n xs) (hg : Blk w g 133 cs) (h : Below w.heap.size w w') : GKeep N add add n n enc w w' :=
  ⟨KeepTy.below h, KeepTy.below h, KeepTy.below h, KeepTy.below h, fun _ _ ht => ht.step (g := g) (TStep.below hr h) hr hg⟩
theorem GKeep.trans (h : GKeep N add add' n n' enc w w') (k : GKeep N add' add'' n' n'' enc w' w'') : GKeep N add add'' n n'' enc w w'' :=
  ⟨h.gr.trans k.gr, h.sn.trans k.sn, h.rows.trans k.rows, h.mvs.trans k.mvs, fun t a ht => k.tree t a (h.tree t a ht)⟩
theorem GKeep.step {B : Nat} {xs : List Value} {cs : Array Value} (hs : TStep g add add' n n' w w') (hr : w.ownsRow B 5 1 add n xs) (hg : Blk w g 133 cs) : GKeep N add add' n n' enc w w' := by
  have key : ∀ T : TypeId, T ≠ 133 → T ≠ 5 → KeepTy N T w w' := fun T h1 h2 => KeepTy.fr hs.fr (fun b cs _ hs hb => by
    rcases hs with rfl | hs
    · exact Blk.ne_ hb hg h1 rfl
    · exact own_blk_ne hr hb (Ne.symm h2) hs)
  exact ⟨key _ (by decide) (by decide), key _ (by decide) (by decide), key _ (by decide) (by decide), key _ (by decide) (by decide), fun _ _ ht => ht.step hs hr hg⟩
/-- blocks that neither a text nor groups hang on -/
def Far2 (w : World) (N k : Nat) : Prop := Far w k ∧ ∀ T cs, Blk w k T cs → (T ≠ 90 ∧ T ≠ 150 ∧ T ≠ 92 ∧ T ≠ 154) ∨ N ≤ k
theorem GKeep.far {S : Nat → Prop} (hf : Fr S w w') (hS : ∀ k, k < w.heap.size → S k → Far2 w N k) : GKeep N add add n n enc w w' := by
  have key : ∀ T : TypeId, (T = 90 ∨ T = 150 ∨ T = 92 ∨ T = 154) → KeepTy N T w w' := fun T hT => KeepTy.fr hf (fun b cs hb hs hc => by
    rcases (hS b hc.lt hs).2 T cs hc with ⟨h1, h2, h3, h4⟩ | h5
    · rcases hT with rfl | rfl | rfl | rfl
      · exact h1 rfl
      · exact h2 rfl
      · exact h3 rfl
      · exact h4 rfl
    · omega)
  exact ⟨key _ (.inl rfl), key _ (.inr (.inl rfl)), key _ (.inr (.inr (.inl rfl))), key _ (.inr (.inr (.inr rfl))), fun _ _ ht => ht.far hf (fun k h1 h2 => (hS k h1 h2).1)⟩
theorem Far2.blk {T : TypeId} {cs : Array Value} {k : Nat} (h : Blk w k T cs) (h1 : (T ≠ 133 ∧ T ≠ 185 ∧ T ≠ 5) ∧ T ≠ 90 ∧ T ≠ 150 ∧ T ≠ 92 ∧ T ≠ 154) : Far2 w N k :=
  ⟨Far.blk h h1.1, fun T' cs' h' => .inl (by
    have : T' = T := by
      unfold Blk at h h'
      rw [h] at h'
      injection h' with h'
      injection h' with _ h'
      exact h'.symm
    rw [this]
    exact h1.2)⟩
theorem Far2.new {T : TypeId} {cs : Array Value} {k : Nat} (h : Blk w k T cs) (h1 : T ≠ 133 ∧ T ≠ 185 ∧ T ≠ 5) (hN : N ≤ k) : Far2 w N k := ⟨Far.blk h h1, fun _ _ _ => .inr hN⟩
theorem SnapB.keep {s : Nat} {ats : List (Int × Int)} (h : SnapB w N g add n enc s ats) (hk : GKeep N add add' n n' enc w w') : SnapB w' N g add' n' enc s ats := by
  obtain ⟨hs, t, a, h1, h2, h3⟩ := h
  exact ⟨hs, t, a, hk.sn s _ hs h1, hk.tree t a h2, h3⟩
theorem MvRows.keep {vs : List Value} {mvs : List (List Mv)} (h : MvRows w N vs mvs) (hk : KeepTy N 154 w w') : MvRows w' N vs mvs := by
  refine ⟨h.1, fun i v mv hv hm => ?_⟩
  obtain ⟨A, m, c, e, hc, hr, hl⟩ := h.2 i v mv hv hm
  exact ⟨A, m, c, e, hc, hr.keep hk, hl⟩
theorem GrAt.keep {p : Nat} {G : Gr} (h : GrAt w N g add n enc p G) (hk : GKeep N add add' n n' enc w w') : GrAt w' N g add' n' enc p G := by
  obtain ⟨s1, s2, A, m, c, vs, hp, h1, h2, h3, h4, h5, h6, h7⟩ := h
  exact ⟨s1, s2, A, m, c, vs, hp, hk.gr p _ hp h1, h2.keep hk, h3.keep hk, h4.keep hk.rows, h5, h6.keep hk.mvs, h7⟩
theorem SnapB.mono {s : Nat} {ats : List (Int × Int)} (h : SnapB w N g add n enc s ats) (hN : N ≤ N') : SnapB w N' g add n enc s ats := ⟨Nat.lt_of_lt_of_le h.1 hN, h.2⟩
theorem MvRows.mono {vs : List Value} {mvs : List (List Mv)} (h : MvRows w N vs mvs) (hN : N ≤ N') : MvRows w N' vs mvs := by
  refine ⟨h.1, fun i v mv hv hm => ?_⟩
  obtain ⟨A, m, c, e, hc, hr, hl⟩ := h.2 i v mv hv hm
  exact ⟨A, m, c, e, hc, hr.mono hN, hl⟩
theorem GrAt.mono {p : Nat} {G : Gr} (h : GrAt w N g add n enc p G) (hN : N ≤ N') : GrAt w N' g add n enc p G := by
  obtain ⟨s1, s2, A, m, c, vs, hp, h1, h2, h3, h4, h5, h6, h7⟩ := h
  exact ⟨s1, s2, A, m, c, vs, Nat.lt_of_lt_of_le hp hN, h1, h2.mono hN, h3.mono hN, h4.mono hN, h5, h6.mono hN, h7⟩
end
/-- a row of groups that a book owns -/
def StackAt (w : World) (N B g : Nat) (add : Value) (n : Nat) (enc : Int) (v : Value) (Gs : List Gr) : Prop :=
  ∃ ps : List Nat, w.ownsRow B 85 1 v ps.length (ps.map fun p => Value.pointer (some ⟨p, 0, none⟩)) ∧ ps.length = Gs.length ∧ (∀ (i p : Nat) (G : Gr), ps[i]? = some p → Gs[i]? = some G → GrAt w N g add n enc p G) ∧ Gs.length ≤ 1048576
theorem StackAt.keep {w w' : World} {N N' B g n n' : Nat} {add add' v : Value} {enc : Int} {Gs : List Gr} (h : StackAt w N B g add n enc v Gs) (hk : GKeep N add add' n n' enc w w') (hN : N ≤ N')
    (ho : ∀ m xs, w.ownsRow B 85 1 v m xs → w'.ownsRow B 85 1 v m xs) : StackAt w' N' B g add' n' enc v Gs := by
  obtain ⟨ps, h1, h2, h3, h4⟩ := h
  exact ⟨ps, ho _ _ h1, h2, fun i p G hp hG => ((h3 i p G hp hG).keep hk).mono hN, h4⟩
theorem own_fr' {w w' : World} {B e size n : Nat} {S : Nat → Prop} {v : Value} {xs : List Value} (h : w.ownsRow B e size v n xs) (hf : Fr S w w') (hn : ∀ b cs, S b → ¬ Blk w b e cs) : w'.ownsRow B e size v n xs :=
  own_fr h hf (fun b hb hs => by
    rcases h.2 with ⟨rfl, _⟩ | ⟨r, c, cur, rfl, _, h2, _⟩
    · cases hb
    · have : r = b := by simpa [Value.ownBlock] using hb
      subst this
      exact hn r cur hs h2)
theorem TextM.far {w w' : World} {B g n : Nat} {enc lim : Int} {add : Value} {t : Tr} {a : Option Addr} {xs : List Value} {S : Nat → Prop} (h : TextM w B g enc lim n add t a xs) (hf : Fr S w w') (hS : ∀ k, k < w.heap.size → S k → Far w k) : TextM w' B g enc lim n add t a xs :=
  ⟨h.blk.fr hf (fun hs => (hS g h.blk.lt hs).ne (.inl rfl) h.blk rfl), own_fr' h.row hf (fun b cs hs hb => (hS b hb.lt hs).ne (.inr (.inr rfl)) hb rfl), h.enc4, Nat.le_trans h.base hf.size, h.tree.far hf hS⟩
/-- the open group -/
structure OpS where
  before : List (Int × Int)
  bgn : Int
  moves : List (List Mv)
  old : Int
  changed : Bool
def OpenAt (w : World) (N B g : Nat) (add : Value) (n : Nat) (enc : Int) (p : Nat) (o : OpS) : Prop :=
  ∃ s m vm vs, Blk w p 190 #[.pointer (some ⟨s, 0, none⟩), .pointer none, .int .i64 o.bgn, .int .i64 0, vm, .int .i64 o.old, .int .i64 0, .map (some m), .slice none 0 0, .bool o.changed] ∧ EmptyMap w m ∧ SnapB w N g add n enc s o.before ∧
    w.ownsRow N 92 1 vm vs.length vs ∧ MvRows w w.heap.size vs o.moves ∧ o.moves.length ≤ 1048576
/-- a book: its text's atoms (and tags), its groups, the open one -/
structure BkS where
  ats : List (Int × Int)
  undo : List Gr
  redo : List Gr
  now : Option OpS
  state : Int
  saved : Int
  last : Int
  depth : Int
structure BkAt (w : World) (N B gb g : Nat) (enc lim : Int) (n : Nat) (add : Value) (st : BkS) (t : Tr) (a : Option Addr) (xs : List Value) (m : Nat) (vu vr : Value) (now : Option Addr) : Prop where
  blk : Blk w gb 71 #[.pointer (some ⟨g, 0, none⟩), .int .i64 st.depth, vu, vr, .map (some m), .slice none 0 0, .pointer now, .int .i64 st.state, .int .i64 st.saved, .int .i64 st.last]
  text : TextM w B g enc lim n add t a xs
  ats : atsL enc t.list = st.ats
  sz : szS (decL enc t.list) ≤ 65536
  lim0 : lim ≤ 65536
  map : EmptyMap w m
  undo : StackAt w N B g add n enc vu st.undo
  redo : StackAt w N B g add n enc vr st.redo
  sep : ∀ b, vu.ownBlock = some b → vr.ownBlock ≠ some b
  open_ : match st.now with | none => now = none | some o => ∃ p, now = some ⟨p, 0, none⟩ ∧ OpenAt w N B g add n enc p o
  nle : N ≤ w.heap.size
  nums : 0 ≤ st.last ∧ st.last ≤ 1073741824 ∧ 1 ≤ st.depth ∧ st.depth ≤ 200
  low : B ≤ gb ∧ B ≤ g ∧ B ≤ N ∧ ∀ p, now = some ⟨p, 0, none⟩ → B ≤ p
/-! ### what a book's methods leave as it was -/
def BookTy (T : TypeId) : Prop := T = 133 ∨ T = 5 ∨ T = 71 ∨ T = 190 ∨ T = 92 ∨ T = 85
def BkFr (B : Nat) (w w' : World) : Prop := Fr (fun b => B ≤ b ∧ ∃ T cs, Blk w b T cs ∧ BookTy T) w w'
theorem BkFr.refl (B : Nat) (w : World) : BkFr B w w := Fr.refl _ _
theorem BkFr.below {B : Nat} {w w' : World} (h : Below w.heap.size w w') : BkFr B w w' := Fr.of_below h
theorem BkFr.trans {B : Nat} {w w' w'' : World} (h : BkFr B w w') (k : BkFr B w' w'') : BkFr B w w'' := by
  refine ⟨k.os.trans h.os, k.tape.trans h.tape, k.output.trans h.output, Nat.le_trans h.size k.size, fun i hi hn => ?_⟩
  have h1 := h.block i hi hn
  refine (k.block i (Nat.lt_of_lt_of_le hi h.size) (fun hs => ?_)).trans h1
  obtain ⟨hB, T, cs, hb, hT⟩ := hs
  exact hn ⟨hB, T, cs, h1.symm.trans hb, hT⟩
theorem BkFr.blk {B : Nat} {w w' : World} {b : Nat} {T : TypeId} {cs : Array Value} (h : BkFr B w w') (hb : Blk w b T cs) (hT : ¬ BookTy T) : Blk w' b T cs := hb.fr h (fun hs => by
  obtain ⟨-, T', cs', hb', hT'⟩ := hs
  have : T = T' := by
    unfold Blk at hb hb'
    rw [hb] at hb'
    injection hb' with hb'
    injection hb' with _ hb'
  exact hT (this ▸ hT'))
theorem BkFr.map {B : Nat} {w w' : World} {r : Nat} (h : BkFr B w w') (hr : EmptyMap w r) : EmptyMap w' r := hr.fr h (fun hs => by
  obtain ⟨-, T', cs', hb', _⟩ := hs
  exact hr.ne_blk hb' rfl)
theorem BkFr.own {B' : Nat} {w w' : World} {B e size n : Nat} {v : Value} {xs : List Value} (h : BkFr B' w w') (ho : w.ownsRow B e size v n xs) (hT : ¬ BookTy e) : w'.ownsRow B e size v n xs := own_fr' ho h (fun b cs hs hb => by
  obtain ⟨-, T', cs', hb', hT'⟩ := hs
  have : e = T' := by
    unfold Blk at hb hb'
    rw [hb] at hb'
    injection hb' with hb'
    injection hb' with _ hb'
  exact hT (this ▸ hT'))
theorem OwnB.low {w : World} {B e size n y : Nat} {v : Value} {xs : List Value} (h : OwnB v y) (ho : w.ownsRow B e size v n xs) : B ≤ y := by
  rcases ho.2 with ⟨e0, _⟩ | ⟨r, c, cur, e0, h1, _⟩
  · unfold OwnB at h; rw [e0] at h; cases h
  · unfold OwnB at h
    rw [e0] at h
    have : r = y := by simpa [Value.ownBlock] using h
    omega
theorem BkFr.of_fr {B : Nat} {w w' : World} {S : Nat → Prop} (h : Fr S w w') (hS : ∀ b, b < w.heap.size → S b → B ≤ b ∧ ∃ T cs, Blk w b T cs ∧ BookTy T) : BkFr B w w' := h.more hS
end Go.Proofs.YteekabaoocaghaaGreat
namespace Go.Proofs.YteekabaoocaghaaGreat
open Go.RowKit

set_option maxRecDepth 100000 in
set_option maxHeartbeats 2000000 in
theorem follow_none (w : World) (gb m : Nat) (cs : Array Value) (l : Value) (hb : Blk w gb 71 cs) (h4 : cs[4]? = some (.map (some m))) (h5 : cs[5]? = some (.slice none 0 0)) (hm : EmptyMap w m) :
    Calls Tryz.prog 38 #[.pointer (some ⟨gb, 0, none⟩), l] w fun e w' => e = .returned (.tuple #[]) ∧ Below w.heap.size w w' := by
  have c4 := hb.cell 4
  rw [h4] at c4
  have hx := EmptyMap.range (t := 68) hm Tryz.underlying68
  have hy := EmptyMap.next hm 0
  have c5 := (hb.alloc (.mapIter (some m) 0 #[] 0)).cell 5
  rw [h5] at c5
  clear hb h4 h5
  go_enter Tryz.func38, Tryz.ntmps38
  go_wp2_with fail
  refine wp_loop_rounds 1 ?_
  rw [rounds_succ]
  go_wp2_with fail
  refine wp_loop_rounds 1 ?_
  rw [rounds_succ]
  go_wp2_with fail
  show bodyPost _ _ _ _ _ _
  refine bodyPost_end (results_none rfl _ _ _) rfl ?_
  exact ⟨rfl, balloc (Below.refl _ _)⟩
end Go.Proofs.YteekabaoocaghaaGreat
namespace Go.Proofs.YteekabaoocaghaaGreat
open Go.RowKit

/-- edits one behind the other -/
def spl {α : Type} (f : Int → α) : Int → List Ed → List α → List α
  | a, [], l => l.drop a.toNat
  | a, e :: r, l => seg a e.f l ++ (e.put.map f ++ spl f e.t r l)
theorem take_seg {α : Type} (l : List α) (a b : Int) (h0 : 0 ≤ a) (h : a ≤ b) : l.take b.toNat = l.take a.toNat ++ seg a b l := by
  unfold seg
  rw [← List.take_add]
  congr 1
  omega
theorem seg_split {α : Type} (l : List α) (a b c : Int) (h0 : 0 ≤ a) (h : a ≤ b) (h2 : b ≤ c) : seg a c l = seg a b l ++ seg b c l := by
  have e : (l.drop a.toNat).drop (b.toNat - a.toNat) = l.drop b.toNat := by rw [List.drop_drop]; congr 1; omega
  unfold seg
  rw [← e, ← List.take_add]
  congr 1
  omega
theorem seg_drop {α : Type} (l : List α) (a b : Int) (h0 : 0 ≤ a) (h : a ≤ b) : l.drop a.toNat = seg a b l ++ l.drop b.toNat := by
  have e : (l.drop a.toNat).drop (b.toNat - a.toNat) = l.drop b.toNat := by rw [List.drop_drop]; congr 1; omega
  unfold seg
  rw [← e, List.take_append_drop]
theorem seg_mem {l : List Int} {a b : Int} {x : Int} (h0 : 0 ≤ a) (h : x ∈ seg a b l) : ∃ p : Nat, a ≤ p ∧ (p : Int) < b ∧ p < l.length ∧ l.getD p 0 = x := by
  obtain ⟨i, hi, e⟩ := List.mem_iff_getElem.1 h
  unfold seg at hi e
  rw [List.length_take, List.length_drop] at hi
  rw [List.getElem_take, List.getElem_drop] at e
  refine ⟨a.toNat + i, by omega, by omega, by omega, ?_⟩
  rw [List.getD_eq_getElem?_getD, List.getElem?_eq_getElem (by omega)]
  exact e
theorem seg_len {α : Type} (l : List α) (a b : Int) (h0 : 0 ≤ a) (h : a ≤ b) (h2 : b ≤ l.length) : ((seg a b l).length : Int) = b - a := by
  unfold seg
  rw [List.length_take, List.length_drop]
  omega
theorem edL_spl {α : Type} (f : Int → α) : ∀ (es : List Ed) (a : Int) (l : List α), ordF a l.length es = true → 0 ≤ a → a ≤ l.length → edL f es l = l.take a.toNat ++ spl f a es l := by
  intro es
  induction es with
  | nil => intro a l _ _ _; exact (List.take_append_drop _ _).symm
  | cons e r ih =>
    intro a l h h0 h1
    have hm := ordF_mem (e :: r) a l.length h h0 e List.mem_cons_self
    unfold ordF at h
    split at h
    · cases h
    · have hi := ih e.t l h (by omega) (by omega)
      rw [edL_cons, hi]
      unfold ed1
      rw [List.take_append_of_le_length (by rw [List.length_take]; omega), List.take_take, Nat.min_eq_left (by omega), List.drop_left' (by rw [List.length_take]; omega), take_seg l a e.f h0 (by omega)]
      simp only [spl, List.append_assoc]
theorem spl_map {α β : Type} (f : Int → α) (g : α → β) : ∀ (es : List Ed) (a : Int) (l : List α), (spl f a es l).map g = spl (fun x => g (f x)) a es (l.map g) := by
  intro es
  induction es with
  | nil => intro a l; exact List.map_drop
  | cons e r ih =>
    intro a l
    simp only [spl, List.map_append, List.map_map]
    rw [ih, seg_map]
    rfl
theorem edA_fst (es : List Ed) (a : Int) (l : List (Int × Int)) (h : ordF a l.length es = true) (h0 : 0 ≤ a) (h1 : a ≤ l.length) : (edA es l).map Prod.fst = (l.map Prod.fst).take a.toNat ++ spl (fun x => x) a es (l.map Prod.fst) := by
  unfold edA
  rw [edL_spl _ es a l h h0 h1, List.map_append, List.map_take, spl_map]

/-- an edit that joins the line i and the one behind it -/
def JStep (nb : Int → Bool) (bare : Bool) (ds : List (Int × Int)) (i : Nat) (e : Ed) : Prop :=
  e.f = (lineF ds i).to_ ∧ ∃ n : Nat, e.t = (lineF ds i).next + n ∧ n ≤ (cont ds (i + 1)).length ∧ (∀ x ∈ (cont ds (i + 1)).take n, nb x = false) ∧ (e.put = [] ∨ e.put = [32]) ∧ (bare = true → n = 0 ∧ e.put = [])
def JEs (nb : Int → Bool) (bare : Bool) (ds : List (Int × Int)) (k : Nat) (es : List Ed) : Prop := ∀ (j : Nat) (e : Ed), es[j]? = some e → JStep nb bare ds (k + j) e
theorem JEs.nil (nb : Int → Bool) (bare : Bool) (ds : List (Int × Int)) (k : Nat) : JEs nb bare ds k [] := fun j e h => by simp at h
theorem JEs.snoc {nb : Int → Bool} {bare : Bool} {ds : List (Int × Int)} {k : Nat} {es : List Ed} {e : Ed} (h : JEs nb bare ds k es) (he : JStep nb bare ds (k + es.length) e) : JEs nb bare ds k (es ++ [e]) := fun j e' hj => by
  rcases Nat.lt_or_ge j es.length with h1 | h1
  · rw [List.getElem?_append_left h1] at hj
    exact h j e' hj
  · rw [List.getElem?_append_right h1] at hj
    rcases Nat.eq_zero_or_pos (j - es.length) with h2 | h2
    · rw [h2] at hj
      simp at hj
      subst hj
      have : j = es.length := by omega
      rw [this]
      exact he
    · rw [List.getElem?_eq_none (by simp; omega)] at hj
      cases hj
def n10 (x : Int) : Bool := decide (x ≠ 10 ∧ x ≠ 13)
theorem filter_none {p : Int → Bool} {l : List Int} (h : ∀ x ∈ l, p x = false) : l.filter p = [] := by
  rw [List.filter_eq_nil_iff]
  intro x hx
  rw [h x hx]
  decide
theorem filter_all {p : Int → Bool} {l : List Int} (h : ∀ x ∈ l, p x = true) : l.filter p = l := by
  rw [List.filter_eq_self]
  exact h
section
variable {ds : List (Int × Int)} (hp : PosD ds) {nb : Int → Bool} (h10 : nb 10 = false) (h13 : nb 13 = false) (h32 : nb 32 = false) {bare : Bool}
include hp h10 h13 h32
theorem join_spl : ∀ (es : List Ed) (k : Nat) (a : Int), k + es.length ≤ totE ds → JEs nb bare ds k es → (lineF ds k).from_ ≤ a → a ≤ (lineF ds k).to_ →
    ordF a ds.length es = true ∧ ∃ ins, spl (fun x => x) a es (ds.map Prod.fst) = ins ++ (ds.map Prod.fst).drop (lineF ds (k + es.length)).to_.toNat ∧ ins.filter nb = (seg a (lineF ds (k + es.length)).to_ (ds.map Prod.fst)).filter nb ∧
      (bare = true → ins = (seg a (lineF ds (k + es.length)).to_ (ds.map Prod.fst)).filter n10) ∧ (∀ x ∈ ins, x ≠ 10 ∧ x ≠ 13) ∧ a ≤ (lineF ds (k + es.length)).to_ := by
  intro es
  induction es with
  | nil =>
    intro k a hk _ h0 h1
    have hbd := lineF_bd hp (i := k) (by omega)
    have hform := line_form hp (i := k) (by omega)
    simp only [List.length_nil, Nat.add_zero]
    have hno : ∀ x ∈ seg a (lineF ds k).to_ (ds.map Prod.fst), x ≠ 10 ∧ x ≠ 13 := fun x hx => by
      obtain ⟨p, h2, h3, _, rfl⟩ := seg_mem (by omega) hx
      exact hform.1 p (by omega) h3
    refine ⟨rfl, seg a (lineF ds k).to_ (ds.map Prod.fst), ?_, rfl, fun _ => ?_, hno, h1⟩
    · exact seg_drop _ _ _ (by omega) (by omega)
    · rw [filter_all]
      intro x hx
      unfold n10
      rw [decide_eq_true_eq]
      exact hno x hx
  | cons e r ih =>
    intro k a hk hj h0 h1
    simp only [List.length_cons] at hk ⊢
    have hbd := lineF_bd hp (i := k) (by omega)
    have hbd2 := lineF_bd hp (i := k + 1) (by omega)
    have hform := line_form hp (i := k) (by omega)
    have hnx := hform.2.2 (by omega)
    have hcl := cont_len hp (i := k + 1) (by omega)
    obtain ⟨hef, n, het, hn, hbl, hput, hbare⟩ := hj 0 e rfl
    simp only [Nat.add_zero] at hef het hn hbl
    have hj2 : JEs nb bare ds (k + 1) r := fun j e' hj' => by
      have := hj (j + 1) e' (by simpa using hj')
      rwa [show k + (j + 1) = k + 1 + j by omega] at this
    obtain ⟨i1, ins, i2, i3, i4, i5, i6⟩ := ih (k + 1) e.t (by omega) hj2 (by omega) (by omega)
    have ek : k + 1 + r.length = k + (r.length + 1) := by omega
    rw [ek] at i2 i3 i4 i6
    obtain ⟨T, hT⟩ : ∃ T, (lineF ds (k + (r.length + 1))).to_ = T := ⟨_, rfl⟩
    rw [hT] at i2 i3 i4 i6 ⊢
    have hno : ∀ x ∈ seg a e.f (ds.map Prod.fst), x ≠ 10 ∧ x ≠ 13 := fun x hx => by
      obtain ⟨p, h2, h3, _, rfl⟩ := seg_mem (by omega) hx
      exact hform.1 p (by omega) (by omega)
    have hbk : ∀ x ∈ seg e.f (lineF ds k).next (ds.map Prod.fst), x = 10 ∨ x = 13 := fun x hx => by
      obtain ⟨p, h2, h3, _, rfl⟩ := seg_mem (by omega) hx
      exact hform.2.1 p (by omega) h3
    have hsg : seg (lineF ds k).next e.t (ds.map Prod.fst) = (cont ds (k + 1)).take n := by
      unfold cont
      rw [← hnx.2]
      unfold seg
      rw [List.take_take]
      congr 1
      omega
    have hsp : seg a T (ds.map Prod.fst) = seg a e.f (ds.map Prod.fst) ++ (seg e.f (lineF ds k).next (ds.map Prod.fst) ++ (seg (lineF ds k).next e.t (ds.map Prod.fst) ++ seg e.t T (ds.map Prod.fst))) := by
      rw [seg_split _ a e.f T (by omega) (by omega) (by omega), seg_split _ e.f (lineF ds k).next T (by omega) (by omega) (by omega), seg_split _ (lineF ds k).next e.t T (by omega) (by omega) (by omega)]
    have hnb2 : (seg e.f (lineF ds k).next (ds.map Prod.fst)).filter nb = [] := filter_none (fun x hx => by rcases hbk x hx with rfl | rfl <;> assumption)
    have hn102 : (seg e.f (lineF ds k).next (ds.map Prod.fst)).filter n10 = [] := filter_none (fun x hx => by rcases hbk x hx with rfl | rfl <;> rfl)
    have hnb3 : (seg (lineF ds k).next e.t (ds.map Prod.fst)).filter nb = [] := by rw [hsg]; exact filter_none hbl
    have hputs : e.put.filter nb = [] ∧ ∀ x ∈ e.put, x ≠ 10 ∧ x ≠ 13 := by
      rcases hput with h | h
      · rw [h]; exact ⟨rfl, fun x hx => by cases hx⟩
      · rw [h]
        refine ⟨filter_none (fun x hx => ?_), fun x hx => ?_⟩
        · simp at hx; rw [hx]; exact h32
        · simp at hx; omega
    refine ⟨?_, seg a e.f (ds.map Prod.fst) ++ (e.put ++ ins), ?_, ?_, fun hb => ?_, fun x hx => ?_, by omega⟩
    · unfold ordF
      rw [if_neg (by omega)]
      exact i1
    · simp only [spl, List.map_id']
      rw [i2]
      simp only [List.append_assoc]
    · rw [hsp]
      simp only [List.filter_append]
      rw [hnb2, hnb3, hputs.1, i3]
      rfl
    · have h4 := hbare hb
      rw [hsp]
      simp only [List.filter_append]
      rw [hn102, hsg, h4.1, h4.2, i4 hb, filter_all (l := seg a e.f (ds.map Prod.fst)) (fun x hx => by unfold n10; rw [decide_eq_true_eq]; exact hno x hx)]
      rfl
    · rcases List.mem_append.1 hx with h | h
      · exact hno x h
      · rcases List.mem_append.1 h with h | h
        · exact hputs.2 x h
        · exact i5 x h
end
/-- a join puts no more bytes than it takes -/
theorem join_sz {ds : List (Int × Int)} (hp : PosD ds) {nb : Int → Bool} {bare : Bool} {enc : Int} (hz : ∀ x ∈ ds, x.1 = 10 ∨ x.1 = 13 → x.2 = szA enc 32) : ∀ (es : List Ed) (k : Nat), k + es.length ≤ totE ds → JEs nb bare ds k es → putB enc es ≤ remB ds es := by
  intro es
  induction es with
  | nil => intro k _ _; exact Int.le_refl _
  | cons e r ih =>
    intro k hk hj
    simp only [List.length_cons] at hk
    have hbd := lineF_bd hp (i := k) (by omega)
    have hform := line_form hp (i := k) (by omega)
    have hnx := hform.2.2 (by omega)
    obtain ⟨hef, n, het, hn, hbl, hput, hbare⟩ := hj 0 e rfl
    simp only [Nat.add_zero] at hef het hn hbl
    have hj2 : JEs nb bare ds (k + 1) r := fun j e' hj' => by
      have := hj (j + 1) e' (by simpa using hj')
      rwa [show k + (j + 1) = k + 1 + j by omega] at this
    have h1 := ih (k + 1) (by omega) hj2
    have h2 := rem1_sz hp e (by omega)
    have h3 := szS_mono hp (e.f.toNat + 1) e.t.toNat (by omega)
    have hlt : e.f.toNat < ds.length := by omega
    have h4 : szS (ds.take (e.f.toNat + 1)) = szS (ds.take e.f.toNat) + ds[e.f.toNat].2 := by
      rw [List.take_succ_eq_append_getElem hlt, szS_app]
      simp [szS]
    have h5 : ds[e.f.toNat].2 = szA enc 32 := by
      refine hz _ (List.getElem_mem hlt) ?_
      have h6 := hform.2.1 e.f.toNat (by omega) (by omega)
      rw [List.getD_eq_getElem?_getD, List.getElem?_map, List.getElem?_eq_getElem hlt] at h6
      exact h6
    have h7 : szL_ enc e.put ≤ szA enc 32 := by
      have := szA_ge enc 32
      rcases hput with h | h
      · rw [h]; simp [szL_]; omega
      · rw [h]; simp [szL_]
    have e1 : remB ds (e :: r) = rem1 ds e + remB ds r := by unfold remB; simp
    rw [putB_cons, e1]
    omega
end Go.Proofs.YteekabaoocaghaaGreat
