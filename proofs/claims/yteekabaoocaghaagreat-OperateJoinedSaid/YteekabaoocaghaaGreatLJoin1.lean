/-
  Small functions of a desk: its text, must, its way of ending lines. The deferred closure of caught, where nothing panicked. A desk whose book changes, as it lies in memory; what its calls leave. caught and work: an act in a group of its own. A desk's small functions over a book that changes: clamp, line, change. What the statement on joined lines counts, and that a join answers it (plain). operate.Join's act: the edits that join lines.
-/
import Derived.Test.YteekabaoocaghaaGreatLJoinLaw
import Derived.Recover
import Derived.Test.YteekabaoocaghaaGreatLUndoLaw
import Derived.Test.YteekabaoocaghaaGreatLBegun
import Derived.Test.YteekabaoocaghaaGreatLSame
import Derived.Test.YteekabaoocaghaaGreatLEnd2
import Derived.Test.YteekabaoocaghaaGreatLClamp
import Derived.Test.YteekabaoocaghaaGreatLCluster6
set_option linter.unusedSimpArgs false
set_option linter.unusedVariables false
namespace Go.Proofs.YteekabaoocaghaaGreat
open Go.RowKit

set_option maxRecDepth 100000 in
theorem desk_text (gd gb g : Nat) (ds cs : Array Value) (w : World) (hd : Blk w gd 41 ds) (h1 : ds[0]? = some (.pointer (some ⟨gb, 0, none⟩))) (hb : Blk w gb 71 cs) (h0 : cs[0]? = some (.pointer (some ⟨g, 0, none⟩))) :
    Calls Tryz.prog 26 #[.pointer (some ⟨gd, 0, none⟩)] w fun e w' => e = .returned (.pointer (some ⟨g, 0, none⟩)) ∧ w = w' := by
  have HK := Lib.hid (btext_any w gb g cs hb h0)
  have c0 := hd.cell 0
  rw [h1] at c0
  clear hb h0 hd h1
  go_enter Tryz.func26, Tryz.ntmps26
  go_wp2_with fail
  refine (HK.out).mono ?_
  rintro e w1 ⟨rfl, rfl⟩
  go_wp2_with fail
  go_ret
  exact ⟨rfl, rfl⟩
set_option maxRecDepth 100000 in
theorem must_ok (w : World) : Calls Tryz.prog 59 #[.int .i64 0] w fun e w' => e = .returned (.tuple #[]) ∧ w = w' := by
  go_enter Tryz.func59, Tryz.ntmps59
  go_wp2_with fail
  show bodyPost _ _ _ _ _ _
  refine bodyPost_end (results_none rfl _ _ _) rfl ?_
  exact ⟨rfl, rfl⟩
set_option maxRecDepth 100000 in
theorem native_any (gd : Nat) (ds : Array Value) (b : Int) (w : World) (hd : Blk w gd 41 ds) (h0 : ds[9]? = some (.int .i64 b)) (hb : 1 ≤ b ∧ b ≤ 3) :
    Calls Tryz.prog 58 #[.pointer (some ⟨gd, 0, none⟩)] w fun e w' => e = .returned (.int .i64 b) ∧ w = w' := by
  have c0 := hd.cell 9
  rw [h0] at c0
  have q1 : (b < 1) = False := by simp; omega
  have q2 : (3 < b) = False := by simp; omega
  clear hd h0
  go_enter Tryz.func58, Tryz.ntmps58
  go_wp2_with fail
  go_ret
  exact ⟨rfl, rfl⟩
end Go.Proofs.YteekabaoocaghaaGreat
namespace Go.Proofs.YteekabaoocaghaaGreat
open Go.RowKit

set_option maxRecDepth 100000 in
theorem caught1_ret (r : Nat) (w : World) :
    CallsD Tryz.prog 92 #[.pointer (some ⟨r, 0, none⟩)] .returning w fun e u' w' => u' = .returning ∧ e = .returned (.tuple #[]) ∧ w' = w := by
  refine callsD_of_wpS Tryz.func92 rfl fun c₀ cs hu => ?_
  apply wpS_seq
  apply wpS_region
  simp [wpOpsS, go_sem, recoverD, hu, Tryz.ntmps92, Exit.thenS]
  refine wpS_of_wp ?_
  go_wp2_with fail
  simp [bodyPostS, results, Tryz.results92, go_sem]
  cases c₀
  simp at hu
  subst hu
  rfl
end Go.Proofs.YteekabaoocaghaaGreat
namespace Go.Proofs.YteekabaoocaghaaGreat
open Go.RowKit

instance (T : TypeId) : Decidable (BookTy T) := by unfold BookTy; exact inferInstance
/-! ### what calls leave: blocks below B, and all blocks but those of a book and some more -/
def DFr (B : Nat) (X : Nat → Prop) (w w' : World) : Prop := Fr (fun b => (B ≤ b ∧ ∃ T cs, Blk w b T cs ∧ BookTy T) ∨ X b) w w'
theorem DFr.refl (B : Nat) (X : Nat → Prop) (w : World) : DFr B X w w := Fr.refl _ _
theorem DFr.of_below {B : Nat} {X : Nat → Prop} {w w' : World} (h : Below w.heap.size w w') : DFr B X w w' := Fr.of_below h
theorem DFr.of_bk {B : Nat} {X : Nat → Prop} {w w' : World} (h : BkFr B w w') : DFr B X w w' := h.more (fun _ _ hs => .inl hs)
theorem DFr.of_x {B : Nat} {X : Nat → Prop} {w w' : World} (h : Fr X w w') : DFr B X w w' := h.more (fun _ _ hs => .inr hs)
theorem DFr.wide {B B' : Nat} {X X' : Nat → Prop} {w w' : World} (h : DFr B X w w') (hB : B' ≤ B) (hX : ∀ b, b < w.heap.size → X b → X' b) : DFr B' X' w w' := h.more (fun b hb hs => by
  rcases hs with ⟨h1, h2⟩ | h1
  · exact .inl ⟨Nat.le_trans hB h1, h2⟩
  · exact .inr (hX b hb h1))
theorem DFr.trans {B : Nat} {X : Nat → Prop} {w w' w'' : World} (h : DFr B X w w') (k : DFr B X w' w'') : DFr B X w w'' := by
  refine ⟨k.os.trans h.os, k.tape.trans h.tape, k.output.trans h.output, Nat.le_trans h.size k.size, fun i hi hn => ?_⟩
  have h1 := h.block i hi hn
  refine (k.block i (Nat.lt_of_lt_of_le hi h.size) (fun hs => ?_)).trans h1
  rcases hs with ⟨hB, T, cs, hb, hT⟩ | hs
  · exact hn (.inl ⟨hB, T, cs, h1.symm.trans hb, hT⟩)
  · exact hn (.inr hs)
theorem DFr.call' {B : Nat} {X X' : Nat → Prop} {w w' w'' : World} (h : Below w.heap.size w w') (k : DFr B X' w' w'') (hX : ∀ b, b < w.heap.size → X' b → X b) : DFr B X w w'' :=
  ⟨k.os.trans h.os, k.tape.trans h.tape, k.output.trans h.output, Nat.le_trans h.size k.size, fun i hi hn => by
    have h1 := h.block i hi
    refine (k.block i (Nat.lt_of_lt_of_le hi h.size) (fun hs => ?_)).trans h1
    rcases hs with ⟨hB, T, cs, hb, hT⟩ | hs
    · exact hn (.inl ⟨hB, T, cs, h1.symm.trans hb, hT⟩)
    · exact hn (.inr (hX i hi hs))⟩
theorem DFr.blk {B : Nat} {X : Nat → Prop} {w w' : World} {b : Nat} {T : TypeId} {cs : Array Value} (h : DFr B X w w') (hb : Blk w b T cs) (hT : ¬ BookTy T) (hX : ¬ X b) : Blk w' b T cs := hb.fr h (fun hs => by
  rcases hs with ⟨-, T', cs', hb', hT'⟩ | hs
  · have : T = T' := by
      unfold Blk at hb hb'
      rw [hb] at hb'
      injection hb' with hb'
      injection hb' with _ hb'
    exact hT (this ▸ hT')
  · exact hX hs)
theorem DFr.low {B : Nat} {X : Nat → Prop} {w w' : World} (h : DFr B X w w') (hX : ∀ b, b < w.heap.size → X b → B ≤ b) (hB : B ≤ w.heap.size) : Below B w w' :=
  ⟨h.os, h.tape, h.output, Nat.le_trans hB h.size |> fun _ => h.size, fun i hi => h.block i (by omega) (fun hs => by
    rcases hs with ⟨h1, _⟩ | h1
    · omega
    · have := hX i (by omega) h1
      omega)⟩
theorem setCell_id {w : World} {b o : Nat} {T : TypeId} {cs : Array Value} {v : Value} (h : Blk w b T cs) (hv : cs[o]? = some v) : w.setCell ⟨b, o, none⟩ v = w := by
  have h' : w.heap[b]? = some (.cells cs T (0, 0)) := h
  rw [setCell_eq_setRow w b o cs T (0, 0) v h']
  have e : cs.setIfInBounds o v = cs := by
    apply Array.ext
    · simp
    · intro i h1 h2
      rw [Array.getElem_setIfInBounds]
      split
      · rename_i hio
        subst hio
        rw [Array.getElem?_eq_getElem h2] at hv
        exact (Option.some.inj hv).symm
      · rfl
  rw [e]
  have hlt : b < w.heap.size := (Array.getElem?_eq_some_iff.1 h').1
  have hw : w.heap[b] = .cells cs T (0, 0) := (Array.getElem?_eq_some_iff.1 h').2
  unfold World.setRow
  cases w with
  | mk heap tape drawn os output =>
    simp only [World.mk.injEq, and_true]
    apply Array.ext
    · simp
    · intro k h1 h2
      simp only [Array.getElem_modify]
      split
      · rename_i hk
        subst hk
        dsimp only at hw
        rw [hw]
      · rfl

/-! ### blocks that a book does not hang on -/
def Alien (T : TypeId) : Prop := (T ≠ 133 ∧ T ≠ 185 ∧ T ≠ 5) ∧ (T ≠ 90 ∧ T ≠ 150 ∧ T ≠ 92 ∧ T ≠ 154) ∧ T ≠ 71 ∧ T ≠ 190 ∧ T ≠ 85
instance (T : TypeId) : Decidable (Alien T) := by unfold Alien; exact inferInstance
theorem BkAt.alien {w w' : World} {N B gb g n m : Nat} {enc lim : Int} {add vu vr : Value} {st : BkS} {t : Tr} {a : Option Addr} {xs : List Value} {now : Option Addr} {S : Nat → Prop} (h : BkAt w N B gb g enc lim n add st t a xs m vu vr now) (hf : Fr S w w')
    (hS : ∀ k, k < w.heap.size → S k → ∃ T cs, Blk w k T cs ∧ Alien T) : BkAt w' N B gb g enc lim n add st t a xs m vu vr now := by
  have hne : ∀ {T : TypeId} {cs : Array Value} {b : Nat}, Blk w b T cs → ¬ Alien T → ¬ S b := fun hb hn hs => by
    obtain ⟨T', cs', hb', hA⟩ := hS _ hb.lt hs
    unfold Blk at hb hb'
    rw [hb] at hb'
    injection hb' with hb'
    injection hb' with _ hb'
    exact hn (hb' ▸ hA)
  have hfar : ∀ M k, k < w.heap.size → S k → Far2 w M k := fun M k hk hs => by
    obtain ⟨T, cs, hb, hA⟩ := hS k hk hs
    exact Far2.blk hb ⟨hA.1, hA.2.1⟩
  have hK : ∀ M, GKeep M add add n n enc w w' := fun M => GKeep.far hf (hfar M)
  have hmap : ∀ {r : Nat}, EmptyMap w r → EmptyMap w' r := fun {r} hr => hr.fr hf (fun hs => by
    obtain ⟨T, cs, hb, hA⟩ := hS r hr.lt hs
    exact hr.ne_blk hb rfl)
  have hown : ∀ v' k' ys, w.ownsRow B 85 1 v' k' ys → w'.ownsRow B 85 1 v' k' ys := fun v' k' ys ho => own_fr' ho hf (fun b cs hs hb => hne hb (fun hA => hA.2.2.2.2 rfl) hs)
  refine ⟨h.blk.fr hf (hne h.blk (fun hA => hA.2.2.1 rfl)), h.text.far hf (fun k hk hs => (hfar N k hk hs).1), h.ats, h.sz, h.lim0, hmap h.map, h.undo.keep (hK N) (Nat.le_refl _) (hown _), h.redo.keep (hK N) (Nat.le_refl _) (hown _), h.sep, ?_, Nat.le_trans h.nle hf.size, h.nums, h.low⟩
  have ho := h.open_
  cases hn : st.now with
  | none => rw [hn] at ho; exact ho
  | some o =>
    rw [hn] at ho
    obtain ⟨p, e, s, m2, vm, vs, h1, h2, h3, h4, h5, h6⟩ := ho
    exact ⟨p, e, s, m2, vm, vs, h1.fr hf (hne h1 (fun hA => hA.2.2.2.1 rfl)), hmap h2, h3.keep (hK N), own_fr' h4 hf (fun b cs hs hb => hne hb (fun hA => hA.2.1.2.2.1 rfl) hs), (h5.keep (hK w.heap.size).mvs).mono hf.size, h6⟩

/-! ### a desk -/
structure DeskIs (w : World) (B gd gb g : Nat) (enc lim : Int) (n : Nat) (st : BkS) (dc : Array Value) : Prop where
  desk : Blk w gd 41 dc
  c0 : dc[0]? = some (.pointer (some ⟨gb, 0, none⟩))
  low : B ≤ gd
  book : ∃ N add t a xs m vu vr now n', n' ≤ n ∧ BkAt w N B gb g enc lim n' add st t a xs m vu vr now
section
variable {w w' : World} {B gd gb g n : Nat} {enc lim : Int} {st : BkS} {dc : Array Value}
theorem DeskIs.below (h : DeskIs w B gd gb g enc lim n st dc) (hb : Below w.heap.size w w') : DeskIs w' B gd gb g enc lim n st dc := by
  obtain ⟨N, add, t, a, xs, m, vu, vr, now, n', hn, hk⟩ := h.book
  exact ⟨h.desk.below hb, h.c0, h.low, N, add, t, a, xs, m, vu, vr, now, n', hn, hk.below hb⟩
theorem DeskIs.base (h : DeskIs w B gd gb g enc lim n st dc) : B ≤ w.heap.size := by
  have := h.desk.lt
  have := h.low
  omega
theorem DeskIs.blkB (h : DeskIs w B gd gb g enc lim n st dc) : ∃ cs, Blk w gb 71 cs ∧ cs[0]? = some (.pointer (some ⟨g, 0, none⟩)) := by
  obtain ⟨N, add, t, a, xs, m, vu, vr, now, n', hn, hk⟩ := h.book
  exact ⟨_, hk.blk, rfl⟩
theorem DeskIs.enc4 (h : DeskIs w B gd gb g enc lim n st dc) : enc = 1 ∨ enc = 2 ∨ enc = 3 ∨ enc = 4 := by
  obtain ⟨N, add, t, a, xs, m, vu, vr, now, n', hn, hk⟩ := h.book
  exact hk.text.enc4
theorem DeskIs.tags (h : DeskIs w B gd gb g enc lim n st dc) : TextTag w Any g enc st.ats := by
  obtain ⟨N, add, t, a, xs, m, vu, vr, now, n', hn, hk⟩ := h.book
  exact ⟨lim, t, a, add, hk.text.text, hk.ats⟩
theorem DeskIs.at_ (h : DeskIs w B gd gb g enc lim n st dc) : TextAt w Any g enc (sizedA enc st.ats) := by
  obtain ⟨N, add, t, a, xs, m, vu, vr, now, n', hn, hk⟩ := h.book
  refine ⟨lim, t, a, add, hk.text.text, ?_⟩
  rw [sizedA_of hk.text.enc4 hk.text.tree.pcs.ok, hk.ats]
theorem DeskIs.sz (h : DeskIs w B gd gb g enc lim n st dc) : szS (sizedA enc st.ats) ≤ 65536 ∧ lim ≤ 65536 ∧ st.last ≤ 1073741824 := by
  obtain ⟨N, add, t, a, xs, m, vu, vr, now, n', hn, hk⟩ := h.book
  have := hk.sz
  rw [sizedA_of hk.text.enc4 hk.text.tree.pcs.ok, hk.ats] at this
  exact ⟨this, hk.lim0, hk.nums.2.1⟩
theorem sizedA_len (enc : Int) (ats : List (Int × Int)) : (sizedA enc ats).length = ats.length := by simp [sizedA, withSz]
theorem sizedA_fst (enc : Int) (ats : List (Int × Int)) : (sizedA enc ats).map Prod.fst = ats.map Prod.fst := by
  unfold sizedA withSz
  rw [List.map_map]
  exact List.map_id' _
theorem szS_len {ds : List (Int × Int)} (h : PosD ds) : (ds.length : Int) ≤ szS ds := by
  induction ds with
  | nil => exact Int.le_refl _
  | cons p ps ih =>
    have h1 := ih (h.drop 1)
    have h2 := szS_app [p] ps
    have h3 := szS_mono h 0 1 (by omega)
    have h4 : 0 < p.2 := h p List.mem_cons_self
    have h5 : szS [p] = p.2 := by simp [szS]
    rw [List.length_cons]
    have h6 : szS (p :: ps) = szS [p] + szS ps := h2
    omega
theorem DeskIs.pos (h : DeskIs w B gd gb g enc lim n st dc) : PosD (sizedA enc st.ats) := h.at_.pos
theorem DeskIs.len (h : DeskIs w B gd gb g enc lim n st dc) : st.ats.length ≤ 65536 := by
  have h1 := szS_len h.pos
  have h2 := h.sz.1
  rw [sizedA_len] at h1
  omega
theorem DeskIs.set (h : DeskIs w B gd gb g enc lim n st dc) {i : Nat} (hi : i ≠ 0) (u : Value) : DeskIs (w.setCell ⟨gd, i, none⟩ u) B gd gb g enc lim n st (dc.setIfInBounds i u) := by
  obtain ⟨N, add, t, a, xs, m, vu, vr, now, n', hn, hk⟩ := h.book
  refine ⟨h.desk.set_ i u, by rw [Array.getElem?_setIfInBounds_ne hi]; exact h.c0, h.low, N, add, t, a, xs, m, vu, vr, now, n', hn, ?_⟩
  exact hk.alien (show Fr (· = gd) w _ from (Fr.refl _ _).set1 i u) (fun k _ hk => ⟨_, _, hk ▸ h.desk, by decide⟩)
theorem DeskIs.alien {S : Nat → Prop} (h : DeskIs w B gd gb g enc lim n st dc) (hf : Fr S w w') (hS : ∀ k, k < w.heap.size → S k → k ≠ gd ∧ ∃ T cs, Blk w k T cs ∧ Alien T) : DeskIs w' B gd gb g enc lim n st dc := by
  obtain ⟨N, add, t, a, xs, m, vu, vr, now, n', hn, hk⟩ := h.book
  exact ⟨h.desk.fr hf (fun hs => (hS _ h.desk.lt hs).1 rfl), h.c0, h.low, N, add, t, a, xs, m, vu, vr, now, n', hn, hk.alien hf (fun k h1 h2 => (hS k h1 h2).2)⟩
theorem DeskIs.bk {st' : BkS} {n' : Nat} (h : DeskIs w B gd gb g enc lim n st dc) (hf : BkFr B w w') (hb : ∃ N add t a xs m vu vr now n1, n1 ≤ n' ∧ BkAt w' N B gb g enc lim n1 add st' t a xs m vu vr now) : DeskIs w' B gd gb g enc lim n' st' dc :=
  ⟨hf.blk h.desk (by decide), h.c0, h.low, hb⟩
end
end Go.Proofs.YteekabaoocaghaaGreat
namespace Go.Proofs.YteekabaoocaghaaGreat
open Go.RowKit

set_option maxRecDepth 100000 in
theorem caught_ok (fn : FuncId) (cap : Array Value) (w : World) (Q : World → Prop) (hen : ∀ args w, (callFunc fn args).run Tryz.prog w = .ok (.enter fn args) w)
    (hact : Calls Tryz.prog fn cap (w.alloc (.cells #[.int .i64 0] 45)) fun e w' => e = .returned (.tuple #[]) ∧ Q w') (hQ : ∀ w', Q w' → Blk w' w.heap.size 45 #[.int .i64 0]) :
    Calls Tryz.prog 65 #[.func (.func fn) #[] cap] w fun e w' => e = .returned (.int .i64 0) ∧ Q w' := by
  have hmf : ∀ (fn : Fn) (first cap : Array Value) (w : World), (Instr.makeFunc fn first cap).run Tryz.prog w = .ok (.func fn first cap) w := fun _ _ _ _ => rfl
  have HA := Lib.hid hact
  clear hact
  go_enter_defers Tryz.func65, Tryz.ntmps65
  go_wp2_with fail
  refine (HA.out).mono ?_
  rintro e w1 ⟨rfl, hq⟩
  have hb := hQ w1 hq
  have hid : w1.setCell ⟨w.heap.size, 0, none⟩ (.int .i64 0) = w1 := setCell_id hb rfl
  have c0 := hb.cell 0
  have f0 := hb.frozen 0
  simp at c0
  go_wp2_with fail
  refine leaves_cons (f := 92) (args := #[.pointer (some ⟨w.heap.size, 0, none⟩)]) (by simp) (by simp [go_sem]) ?_
  refine (caught1_ret w.heap.size _).mono ?_
  rintro e u' w'' ⟨rfl, rfl, rfl⟩
  refine ⟨_, ?_, rfl, hq⟩
  simp [results, Tryz.results65, go_sem, c0]
/-! ### groups of a desk -/
section
variable {B gd gb g n : Nat} {enc lim : Int} {st : BkS} {dc : Array Value} {w : World}
theorem begin_desk (h : DeskIs w B gd gb g enc lim n st dc) (hn : st.now = none) {x : Int} (hx : 0 ≤ x ∧ x ≤ (st.ats.length : Int)) :
    Calls Tryz.prog 67 #[.pointer (some ⟨gb, 0, none⟩), .int .i64 x] w fun e w' => e = .returned (.int .i64 0) ∧ DeskIs w' B gd gb g enc lim n { st with now := some ⟨st.ats, x, [], st.state, false⟩ } dc ∧ BkFr B w w' := by
  obtain ⟨N, add, t, a, xs, m, vu, vr, now, n', hn', hk⟩ := h.book
  refine (bbegin_any N B gb g enc lim n' add st t a xs m vu vr now x w hk hn hx).mono ?_
  rintro e w' ⟨rfl, now', hk', hf⟩
  have hb : BkFr B w w' := BkFr.book hk.blk hk.low.1 hf
  exact ⟨rfl, h.bk hb ⟨_, add, t, a, xs, m, vu, vr, now', n', hn', hk'⟩, hb⟩
/-- a book behind the end of a group -/
def endS (st : BkS) (o : OpS) (x : Int) : BkS :=
  if o.changed = true then { st with now := none, undo := st.undo ++ [⟨o.before, st.ats, o.bgn, x, o.moves, o.old, st.last + 1⟩], redo := [], state := st.last + 1, last := st.last + 1 } else { st with now := none }
theorem end_desk (h : DeskIs w B gd gb g enc lim n st dc) {o : OpS} (hn : st.now = some o) {x : Int} (hx : 0 ≤ x ∧ x ≤ (st.ats.length : Int)) (hc : o.changed = true → (st.undo.length : Int) < st.depth ∧ st.last < 1073741824) :
    Calls Tryz.prog 68 #[.pointer (some ⟨gb, 0, none⟩), .int .i64 x] w fun e w' => e = .returned (.int .i64 0) ∧ DeskIs w' B gd gb g enc lim n (endS st o x) dc ∧ BkFr B w w' := by
  obtain ⟨N, add, t, a, xs, m, vu, vr, now, n', hn', hk⟩ := h.book
  cases hch : o.changed with
  | false =>
    have e0 : endS st o x = { st with now := none } := by unfold endS; rw [if_neg (by rw [hch]; decide)]
    rw [e0]
    refine (end_none N B gb g enc lim n' add st t a xs m vu vr now o x w hk hn hx hch).mono ?_
    rintro e w' ⟨rfl, hk', hb⟩
    exact ⟨rfl, h.bk hb ⟨_, add, t, a, xs, m, vu, vr, _, n', hn', hk'⟩, hb⟩
  | true =>
    have e0 : endS st o x = { st with now := none, undo := st.undo ++ [⟨o.before, st.ats, o.bgn, x, o.moves, o.old, st.last + 1⟩], redo := [], state := st.last + 1, last := st.last + 1 } := by unfold endS; rw [if_pos hch]
    rw [e0]
    refine (end_some N B gb g enc lim n' add st t a xs m vu vr now o x w hk hn hx hch (hc hch).1 (hc hch).2).mono ?_
    rintro e w' ⟨rfl, ⟨vu', hk'⟩, hb⟩
    exact ⟨rfl, h.bk hb ⟨_, add, t, a, xs, m, _, _, _, n', hn', hk'⟩, hb⟩
end
/-! ### the act in its group -/
def ActPost (B gd gb g : Nat) (enc lim : Int) (st : BkS) (dc : Array Value) (X : Nat → Prop) (Act : Int → List (Int × Int) → OpS → Nat → Prop) (w1 : World) (e : Ending) (w2 : World) : Prop :=
  ∃ at' ats' o' n', Act at' ats' o' n' ∧ e = .returned (.int .i64 at') ∧ DeskIs w2 B gd gb g enc lim n' { st with ats := ats', now := some o' } dc ∧ DFr B X w1 w2
def Work1Post (B gd gb g b4 : Nat) (enc lim : Int) (st : BkS) (dc : Array Value) (X : Nat → Prop) (Act : Int → List (Int × Int) → OpS → Nat → Prop) (w1 : World) (w2 : World) : Prop :=
  ∃ at' ats' o' n', Act at' ats' o' n' ∧ DeskIs w2 B gd gb g enc lim n' (endS { st with ats := ats', now := some o' } o' at') dc ∧ Blk w2 b4 3 #[.int .i64 at'] ∧ DFr B (fun b => X b ∨ b = b4) w1 w2
set_option maxRecDepth 100000 in
set_option maxHeartbeats 4000000 in
theorem work1_ok (B gd gb g n b3 b4 b5 b7 : Nat) (enc lim x : Int) (st : BkS) (dc : Array Value) (fn : FuncId) (cap : Array Value) (X : Nat → Prop) (Act : Int → List (Int × Int) → OpS → Nat → Prop) (w : World)
    (h : DeskIs w B gd gb g enc lim n st dc) (hn : st.now = none) (hx : 0 ≤ x ∧ x ≤ (st.ats.length : Int))
    (h7 : Blk w b7 4 #[.bool true]) (h3 : Blk w b3 25 #[.pointer (some ⟨gd, 0, none⟩)]) (h4 : Blk w b4 3 #[.int .i64 x]) (h5 : Blk w b5 73 #[.func (.func fn) #[] cap])
    (hen : ∀ args w, (callFunc fn args).run Tryz.prog w = .ok (.enter fn args) w) (hX : ∀ b, X b → b ≠ b3 ∧ b ≠ b4 ∧ b ≠ b5 ∧ b ≠ b7)
    (hact : ∀ w1, DeskIs w1 B gd gb g enc lim n { st with now := some ⟨st.ats, x, [], st.state, false⟩ } dc → BkFr B w w1 → Calls Tryz.prog fn cap w1 (ActPost B gd gb g enc lim st dc X Act w1))
    (hfin : ∀ at' ats' o' n', Act at' ats' o' n' → (0 ≤ at' ∧ at' ≤ (ats'.length : Int)) ∧ (o'.changed = true → (st.undo.length : Int) < st.depth ∧ st.last < 1073741824)) :
    Calls Tryz.prog 66 #[.pointer (some ⟨b7, 0, none⟩), .pointer (some ⟨b3, 0, none⟩), .pointer (some ⟨b4, 0, none⟩), .pointer (some ⟨b5, 0, none⟩)] w fun e w' => e = .returned (.tuple #[]) ∧ Work1Post B gd gb g b4 enc lim st dc X Act w w' := by
  have hkB := fun (w' : World) (hb : BkFr B w w') => And.intro ((hb.blk h7 (by decide)).cell 0) (And.intro ((hb.blk h3 (by decide)).cell 0) (And.intro ((hb.blk h4 (by decide)).cell 0) (And.intro ((hb.blk h5 (by decide)).cell 0) (((hb.blk h.desk (by decide)).cell 0).trans h.c0))))
  have HKB := Lib.hid hkB
  obtain ⟨c7, c3, c4, c5, cd⟩ := hkB w (BkFr.refl _ _)
  have HH := Lib.hid h
  have HA := Lib.hid hact
  have HB := Lib.hid (fun w' (hb : Below w.heap.size w w') => begin_desk (h.below hb) hn hx)
  have HFIN := Lib.hid hfin
  have HXX := Lib.hid hX
  have H7 := Lib.hid h7
  have H3 := Lib.hid h3
  have H4 := Lib.hid h4
  clear hkB h hact hfin hX h7 h3 h4 h5
  go_enter Tryz.func66, Tryz.ntmps66
  go_upto_region 1 with fail
  refine wp_region_lin (fun w' => BkFr B w w') (fun w' => w' = w.drew) (fun k => k == 5 || k == 6) (fun k => k == 6) (fun _ => false) (by kernel_rfl) (by kernel_rfl) (rfl) (fun w' h => by subst h; exact BkFr.below (Below.refl _ _).drew) ?_
  repeat (first
    | (refine wpL_read (v := ?_) (by rfl) (by rfl) (fun w6 hSw => ?_) ?_; rotate_left; (· (obtain ⟨y7, y3, y4, y5, yd⟩ := HKB.out _ hSw; go_simp; first | done | with_reducible rfl)); (try simp only [Act.put, List.setIfInBounds_toArray, List.set_cons_zero, List.set_cons_succ]))
    | (refine wpL_free (v := ?_) (by rfl) (fun w6 => ?_) ?_; rotate_left; (· (go_simp; first | done | with_reducible rfl)); (try simp only [Act.put, List.setIfInBounds_toArray, List.set_cons_zero, List.set_cons_succ]))
    | (refine wpL_not (by rfl) ?_; (try simp only [Act.put, List.setIfInBounds_toArray, List.set_cons_zero, List.set_cons_succ])))
  refine wpL_call (f := ?_) (args := ?_) (fun v w' => v = .int .i64 0 ∧ DeskIs w' B gd gb g enc lim n { st with now := some ⟨st.ats, x, [], st.state, false⟩ } dc ∧ BkFr B w w') (by rfl) (by rfl) (fun w6 hSw => ?_) (fun w6 hSw => ?_) (.inr (fun v6 w6 hT6 => ?_)) (fun v6 hv6 => ?_)
  rotate_left 2
  · (skip; go_simp; first | done | (constructor <;> with_reducible rfl) | with_reducible rfl)
  · (subst hSw; refine (HB.out _ (Below.refl _ _).drew).mono ?_; rintro e w' ⟨rfl, hd, hb⟩; exact ⟨_, rfl, rfl, hd, (BkFr.below (Below.refl _ _).drew).trans hb⟩)
  · (exact hT6.2.2)
  obtain ⟨wz, rfl, -⟩ := hv6
  (try simp only [Act.put, List.setIfInBounds_toArray, List.set_cons_zero, List.set_cons_succ])
  repeat (first
    | (refine wpL_read (v := ?_) (by rfl) (by rfl) (fun w6 hSw => ?_) ?_; rotate_left; (· (obtain ⟨y7, y3, y4, y5, yd⟩ := HKB.out _ hSw; go_simp; first | done | with_reducible rfl)); (try simp only [Act.put, List.setIfInBounds_toArray, List.set_cons_zero, List.set_cons_succ]))
    | (refine wpL_free (v := ?_) (by rfl) (fun w6 => ?_) ?_; rotate_left; (· (go_simp; first | done | with_reducible rfl)); (try simp only [Act.put, List.setIfInBounds_toArray, List.set_cons_zero, List.set_cons_succ]))
    | (refine wpL_not (by rfl) ?_; (try simp only [Act.put, List.setIfInBounds_toArray, List.set_cons_zero, List.set_cons_succ])))
  refine wpL_call (f := ?_) (args := ?_) (fun v w' => DeskIs w' B gd gb g enc lim n { st with now := some ⟨st.ats, x, [], st.state, false⟩ } dc ∧ BkFr B w w') (by rfl) (by rfl) (fun w6 hSw => ?_) (fun w6 hSw => ?_) (.inl (by rfl)) (fun v6 hv6 => ?_)
  rotate_left 2
  · (skip; go_simp; first | done | (constructor <;> with_reducible rfl) | with_reducible rfl)
  · (refine (must_ok _).mono ?_; rintro e w' ⟨rfl, rfl⟩; exact ⟨_, rfl, hSw.2⟩)
  skip
  (try simp only [Act.put, List.setIfInBounds_toArray, List.set_cons_zero, List.set_cons_succ])
  refine wpL_nil ?_
  rintro w1 ⟨hd1, hb1⟩
  obtain ⟨c7, c3, c4, c5, cd⟩ := HKB.out _ hb1
  simp at c7 c3 c4 c5
  go_wp2_with fail
  refine (HA.out _ hd1 hb1).mono ?_
  rintro e w2 ⟨at', ats', o', n', hA, rfl, hd2, hf2⟩
  have X7 := HXX.out
  have k7 := hf2.blk (hb1.blk H7.out (by decide)) (by decide) (fun hx => (HXX.out b7 hx).2.2.2 rfl)
  have k3 := hf2.blk (hb1.blk H3.out (by decide)) (by decide) (fun hx => (HXX.out b3 hx).1 rfl)
  have k4 := hf2.blk (hb1.blk H4.out (by decide)) (by decide) (fun hx => (HXX.out b4 hx).2.1 rfl)
  have e4 := k4.cell 0
  have f4 := k4.frozen 0
  have n74 : b7 ≠ b4 := Blk.ne_ k7 k4 (by decide)
  have n34 : b3 ≠ b4 := Blk.ne_ k3 k4 (by decide)
  have g7 := (k7.far (p := ⟨b4, 0, none⟩) n74 (.int .i64 at')).cell 0
  have hd3 := hd2.alien (show Fr (· = b4) w2 (w2.setCell ⟨b4, 0, none⟩ (.int .i64 at')) from (Fr.refl _ _).set1 0 _) (fun k _ hk => ⟨fun e => Blk.ne_ k4 hd2.desk (by decide) (hk.symm.trans e), _, _, hk ▸ k4, by decide⟩)
  have k33 := k3.far (p := ⟨b4, 0, none⟩) n34 (.int .i64 at')
  have k43 := (k4.set_ 0 (.int .i64 at')).eq_ (show _ = #[.int .i64 at'] by simp)
  obtain ⟨hat, hch⟩ := HFIN.out _ _ _ _ hA
  have hF3 : DFr B (fun b => X b ∨ b = b4) w (w2.setCell ⟨b4, 0, none⟩ (.int .i64 at')) := ((DFr.of_bk hb1).trans (hf2.wide (Nat.le_refl _) (fun _ _ h => .inl h))).trans (DFr.of_x ((Fr.refl _ _).setCell (p := ⟨b4, 0, none⟩) (.inl (.inr rfl)) _))
  simp at e4 g7
  have G7 := Lib.hid g7
  clear c7 c3 c4 c5 cd hd1 hf2 k7 k3 k4 n74 n34 hd2 g7
  go_upto_region 3 with fail
  obtain ⟨w3, hw3⟩ : ∃ x, w2.setCell ⟨b4, 0, none⟩ (.int .i64 at') = x := ⟨_, rfl⟩
  have g7 := G7.out
  rw [hw3] at g7 hd3 k33 k43 hF3 ⊢
  have hkE := fun (w' : World) (hb : BkFr B w3 w') => And.intro ((hb.blk k33 (by decide)).cell 0) (And.intro ((hb.blk k43 (by decide)).cell 0) (((hb.blk hd3.desk (by decide)).cell 0).trans hd3.c0))
  have HKE := Lib.hid hkE
  have HE := Lib.hid (fun w' (hb : Below w3.heap.size w3 w') => end_desk (h := hd3.below hb) (o := o') rfl (x := at') hat hch)
  have HA2 := Lib.hid hA
  have HF3 := Lib.hid hF3
  have HK43 := Lib.hid k43
  clear hkE hA hF3 e4 f4 hat hch hd3 G7 k33 k43
  go_upto_region 4 with fail
  refine wp_region_lin (fun w' => BkFr B w3 w') (fun w' => w' = w3.drew) (fun k => k == 5 || k == 6) (fun k => k == 6) (fun _ => false) (by kernel_rfl) (by kernel_rfl) (rfl) (fun w' h => by subst h; exact BkFr.below (Below.refl _ _).drew) ?_
  repeat (first
    | (refine wpL_read (v := ?_) (by rfl) (by rfl) (fun w6 hSw => ?_) ?_; rotate_left; (· (obtain ⟨y3, y4, yd⟩ := HKE.out _ hSw; go_simp; first | done | with_reducible rfl)); (try simp only [Act.put, List.setIfInBounds_toArray, List.set_cons_zero, List.set_cons_succ]))
    | (refine wpL_free (v := ?_) (by rfl) (fun w6 => ?_) ?_; rotate_left; (· (go_simp; first | done | with_reducible rfl)); (try simp only [Act.put, List.setIfInBounds_toArray, List.set_cons_zero, List.set_cons_succ]))
    | (refine wpL_not (by rfl) ?_; (try simp only [Act.put, List.setIfInBounds_toArray, List.set_cons_zero, List.set_cons_succ])))
  refine wpL_call (f := ?_) (args := ?_) (fun v w' => v = .int .i64 0 ∧ DeskIs w' B gd gb g enc lim n' (endS { st with ats := ats', now := some o' } o' at') dc ∧ BkFr B w3 w') (by rfl) (by rfl) (fun w6 hSw => ?_) (fun w6 hSw => ?_) (.inr (fun v6 w6 hT6 => ?_)) (fun v6 hv6 => ?_)
  rotate_left 2
  · (skip; go_simp; first | done | (constructor <;> with_reducible rfl) | with_reducible rfl)
  · (subst hSw; refine (HE.out _ (Below.refl _ _).drew).mono ?_; rintro e w' ⟨rfl, hd, hb⟩; exact ⟨_, rfl, rfl, hd, (BkFr.below (Below.refl _ _).drew).trans hb⟩)
  · (exact hT6.2.2)
  obtain ⟨wz, rfl, -⟩ := hv6
  (try simp only [Act.put, List.setIfInBounds_toArray, List.set_cons_zero, List.set_cons_succ])
  repeat (first
    | (refine wpL_read (v := ?_) (by rfl) (by rfl) (fun w6 hSw => ?_) ?_; rotate_left; (· (obtain ⟨y3, y4, yd⟩ := HKE.out _ hSw; go_simp; first | done | with_reducible rfl)); (try simp only [Act.put, List.setIfInBounds_toArray, List.set_cons_zero, List.set_cons_succ]))
    | (refine wpL_free (v := ?_) (by rfl) (fun w6 => ?_) ?_; rotate_left; (· (go_simp; first | done | with_reducible rfl)); (try simp only [Act.put, List.setIfInBounds_toArray, List.set_cons_zero, List.set_cons_succ]))
    | (refine wpL_not (by rfl) ?_; (try simp only [Act.put, List.setIfInBounds_toArray, List.set_cons_zero, List.set_cons_succ])))
  refine wpL_call (f := ?_) (args := ?_) (fun v w' => DeskIs w' B gd gb g enc lim n' (endS { st with ats := ats', now := some o' } o' at') dc ∧ BkFr B w3 w') (by rfl) (by rfl) (fun w6 hSw => ?_) (fun w6 hSw => ?_) (.inl (by rfl)) (fun v6 hv6 => ?_)
  rotate_left 2
  · (skip; go_simp; first | done | (constructor <;> with_reducible rfl) | with_reducible rfl)
  · (refine (must_ok _).mono ?_; rintro e w' ⟨rfl, rfl⟩; exact ⟨_, rfl, hSw.2⟩)
  skip
  (try simp only [Act.put, List.setIfInBounds_toArray, List.set_cons_zero, List.set_cons_succ])
  refine wpL_nil ?_
  rintro w5 ⟨hd5, hb5⟩
  show bodyPost _ _ _ _ _ _
  refine bodyPost_end (results_none rfl _ _ _) rfl ?_
  exact ⟨rfl, at', ats', o', n', HA2.out, hd5, hb5.blk HK43.out (by decide), HF3.out.trans (DFr.of_bk hb5)⟩
/-- an act in a group of its own -/
def WorkPost (B gd gb g : Nat) (enc lim : Int) (st : BkS) (dc : Array Value) (X : Nat → Prop) (Act : Int → List (Int × Int) → OpS → Nat → Prop) (w : World) (e : Ending) (w' : World) : Prop :=
  e = .returned (.int .i64 0) ∧ ∃ at' ats' o' n', Act at' ats' o' n' ∧ DeskIs w' B gd gb g enc lim n' (endS { st with ats := ats', now := some o' } o' at') (dc.setIfInBounds 2 (.int .i64 at')) ∧ DFr B (fun b => X b ∨ b = gd) w w'
theorem isOpen_desk {B gd gb g n : Nat} {enc lim : Int} {st : BkS} {dc : Array Value} {w : World} (h : DeskIs w B gd gb g enc lim n st dc) : Calls Tryz.prog 64 #[.pointer (some ⟨gb, 0, none⟩)] w fun e w' => e = .returned (.bool st.now.isSome) ∧ w = w' := by
  obtain ⟨N, add, t, a, xs, m, vu, vr, now, n', hn', hk⟩ := h.book
  have e1 : st.now.isSome = now.isSome := by
    have := hk.open_
    cases hn : st.now with
    | none => rw [hn] at this; rw [this]; rfl
    | some o => rw [hn] at this; obtain ⟨p, e, _⟩ := this; rw [e]; rfl
  rw [e1]
  exact isOpen_any gb _ now w hk.blk (by simp)
set_option maxRecDepth 100000 in
set_option maxHeartbeats 4000000 in
theorem work_ok (B gd gb g n : Nat) (enc lim x : Int) (st : BkS) (dc : Array Value) (fn : FuncId) (cap : Array Value) (X : Nat → Prop) (Act : Int → List (Int × Int) → OpS → Nat → Prop) (w : World)
    (h : DeskIs w B gd gb g enc lim n st dc) (hn : st.now = none) (hx : 0 ≤ x ∧ x ≤ (st.ats.length : Int)) (hdz : dc.size = 10)
    (hen : ∀ args w, (callFunc fn args).run Tryz.prog w = .ok (.enter fn args) w) (hX : ∀ b, X b → b < w.heap.size ∧ b ≠ gd)
    (hact : ∀ w1, DeskIs w1 B gd gb g enc lim n { st with now := some ⟨st.ats, x, [], st.state, false⟩ } dc → DFr B (fun _ => False) w w1 → Calls Tryz.prog fn cap w1 (ActPost B gd gb g enc lim st dc X Act w1))
    (hfin : ∀ at' ats' o' n', Act at' ats' o' n' → (0 ≤ at' ∧ at' ≤ (ats'.length : Int)) ∧ (o'.changed = true → (st.undo.length : Int) < st.depth ∧ st.last < 1073741824)) :
    Calls Tryz.prog 27 #[.pointer (some ⟨gd, 0, none⟩), .int .i64 x, .func (.func fn) #[] cap] w (WorkPost B gd gb g enc lim st dc X Act w) := by
  have hmf : ∀ (fn : Fn) (first cap : Array Value) (w : World), (Instr.makeFunc fn first cap).run Tryz.prog w = .ok (.func fn first cap) w := fun _ _ _ _ => rfl
  have hw3 : Below w.heap.size w (((w.alloc (.cells #[.pointer (some ⟨gd, 0, none⟩)] 25)).alloc (.cells #[.int .i64 x] 3)).alloc (.cells #[.func (.func fn) #[] cap] 73)) := balloc (balloc (balloc (Below.refl _ _)))
  have b3 : Blk (((w.alloc (.cells #[.pointer (some ⟨gd, 0, none⟩)] 25)).alloc (.cells #[.int .i64 x] 3)).alloc (.cells #[.func (.func fn) #[] cap] 73)) w.heap.size 25 #[.pointer (some ⟨gd, 0, none⟩)] := ((Blk.new w _ _).alloc _).alloc _
  have b4 : Blk (((w.alloc (.cells #[.pointer (some ⟨gd, 0, none⟩)] 25)).alloc (.cells #[.int .i64 x] 3)).alloc (.cells #[.func (.func fn) #[] cap] 73)) (w.heap.size + 1) 3 #[.int .i64 x] := (Blk.new' (by simp)).alloc _
  have b5 : Blk (((w.alloc (.cells #[.pointer (some ⟨gd, 0, none⟩)] 25)).alloc (.cells #[.int .i64 x] 3)).alloc (.cells #[.func (.func fn) #[] cap] 73)) (w.heap.size + 1 + 1) 73 #[.func (.func fn) #[] cap] := Blk.new' (by simp)
  have hd0 := h.below hw3
  have cd := (hd0.desk.cell 0).trans hd0.c0
  have c3 := b3.cell 0
  have hsz : (((w.alloc (.cells #[.pointer (some ⟨gd, 0, none⟩)] 25)).alloc (.cells #[.int .i64 x] 3)).alloc (.cells #[.func (.func fn) #[] cap] 73)).heap.size = w.heap.size + 3 := by simp
  simp only [List.getElem?_toArray, List.getElem?_cons_zero] at c3
  have hio := isOpen_desk hd0
  rw [hn] at hio
  have HIO := Lib.hid hio
  have HH := Lib.hid h
  have HA := Lib.hid hact
  have HFIN := Lib.hid hfin
  have HXX := Lib.hid hX
  have HEN := Lib.hid hen
  clear h hact hfin hX hio hen
  go_enter Tryz.func27, Tryz.ntmps27
  go_wp2_with fail
  obtain ⟨w0, hw0⟩ : ∃ x', (((w.alloc (.cells #[.pointer (some ⟨gd, 0, none⟩)] 25)).alloc (.cells #[.int .i64 x] 3)).alloc (.cells #[.func (.func fn) #[] cap] 73)) = x' := ⟨_, rfl⟩
  rw [hw0] at HIO hw3 b3 b4 b5 hd0 cd c3 hsz ⊢
  refine (HIO.out).mono ?_
  rintro e wz ⟨rfl, rfl⟩
  go_wp2_with fail
  have hw7 : Below w.heap.size w (w0.alloc (.cells #[.bool true] 4)) := balloc hw3
  have b7 : Blk (w0.alloc (.cells #[.bool true] 4)) (w.heap.size + 3) 4 #[.bool true] := Blk.new' hsz
  have b31 := b3.alloc (.cells #[.bool true] 4)
  have b41 := b4.alloc (.cells #[.bool true] 4)
  have b51 := b5.alloc (.cells #[.bool true] 4)
  have hz7 : (w0.alloc (.cells #[.bool true] 4)).heap.size = w.heap.size + 4 := by simp [hsz]
  obtain ⟨w7, hw70⟩ : ∃ x', w0.alloc (.cells #[.bool true] 4) = x' := ⟨_, rfl⟩
  rw [hw70] at hw7 b7 b31 b41 b51 hz7 ⊢
  clear b3 b4 b5 cd c3 hd0 HIO hw0 hw70 hsz hw3
  have hw8 : Below w.heap.size w (w7.alloc (.cells #[.int .i64 0] 45)) := balloc hw7
  have be : Blk (w7.alloc (.cells #[.int .i64 0] 45)) w7.heap.size 45 #[.int .i64 0] := Blk.new w7 _ _
  have hcall := caught_ok 66 #[.pointer (some ⟨w.heap.size + 3, 0, none⟩), .pointer (some ⟨w.heap.size, 0, none⟩), .pointer (some ⟨w.heap.size + 1, 0, none⟩), .pointer (some ⟨w.heap.size + 1 + 1, 0, none⟩)] w7
    (fun w' => Work1Post B gd gb g (w.heap.size + 1) enc lim st dc X Act (w7.alloc (.cells #[.int .i64 0] 45)) w') Tryz.call66
    (work1_ok B gd gb g n w.heap.size (w.heap.size + 1) (w.heap.size + 1 + 1) (w.heap.size + 3) enc lim x st dc fn cap X Act _ (HH.out.below hw8) hn hx (b7.alloc _) (b31.alloc _) (b41.alloc _) (b51.alloc _) HEN.out (fun b hb => by have := (HXX.out b hb).1; omega)
      (fun w1 hd1 hb1 => HA.out w1 hd1 ((DFr.of_below hw8).trans (DFr.of_bk hb1))) HFIN.out)
    (fun w' hq => by
      obtain ⟨_, _, _, _, _, _, _, hf⟩ := hq
      exact hf.blk be (by decide) (fun hx => by
        rcases hx with hx | hx
        · have := (HXX.out _ hx).1
          omega
        · omega))
  have HC := Lib.hid hcall
  clear hcall HA
  refine (HC.out).mono ?_
  rintro e w9 ⟨rfl, at', ats', o', n', hA, hd9, hb49, hf9⟩
  have b39 := hf9.blk (b31.alloc _) (by decide) (fun hx => by
    rcases hx with hx | hx
    · have := (HXX.out _ hx).1
      omega
    · omega)
  have e3 := b39.cell 0
  have e4 := hb49.cell 0
  have ed := hd9.desk.cell 2
  have fd := hd9.desk.frozen 2
  rw [Array.getElem?_eq_getElem (by omega)] at ed
  simp at e3 e4
  have hfin : WorkPost B gd gb g enc lim st dc X Act w (.returned (.int .i64 0)) (w9.setCell ⟨gd, 2, none⟩ (.int .i64 at')) := by
    refine ⟨rfl, at', ats', o', n', hA, hd9.set (by decide) _, ?_⟩
    have h1 : DFr B (fun b => X b ∨ b = gd) w w9 := DFr.call' hw8 hf9 (fun b hb h => by
      rcases h with h | h
      · exact .inl h
      · omega)
    exact h1.trans (DFr.of_x ((Fr.refl _ _).setCell (p := ⟨gd, 2, none⟩) (.inl (.inr rfl)) _))
  have HFN := Lib.hid hfin
  clear hfin hA hd9 hb49 hf9 b39 HC HH HXX HFIN HEN b7 b31 b41 b51 be
  go_wp2_with fail
  go_ret
  exact HFN.out
end Go.Proofs.YteekabaoocaghaaGreat
namespace Go.Proofs.YteekabaoocaghaaGreat
open Go.RowKit

section
variable {B gd gb g n : Nat} {enc lim : Int} {st : BkS} {dc : Array Value} {w : World}
theorem text_desk (h : DeskIs w B gd gb g enc lim n st dc) : Calls Tryz.prog 26 #[.pointer (some ⟨gd, 0, none⟩)] w fun e w' => e = .returned (.pointer (some ⟨g, 0, none⟩)) ∧ w = w' := by
  obtain ⟨cs, hb, h0⟩ := h.blkB
  exact desk_text gd gb g dc cs w h.desk h.c0 hb h0
set_option maxRecDepth 100000 in
theorem clamp_desk (h : DeskIs w B gd gb g enc lim n st dc) (at_ : Int) :
    Calls Tryz.prog 28 #[.pointer (some ⟨gd, 0, none⟩), .int .i64 at_] w fun e w' => ∃ j : Nat, e = .returned (.int .i64 ((lineF (sizedA enc st.ats) (rowIx (sizedA enc st.ats) at_ false)).from_ + (mkb (cont (sizedA enc st.ats) (rowIx (sizedA enc st.ats) at_ false)) j : Int))) ∧ ClampOk (sizedA enc st.ats) at_ j ∧ j ≤ nC (cont (sizedA enc st.ats) (rowIx (sizedA enc st.ats) at_ false)) ∧ Below w.heap.size w w' := by
  have HT := Lib.hid (text_desk h)
  have HC := Lib.hid (clamp_gen Any g enc (sizedA enc st.ats) at_ w h.at_)
  clear h
  go_enter Tryz.func28, Tryz.ntmps28
  go_wp2_with fail
  refine (HT.out).mono ?_
  rintro e w1 ⟨rfl, rfl⟩
  go_wp2_with fail
  refine (HC.out).mono ?_
  rintro e w1 ⟨j, rfl, h1, h2, hb⟩
  go_wp2_with fail
  go_ret
  exact ⟨j, rfl, h1, h2, hb⟩
theorem clampV_bd {ds : List (Int × Int)} (hp : PosD ds) {at_ : Int} {j : Nat} (hj : j ≤ nC (cont ds (rowIx ds at_ false))) : 0 ≤ (lineF ds (rowIx ds at_ false)).from_ + (mkb (cont ds (rowIx ds at_ false)) j : Int) ∧ (lineF ds (rowIx ds at_ false)).from_ + (mkb (cont ds (rowIx ds at_ false)) j : Int) ≤ (ds.length : Int) := by
  have hix := rowIx_le ds at_ false
  have hbd := lineF_bd hp hix
  have hcl := cont_len hp hix
  have := mk_le hj
  omega
set_option maxRecDepth 100000 in
set_option maxHeartbeats 1000000 in
theorem line_desk (h : DeskIs w B gd gb g enc lim n st dc) (i : Nat) (hi : i ≤ totE (sizedA enc st.ats)) :
    Calls Tryz.prog 30 #[.pointer (some ⟨gd, 0, none⟩), .int .i64 (i : Int)] w fun e w' => e = .returned (.agg (lineF (sizedA enc st.ats) i).cells) ∧ Below w.heap.size w w' := by
  have hW : Below w.heap.size w (w.alloc (.cells (Ln.mk 0 0 0 0).cells 49)) := balloc (Below.refl _ w)
  have hb0 : Blk (w.alloc (.cells (Ln.mk 0 0 0 0).cells 49)) w.heap.size 49 (Ln.mk 0 0 0 0).cells := Blk.new w _ _
  have HT := Lib.hid (text_desk (h.below hW))
  have HC := Lib.hid (at_line Any g enc (sizedA enc st.ats) i _ (h.below hW).at_ hi)
  obtain ⟨L, hL⟩ : ∃ L, lineF (sizedA enc st.ats) i = L := ⟨_, rfl⟩
  rw [hL] at HC ⊢
  obtain ⟨x0, x1, x2, x3⟩ := L
  unfold Ln.cells at HT HC hW hb0 ⊢
  dsimp only at HT HC hW hb0 ⊢
  clear h hL
  go_enter Tryz.func30, Tryz.ntmps30
  go_wp2_with fail
  refine (HT.out).mono ?_
  rintro e w1 ⟨rfl, rfl⟩
  go_wp2_with fail
  refine (HC.out).mono ?_
  rintro e w1 ⟨rfl, hb1⟩
  have hb01 := hb0.below hb1
  go_wp2_with fail
  refine (must_ok _).mono ?_
  rintro e w2 ⟨rfl, rfl⟩
  have hb02 := line_facts (l := ⟨0, 0, 0, 0⟩) (hb01.alloc (.cells #[.int .i64 x0, .int .i64 x1, .int .i64 x2, .int .i64 x3] 49))
  dsimp only at hb02
  obtain ⟨⟨d0, d1, d2, d3⟩, f0, f1, f2, f3⟩ := hb02
  have hw2 : Below w.heap.size w (w1.alloc (.cells #[.int .i64 x0, .int .i64 x1, .int .i64 x2, .int .i64 x3] 49)) := balloc (bseq hW hb1)
  obtain ⟨w2, hw20⟩ : ∃ x, w1.alloc (.cells #[.int .i64 x0, .int .i64 x1, .int .i64 x2, .int .i64 x3] 49) = x := ⟨_, rfl⟩
  have hbn : Blk w2 w1.heap.size 49 (Ln.mk x0 x1 x2 x3).cells := hw20 ▸ Blk.new w1 _ _
  rw [hw20] at d0 d1 d2 d3 f0 f1 f2 f3 hw2 ⊢
  have hbn2 := line_facts hbn
  dsimp only at hbn2
  obtain ⟨⟨g0, g1, g2, g3⟩, -⟩ := hbn2
  have HW2 := Lib.hid (fun (u1 u2 u3 u4 : Value) => below_set4 (u1 := u1) (u2 := u2) (u3 := u3) (u4 := u4) hw2 (Nat.le_refl _))
  clear hw20 hbn hb01 hb1 hb0 hW HC HT hw2
  go_wp2_with fail
  refine bodyPost_ret (v := .agg #[.int .i64 x0, .int .i64 x1, .int .i64 x2, .int .i64 x3]) (by simp [results, Tryz.results30, go_sem, d0, d1, d2, d3]) rfl ⟨rfl, HW2.out _ _ _ _⟩
theorem change_desk (h : DeskIs w B gd gb g enc lim n st dc) {o : OpS} (hn : st.now = some o) {D : Nat → Prop} {A : Option Addr} {k c : Nat} {es : List Ed} (he : EdsAt w D A k es) (hD : ∀ b, D b → b < w.heap.size → ∃ T cs, Blk w b T cs ∧ Alien T)
    (hp : putN es ≤ 268435456) (hnn : n + 131072 ≤ 1073741824) (hom : o.moves.length < 1048576) (hz : refF enc lim (sizedA enc st.ats) es = 0) :
    Calls Tryz.prog 72 #[.pointer (some ⟨gb, 0, none⟩), .slice A k c] w fun e w' => e = .returned (.int .i64 0) ∧ DeskIs w' B gd gb g enc lim (n + 131072) { st with ats := edA es st.ats, now := some { o with moves := o.moves ++ [es.map mvOf], changed := o.changed || es.any chg } } dc ∧ BkFr B w w' := by
  obtain ⟨N, add, t, a, xs, m, vu, vr, now, n', hn', hk⟩ := h.book
  have he' : EdsAt w (fun b => D b ∧ b < w.heap.size) A k es := he.more (fun b h1 h2 => ⟨h1, h2⟩)
  refine (bchange_any N B gb g enc lim n' add st t a xs m vu vr now o (fun b => D b ∧ b < w.heap.size) A k c es w hk hn he' (fun b hb => ?_) hp (by omega) hom).mono ?_
  · obtain ⟨T, cs, hT, hA⟩ := hD b hb.1 hb.2
    refine ⟨Blk.ne_ hT hk.text.blk hA.1.1, fun e0 => own_blk_ne hk.text.row hT (Ne.symm hA.1.2.2) e0, fun e0 => ?_⟩
    have ho := hk.open_
    rw [hn] at ho
    obtain ⟨p, e1, s, m2, vm, vs, h1, _⟩ := ho
    rw [e1] at e0
    injection e0 with e0
    injection e0 with e0
    exact Blk.ne_ hT h1 hA.2.2.2.1 e0.symm
  · rintro e w' ⟨rfl, -, hpost⟩
    rw [hz] at hpost ⊢
    obtain ⟨n2, add', t', a', xs', hk', hn2, hf⟩ := hpost rfl
    exact ⟨rfl, h.bk hf ⟨N, add', t', a', xs', m, vu, vr, now, n2, by omega, hk'⟩, hf⟩
set_option maxRecDepth 100000 in
theorem dchange_desk (h : DeskIs w B gd gb g enc lim n st dc) {o : OpS} (hn : st.now = some o) {D : Nat → Prop} {A : Option Addr} {k c : Nat} {es : List Ed} (he : EdsAt w D A k es) (hD : ∀ b, D b → b < w.heap.size → ∃ T cs, Blk w b T cs ∧ Alien T)
    (hp : putN es ≤ 268435456) (hnn : n + 131072 ≤ 1073741824) (hom : o.moves.length < 1048576) (hz : refF enc lim (sizedA enc st.ats) es = 0) :
    Calls Tryz.prog 32 #[.pointer (some ⟨gd, 0, none⟩), .slice A k c] w fun e w' => e = .returned (.tuple #[]) ∧ DeskIs w' B gd gb g enc lim (n + 131072) { st with ats := edA es st.ats, now := some { o with moves := o.moves ++ [es.map mvOf], changed := o.changed || es.any chg } } dc ∧ BkFr B w w' := by
  have HC := Lib.hid (change_desk (c := c) h hn he hD hp hnn hom hz)
  have cd := (h.desk.cell 0).trans h.c0
  clear h he hD hz
  go_enter Tryz.func32, Tryz.ntmps32
  go_wp2_with fail
  refine (HC.out).mono ?_
  rintro e w1 ⟨rfl, hd, hf⟩
  have HD := Lib.hid hd
  clear hd
  go_wp2_with fail
  refine (must_ok _).mono ?_
  rintro e w2 ⟨rfl, rfl⟩
  go_wp2_with fail
  show bodyPost _ _ _ _ _ _
  refine bodyPost_end (results_none rfl _ _ _) rfl ?_
  exact ⟨rfl, HD.out, hf⟩
end
end Go.Proofs.YteekabaoocaghaaGreat
namespace Go.Proofs.YteekabaoocaghaaGreat
open Go.RowKit

/-- from F up to T only what p keeps -/
def keepI (F T : Int) (p : Int → Bool) : Int → List Int → List Int
  | _, [] => []
  | j, x :: r => (if F ≤ j ∧ j < T ∧ p x = false then [] else [x]) ++ keepI F T p (j + 1) r
theorem keepI_app (F T : Int) (p : Int → Bool) : ∀ (l r : List Int) (j : Int), keepI F T p j (l ++ r) = keepI F T p j l ++ keepI F T p (j + l.length) r := by
  intro l
  induction l with
  | nil => intro r j; simp [keepI]
  | cons x l ih =>
    intro r j
    simp only [List.cons_append, keepI]
    rw [ih, List.append_assoc, List.length_cons]
    congr 3
    omega
theorem keepI_snoc (F T : Int) (p : Int → Bool) (l : List Int) (x : Int) (j : Int) : keepI F T p j (l ++ [x]) = keepI F T p j l ++ (if F ≤ j + l.length ∧ j + l.length < T ∧ p x = false then [] else [x]) := by
  rw [keepI_app]
  simp [keepI]
theorem keepI_out (F T : Int) (p : Int → Bool) : ∀ (l : List Int) (j : Int), (j + l.length ≤ F ∨ T ≤ j) → keepI F T p j l = l := by
  intro l
  induction l with
  | nil => intro _ _; rfl
  | cons x l ih =>
    intro j h
    simp only [List.length_cons] at h
    simp only [keepI]
    rw [if_neg (by omega), ih (j + 1) (by omega)]
    rfl
theorem keepI_in (F T : Int) (p : Int → Bool) : ∀ (l : List Int) (j : Int), F ≤ j → j + l.length ≤ T → keepI F T p j l = l.filter p := by
  intro l
  induction l with
  | nil => intro _ _ _; rfl
  | cons x l ih =>
    intro j h0 h
    simp only [List.length_cons] at h
    simp only [keepI]
    rw [ih (j + 1) (by omega) (by omega), List.filter_cons]
    cases hx : p x with
    | false => rw [if_pos ⟨h0, by omega, rfl⟩]; rfl
    | true => rw [if_neg (by simp)]; rfl
theorem keepI_parts (F T : Int) (p : Int → Bool) (a b c : List Int) (h1 : (a.length : Int) = F) (h2 : F + b.length = T) : keepI F T p 0 (a ++ (b ++ c)) = a ++ (b.filter p ++ c) := by
  rw [keepI_app, keepI_app, keepI_out F T p a 0 (.inl (by omega)), keepI_in F T p b _ (by omega) (by omega), keepI_out F T p c _ (.inr (by omega))]
theorem three_parts (A : List Int) (F T : Int) (h0 : 0 ≤ F) (h1 : F ≤ T) : A = A.take F.toNat ++ (seg F T A ++ A.drop T.toNat) := by
  rw [← seg_drop A F T h0 h1, List.take_append_drop]
theorem keepI_law (F T : Int) (p : Int → Bool) (A : List Int) (h0 : 0 ≤ F) (h1 : F ≤ T) (h2 : T ≤ A.length) : keepI F T p 0 A = A.take F.toNat ++ ((seg F T A).filter p ++ A.drop T.toNat) := by
  conv => lhs; rw [three_parts A F T h0 h1]
  refine keepI_parts F T p _ _ _ ?_ ?_
  · rw [List.length_take]; omega
  · rw [seg_len A F T h0 h1 h2]; omega
section
variable {ds : List (Int × Int)} (hp : PosD ds) {nb : Int → Bool} (h10 : nb 10 = false) (h13 : nb 13 = false) (h32 : nb 32 = false) {bare : Bool} {es : List Ed} {k : Nat} (hk : k + es.length ≤ totE ds) (hj : JEs nb bare ds k es) {ats : List (Int × Int)} (hats : ats.map Prod.fst = ds.map Prod.fst)
include hp h10 h13 h32 hk hj hats
theorem joined_form : ordF 0 ds.length es = true ∧ ∃ ins, (edA es ats).map Prod.fst = (ds.map Prod.fst).take (lineF ds k).from_.toNat ++ (ins ++ (ds.map Prod.fst).drop (lineF ds (k + es.length)).to_.toNat) ∧
    ins.filter nb = (seg (lineF ds k).from_ (lineF ds (k + es.length)).to_ (ds.map Prod.fst)).filter nb ∧ (bare = true → ins = (seg (lineF ds k).from_ (lineF ds (k + es.length)).to_ (ds.map Prod.fst)).filter n10) ∧ (∀ x ∈ ins, x ≠ 10 ∧ x ≠ 13) ∧ (lineF ds k).from_ ≤ (lineF ds (k + es.length)).to_ := by
  have hbd := lineF_bd hp (i := k) (by omega)
  obtain ⟨i1, ins, i2, i3, i4, i5, i6⟩ := join_spl hp h10 h13 h32 es k (lineF ds k).from_ hk hj (Int.le_refl _) hbd.2.1
  have hl : ats.length = ds.length := by have := congrArg List.length hats; simpa using this
  refine ⟨?_, ins, ?_, i3, i4, i5, i6⟩
  · cases es with
    | nil => rfl
    | cons e r =>
      unfold ordF at i1 ⊢
      split at i1
      · cases i1
      · rw [if_neg (by omega)]
        exact i1
  · rw [edA_fst es (lineF ds k).from_ ats (by rw [hl]; exact i1) hbd.1 (by omega), hats, i2]
theorem joined_bare (hb : bare = true) : (edA es ats).map Prod.fst = keepI (lineF ds k).from_ (lineF ds (k + es.length)).to_ n10 0 (ds.map Prod.fst) := by
  have hbd := lineF_bd hp (i := k) (by omega)
  have hbd2 := lineF_bd hp (i := k + es.length) hk
  obtain ⟨_, ins, i2, i3, i4, i5, i6⟩ := joined_form hp h10 h13 h32 hk hj hats
  rw [i2, i4 hb, keepI_law _ _ _ _ hbd.1 i6 (by rw [List.length_map]; omega)]
theorem joined_rest (c : List Int) (hc : (edA es ats).map Prod.fst = c) : keepI (lineF ds k).from_ ((c.length : Int) - ((ds.length : Int) - (lineF ds (k + es.length)).to_)) nb 0 c = keepI (lineF ds k).from_ (lineF ds (k + es.length)).to_ nb 0 (ds.map Prod.fst) ∧
    ∀ p : Nat, (lineF ds k).from_ ≤ p → (p : Int) < (c.length : Int) - ((ds.length : Int) - (lineF ds (k + es.length)).to_) → c.getD p 0 ≠ 10 ∧ c.getD p 0 ≠ 13 := by
  have hbd := lineF_bd hp (i := k) (by omega)
  have hbd2 := lineF_bd hp (i := k + es.length) hk
  obtain ⟨_, ins, i2, i3, i4, i5, i6⟩ := joined_form hp h10 h13 h32 hk hj hats
  rw [hc] at i2
  have l1 : ((ds.map Prod.fst).take (lineF ds k).from_.toNat).length = (lineF ds k).from_.toNat := by rw [List.length_take, List.length_map]; omega
  have l2 : ((ds.map Prod.fst).drop (lineF ds (k + es.length)).to_.toNat).length = ds.length - (lineF ds (k + es.length)).to_.toNat := by rw [List.length_drop, List.length_map]
  have lc : c.length = (lineF ds k).from_.toNat + (ins.length + (ds.length - (lineF ds (k + es.length)).to_.toNat)) := by
    rw [i2, List.length_append, List.length_append, l1, l2]
  refine ⟨?_, fun p h1 h2 => ?_⟩
  · conv => lhs; rw [i2]
    rw [keepI_parts _ _ nb _ _ _ (by rw [l1]; omega) (by rw [List.length_append, List.length_append, l1, l2]; omega), keepI_law _ _ _ _ hbd.1 i6 (by rw [List.length_map]; omega), i3]
  · refine i5 _ ?_
    rw [i2, List.getD_eq_getElem?_getD, List.getElem?_append_right (by omega), l1, List.getElem?_append_left (by omega), List.getElem?_eq_getElem (by omega)]
    exact List.getElem_mem _
end
end Go.Proofs.YteekabaoocaghaaGreat
namespace Go.Proofs.YteekabaoocaghaaGreat
open Go.RowKit

/-- atoms of words -/
noncomputable def nbF (x : Int) : Bool := decide (wordF x ≠ 0)
/-- what an edit of a join puts -/
def PutAt (w : World) (base : Nat) (e : Ed) : Prop := (e.put = [] ∧ e.n = 0 ∧ e.c = 0 ∧ e.A = none) ∨ (e.put = [32] ∧ e.n = 1 ∧ e.c = 1 ∧ ∃ b, e.A = some ⟨b, 0, none⟩ ∧ base ≤ b ∧ Blk w b 3 #[.int .i64 32])
theorem PutAt.ints {w : World} {base : Nat} {e : Ed} (h : PutAt w base e) : Ints w (fun b => base ≤ b ∧ ∃ cs, Blk w b 3 cs) e.A e.n e.put := by
  rcases h with ⟨h1, h2, _, _⟩ | ⟨h1, h2, _, b, h3, h4, h5⟩
  · rw [h1, h2]
    exact ⟨rfl, fun h => absurd h (by omega)⟩
  · rw [h1, h2, h3]
    refine ⟨rfl, fun _ => ⟨_, rfl, ⟨h4, _, h5⟩, fun j u hu => ?_⟩⟩
    cases j with
    | zero =>
      rw [add_cell, h5.cell]
      simpa using hu
    | succ j => simp at hu
theorem PutAt.fr {w w' : World} {base : Nat} {e : Ed} {S : Nat → Prop} (h : PutAt w base e) (hf : Fr S w w') (hS : ∀ b, b < w.heap.size → S b → ¬ ∃ cs, Blk w b 3 cs) : PutAt w' base e := by
  rcases h with h | ⟨h1, h2, h2', b, h3, h4, h5⟩
  · exact .inl h
  · exact .inr ⟨h1, h2, h2', b, h3, h4, h5.fr hf (fun hs => hS b h5.lt hs ⟨_, h5⟩)⟩
/-- the edits so far -/
structure EdsJ (w : World) (base : Nat) (v : Value) (k : Nat) (es : List Ed) : Prop where
  row : w.ownsRow base 79 3 v k (es.flatMap fun e => e.cells.toList)
  len : es.length = k
  put : ∀ e ∈ es, PutAt w base e
theorem EdsJ.eds {w : World} {base k c : Nat} {A : Option Addr} {es : List Ed} (h : EdsJ w base (.slice A k c) k es) : EdsAt w (fun b => base ≤ b ∧ ((∃ cs, Blk w b 3 cs) ∨ ∃ cs, Blk w b 79 cs)) A k es := by
  refine ⟨⟨h.row.1, fun hk => ?_⟩, fun e he => Reads.more (h.put e he).ints (fun b hb _ => ⟨hb.1, .inl hb.2⟩) (by decide)⟩
  rcases h.row.2 with ⟨_, h0⟩ | ⟨r, c', cur, e1, hb, hr, h1, h2, h3, h4⟩
  · omega
  · have hA : A = some ⟨r, 0, none⟩ := by injection e1
    obtain ⟨ad, e2, _, hc⟩ := (Reads.of_own h.row).2 hk
    rw [hA] at e2
    injection e2 with e2
    refine ⟨ad, by rw [hA, e2], ⟨?_, .inr ⟨cur, ?_⟩⟩, hc⟩
    · rw [← e2]
      exact hb
    · rw [← e2]
      exact hr
theorem EdsJ.keep {w w' : World} {base k : Nat} {v : Value} {es : List Ed} {S : Nat → Prop} (h : EdsJ w base v k es) (hf : Fr S w w') (hS : ∀ b, b < w.heap.size → S b → ∃ T cs, Blk w b T cs ∧ T ≠ 3 ∧ T ≠ 79) : EdsJ w' base v k es := by
  have ne : ∀ {T : TypeId} {cs : Array Value} {b : Nat}, Blk w b T cs → (T = 3 ∨ T = 79) → ¬ S b := fun hb hT hs => by
    obtain ⟨T', cs', hb', h1, h2⟩ := hS _ hb.lt hs
    unfold Blk at hb hb'
    rw [hb] at hb'
    injection hb' with hb'
    injection hb' with _ hb'
    subst hb'
    rcases hT with rfl | rfl
    · exact h1 rfl
    · exact h2 rfl
  exact ⟨own_fr' h.row hf (fun b cs hs hb => ne hb (.inr rfl) hs), h.len, fun e he => (h.put e he).fr hf (fun b hb hs hc => by
    obtain ⟨cs, hc⟩ := hc
    exact ne hc (.inl rfl) hs)⟩
theorem EdsJ.bel {w w' : World} {base k : Nat} {v : Value} {es : List Ed} (h : EdsJ w base v k es) (hb : Below w.heap.size w w') : EdsJ w' base v k es :=
  h.keep (S := fun _ => False) (Fr.of_below hb) (fun _ _ hs => hs.elim)
theorem szA_blank {enc : Int} (he : enc = 1 ∨ enc = 2 ∨ enc = 3 ∨ enc = 4) : szA enc 10 = szA enc 32 ∧ szA enc 13 = szA enc 32 ∧ szA enc 32 ≠ 0 := by
  rcases he with rfl | rfl | rfl | rfl <;> decide
theorem join_ref {enc lim : Int} {ats : List (Int × Int)} {nb : Int → Bool} {bare : Bool} {es : List Ed} {k : Nat} (he : enc = 1 ∨ enc = 2 ∨ enc = 3 ∨ enc = 4) (hp : PosD (sizedA enc ats)) (hsz : szS (sizedA enc ats) ≤ lim) (hl : (sizedA enc ats).length ≤ 65536)
    (h10 : nb 10 = false) (h13 : nb 13 = false) (h32 : nb 32 = false) (hk : k + es.length ≤ totE (sizedA enc ats)) (hj : JEs nb bare (sizedA enc ats) k es) : refF enc lim (sizedA enc ats) es = 0 ∧ putN es ≤ es.length := by
  obtain ⟨z1, z2, z3⟩ := szA_blank he
  have hte : totE (sizedA enc ats) ≤ 65536 := Nat.le_trans (cntE_le _ _) hl
  have hput : ∀ e ∈ es, e.put = [] ∨ e.put = [32] := fun e hm => by
    obtain ⟨i, hi, e1⟩ := List.mem_iff_getElem.1 hm
    have h1 := hj i e (by rw [List.getElem?_eq_getElem hi, e1])
    obtain ⟨_, n, _, _, _, h2, _⟩ := h1
    exact h2
  have hord := (joined_form hp h10 h13 h32 hk hj (ats := sizedA enc ats) rfl).1
  have hb := join_sz hp (enc := enc) (fun x hx h => by
    unfold sizedA withSz at hx
    obtain ⟨a, _, rfl⟩ := List.mem_map.1 hx
    dsimp only at h ⊢
    rcases h with h | h
    · rw [h]; exact z1
    · rw [h]; exact z2) es k hk hj
  have hby : (sumsOf (sizedA enc ats)).bytes = szS (sizedA enc ats) := by
    have := szS_bytes hp (sizedA enc ats).length
    rwa [List.take_length] at this
  have hfit : fitF enc es = true := by
    unfold fitF
    rw [List.all_eq_true]
    intro e hm
    unfold fitP
    rw [List.all_eq_true]
    intro x hx
    rcases hput e hm with h | h
    · rw [h] at hx; cases hx
    · rw [h] at hx
      simp at hx
      subst hx
      simpa using z3
  refine ⟨?_, ?_⟩
  · unfold refF
    rw [if_neg (by omega), if_neg (by rw [hord]; decide), if_neg (by rw [hfit]; decide), if_neg (by omega)]
  · clear hj hord hb hfit hk
    induction es with
    | nil => exact Nat.le_refl _
    | cons e r ih =>
      have h1 := ih (fun e' h => hput e' (List.mem_cons_of_mem _ h))
      have h2 : e.put.length ≤ 1 := by rcases hput e List.mem_cons_self with h | h <;> rw [h] <;> decide
      unfold putN at h1 ⊢
      simp only [List.map_cons, List.sum_cons, List.length_cons]
      omega
/-! ### slices of integers, told by the type of their block -/
def IntsI (w : World) (A : Option Addr) (n : Nat) (l : List Int) : Prop := Ints w (fun b => ∃ cs, Blk w b 3 cs) A n l
theorem IntsI.fr {w w' : World} {A : Option Addr} {n : Nat} {l : List Int} {S : Nat → Prop} (h : IntsI w A n l) (hf : Fr S w w') (hS : ∀ b, b < w.heap.size → S b → ¬ ∃ cs, Blk w b 3 cs) : IntsI w' A n l := by
  have h0 : Ints w (fun b => ∃ cs, Blk w b 3 cs) A n l := h
  have h1 : Ints w' (fun b => b < w.heap.size ∧ ∃ cs, Blk w b 3 cs) A n l := Reads.fr (Reads.more h0 (D' := fun b => b < w.heap.size ∧ ∃ cs, Blk w b 3 cs) (fun b hb hlt => ⟨hlt, hb⟩) (by decide)) hf (fun b hb hlt hs => hS b hlt hs hb.2)
  exact Reads.more h1 (D' := fun b => ∃ cs, Blk w' b 3 cs) (fun b hb _ => by
    obtain ⟨hlt, cs, hb⟩ := hb
    exact ⟨cs, hb.fr hf (fun hs => hS b hlt hs ⟨cs, hb⟩)⟩) (by decide)
theorem IntsI.bel {w w' : World} {A : Option Addr} {n : Nat} {l : List Int} (h : IntsI w A n l) (hb : Below w.heap.size w w') : IntsI w' A n l := h.fr (S := fun _ => False) (Fr.of_below hb) (fun _ _ hs => hs.elim)
theorem IntsI.any {w : World} {A : Option Addr} {n : Nat} {l : List Int} (h : IntsI w A n l) : Ints w Any A n l := by
  have h0 : Ints w (fun b => ∃ cs, Blk w b 3 cs) A n l := h
  exact Reads.more h0 (fun _ _ _ => trivial) (by decide)
theorem IntsI.of_own {w : World} {base n c : Nat} {A : Option Addr} {xs : List Int} (h : w.ownsRow base 3 1 (.slice A n c) n (xs.map (Value.int .i64))) : IntsI w A n xs := by
  refine ⟨h.1, fun hk => ?_⟩
  rcases h.2 with ⟨e0, h0⟩ | ⟨r, c', cur, e1, hb, hr, h1, h2, h3, h4⟩
  · omega
  · have hA : A = some ⟨r, 0, none⟩ := by injection e1
    obtain ⟨ad, e2, _, hc⟩ := (Reads.of_own h).2 hk
    rw [hA] at e2
    injection e2 with e2
    refine ⟨ad, by rw [hA, e2], ⟨cur, ?_⟩, hc⟩
    rw [← e2]
    exact hr
theorem own_form {w : World} {base n c : Nat} {e : TypeId} {size : Nat} {A : Option Addr} {xs : List Value} (h : w.ownsRow base e size (.slice A n c) n xs) : (A = none ∧ n = 0 ∧ c = 0) ∨ ∃ r, A = some ⟨r, 0, none⟩ := by
  rcases h.2 with ⟨e0, h0⟩ | ⟨r, c', cur, e1, hb, hr, h1, h2, h3, h4⟩
  · injection e0 with e1 e2 e3
    exact .inl ⟨e1, e2, e3⟩
  · injection e1 with e1 e2 e3
    exact .inr ⟨r, e1⟩
end Go.Proofs.YteekabaoocaghaaGreat
