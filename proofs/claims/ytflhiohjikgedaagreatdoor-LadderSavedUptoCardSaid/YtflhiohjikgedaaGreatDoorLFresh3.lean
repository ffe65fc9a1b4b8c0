/-
  The walk of Text.fresh.
-/
import Derived.Test.YtflhiohjikgedaaGreatDoorLFresh2
set_option linter.unusedSimpArgs false
set_option linter.unusedVariables false
set_option maxRecDepth 100000
set_option maxHeartbeats 32000000
namespace Go.Proofs.YtflhiohjikgedaaGreatDoor
open Go.RowKit
theorem own_fr {w w' : World} {B e size n : Nat} {S : Nat -> Prop} {v : Value} {xs : List Value} (h : w.ownsRow B e size v n xs) (hf : Fr S w w') (hn : ∀ b, v.ownBlock = some b -> ¬ S b) : w'.ownsRow B e size v n xs := by
 refine ⟨h.1, ?_⟩
 rcases h.2 with h0 | ⟨r, c, cur, e, h1, h2, h3⟩
 ·exact .inl h0
 ·refine .inr ⟨r, c, cur, e, h1, ?_, h3⟩
  rw [hf.block r (Array.getElem?_eq_some_iff.1 h2).1 (hn r (by rw [e]; rfl))]
  exact h2
theorem own_own_ne {w : World} {B B' e e' size size' n n' : Nat} {v v' : Value} {xs xs' : List Value} (h : w.ownsRow B e size v n xs) (h' : w.ownsRow B' e' size' v' n' xs') (hT : e ≠ e') : ∀ b, v.ownBlock = some b -> v'.ownBlock ≠ some b := by
 intro b hb hb'
 rcases h.2 with ⟨rfl, _⟩ | ⟨r, c, cur, rfl, _, h2, _⟩
 ·cases hb
 ·have : r = b := by simpa [Value.ownBlock] using hb
  subst this
  exact own_blk_ne h' (g := r) h2 (Ne.symm hT) hb'
section
variable {w0 w w' : World} {B g bt bf bp bn n0 : Nat} {enc lim : Int} {add0 add v : Value} {a : Option Addr} {xs : List Value} {dn pd : List Int} {m : Nat} {ps : List Pc}
theorem FreshS.below (h : FreshS w0 B g bt bf bp bn enc lim n0 add0 a xs dn pd m ps v add w) (hr0 : w0.ownsRow B 5 1 add0 n0 xs) (hb : Below w.heap.size w w') : FreshS w0 B g bt bf bp bn enc lim n0 add0 a xs dn pd m ps v add w' :=
 ⟨h.tx.below hb, own_bel h.row hb, h.step.loc (S := No) (Fr.of_below hb) (fun _ hs => hs.elim) hr0, h.tb.below hb, h.fb.below hb, h.pb.below hb, h.nb.below hb, own_bel h.prow hb, h.pcs.far (S := No) (Fr.of_below hb) (fun _ _ hs => hs.elim), h.tag, h.all, h.ge⟩
theorem FreshS.setn (h : FreshS w0 B g bt bf bp bn enc lim n0 add0 a xs dn pd m ps v add w) (hr0 : w0.ownsRow B 5 1 add0 n0 xs) (k : Nat) : FreshS w0 B g bt bf bp bn enc lim n0 add0 a xs dn pd k ps v add (w.setCell ⟨bn, 0, none⟩ (.int .i64 (k : Int))) := by
 have n1 : g ≠ bn := Blk.ne_ h.tx h.nb (by decide)
 have n2 : bt ≠ bn := Blk.ne_ h.tb h.nb (by decide)
 have n3 : bp ≠ bn := Blk.ne_ h.pb h.nb (by decide)
 have F : Fr (· = bn) w (w.setCell ⟨bn, 0, none⟩ (.int .i64 (k : Int))) := (Fr.refl _ _).set1 0 _
 exact ⟨h.tx.far n1 _, own_set_far h.row h.nb (by decide), h.step.loc F (fun b hb => hb ▸ h.ge.2.2.2.1) hr0, h.tb.far n2 _, h.fb.far h.ge.2.2.2.2 _, h.pb.far n3 _, (h.nb.set_ 0 _).eq_ rfl, own_set_far h.prow h.nb (by decide), h.pcs.far F (fun b _ hb => hb ▸ Far.blk h.nb (by decide)), h.tag, h.all, h.ge⟩
def AppT (w : World) (B g N k : Nat) (add : Value) (zs : List Value) (u : Value) (w' : World) : Prop :=
 w'.ownsRow B 5 1 u (N + k) zs /\ TStep g add u N (N + k) w w' /\ Fr (OwnB add) w w'
theorem FreshS.app {u : Value} {x : Int} (h : FreshS w0 B g bt bf bp bn enc lim n0 add0 a xs dn pd m ps v add w) (hr0 : w0.ownsRow B 5 1 add0 n0 xs) (hne0 : add0.ownBlock ≠ some g)
  (ha : AppT w B g (n0 + (putL enc dn).length + (putL enc pd).length) (putA enc x).length add ((xs ++ (putL enc dn ++ putL enc pd).map (Value.int .u8)) ++ (putA enc x).map (Value.int .u8)) u w') :
  FreshS w0 B g bt bf bp bn enc lim n0 add0 a xs dn (pd ++ [x]) m ps v u (w'.setCell ⟨g, 3, none⟩ u) := by
 obtain ⟨hown, hst, hfr⟩ := ha
 have eP : putL enc (pd ++ [x]) = putL enc pd ++ putA enc x := by rw [putL_app, putL_cons, putL_nil, List.append_nil]
 have eN : n0 + (putL enc dn).length + (putL enc (pd ++ [x])).length = n0 + (putL enc dn).length + (putL enc pd).length + (putA enc x).length := by rw [eP, List.length_append]; omega
 have ov : ∀ {T : TypeId} {cs : Array Value} {b : Nat}, Blk w b T cs -> 5 ≠ T -> ¬ OwnB add b := fun hb hT => own_blk_ne h.row hb hT
 have t1 := h.tx.fr hfr (ov h.tx (by decide))
 have t2 := h.tb.fr hfr (ov h.tb (by decide))
 have t3 := h.fb.fr hfr (ov h.fb (by decide))
 have t4 := h.pb.fr hfr (ov h.pb (by decide))
 have t5 := h.nb.fr hfr (ov h.nb (by decide))
 have hne : add.ownBlock ≠ some g := own_blk_ne h.row h.tx (by decide)
 have hneu : u.ownBlock ≠ some g := own_blk_ne hown t1 (by decide)
 have st2 := hst.trans (TStep.set hown t1 hneu 3 u) h.row hne
 refine ⟨(t1.set_ 3 u).eq_ rfl, ?_, ?_, t2.far (Blk.ne_ t2 t1 (by decide)) _, t3.far (Blk.ne_ t3 t1 (by decide)) _, t4.far (Blk.ne_ t4 t1 (by decide)) _, t5.far (Blk.ne_ t5 t1 (by decide)) _, ?_, ?_, h.tag, h.all, h.ge⟩
 ·rw [eN, eP, <- List.append_assoc, List.map_append, <- List.append_assoc]
  exact own_set_far hown t1 (by decide)
 ·rw [eN]
  exact h.step.trans st2 hr0 hne0
 ·exact own_set_far (own_fr h.prow hfr (fun b hb => own_own_ne h.prow h.row (by decide) b hb)) t1 (by decide)
 ·rw [eN]
  exact h.pcs.step st2 h.tx
end
theorem szA_le (enc a : Int) : szA enc a <= 4 := by
 unfold szA sz8 sz16 szL
 repeat' split
 all_goals omega
theorem putL_le4 (enc : Int) (xs : List Int) (hf : Fit enc xs) : (putL enc xs).length <= 4 * xs.length := by
 induction xs with
 | nil => simp [putL_nil]
 | cons a xs ih =>
  have h1 := (putA_len enc a (hf a List.mem_cons_self)).1
  have h2 := szA_le enc a
  have h3 := ih (fun x hx => hf x (List.mem_cons_of_mem _ hx))
  rw [putL_cons, List.length_append, List.length_cons]
  omega
theorem len_decL {enc : Int} : ∀ {ps : List Pc}, (∀ p ∈ ps, PcOk enc p) -> ps.length <= (decL enc ps).length := by
 intro ps
 induction ps with
 | nil => intro _; simp
 | cons p ps ih =>
  intro h
  have h1 := ih (fun q hq => h q (List.mem_cons_of_mem _ hq))
  have hp := h p List.mem_cons_self
  have h2 := dec_nonempty enc p.bytes (by rw [hp.len]; exact hp.pos)
  rw [decL_cons, List.length_append, List.length_cons]
  omega
def isPl (a : Int) : Bool := decide (0 <= a /\ ¬ (55296 <= a /\ a <= 57343))
theorem shut_ok {w0 w : World} {B g bt bf bp bn n0 j : Nat} {enc lim : Int} {add0 add v : Value} {a : Option Addr} {xs : List Value} {dn pd put : List Int} {m : Nat} {ps : List Pc}
  (he : enc = 1 \/ enc = 2 \/ enc = 3 \/ enc = 4) (h : FreshS w0 B g bt bf bp bn enc lim n0 add0 a xs dn pd m ps v add w) (hf : Fit enc put) (htk : put.take j = dn ++ pd) (hpl : (∀ x ∈ pd, Plain x) \/ pd.length <= 1) (hpd : pd.length <= 129)
  (hk : put.length <= 1073741824) (hN : n0 + (putL enc put).length <= 1073741824) :
  dec enc (putL enc pd) = withSz enc pd /\ Fit enc pd /\ (putL enc pd).length <= 1048576 /\ n0 + (putL enc dn).length + (putL enc pd).length <= 1073741824 /\ ps.length <= 1073741824 := by
 have hmem : ∀ x ∈ pd, x ∈ put := fun x hx => List.mem_of_mem_take (htk ▸ List.mem_append_right dn hx : x ∈ put.take j)
 have hfp : Fit enc pd := fun x hx => hf x (hmem x hx)
 have h4 := putL_le4 enc pd hfp
 have e1 : putL enc put = putL enc (put.take j) ++ putL enc (put.drop j) := by rw [<- putL_app, List.take_append_drop]
 have e2 := congrArg List.length e1
 rw [htk, putL_app, List.length_append, List.length_append] at e2
 have h5 := len_decL h.pcs.ok
 rw [h.all] at h5
 have h6 := congrArg List.length htk
 rw [List.length_take, List.length_append] at h6
 refine ⟨?_, hfp, by omega, by omega, ?_⟩
 rotate_left 1
 ·rw [show (withSz enc dn).length = dn.length from List.length_map _] at h5; omega
 rcases hpl with hpl | hpl
 ·exact dec_putL enc he pd hfp hpl
 ·cases pd with
  | nil => rfl
  | cons x r =>
   have : r = [] := List.eq_nil_of_length_eq_zero (by simp only [List.length_cons] at hpl; omega)
   subst this
   rw [putL_cons, putL_nil, List.append_nil]
   exact dec_put1 enc x he (hfp x List.mem_cons_self)
def FreshM (w : World) (B g : Nat) (enc lim : Int) (n : Nat) (add : Value) (a : Option Addr) (xs : List Value) (put : List Int) (j : Nat) (p : Bool) (add' : Value) (wr : World) : Prop :=
 ∃ (dn pd : List Int) (ps : List Pc) (v : Value), put.take j = dn ++ pd /\ FreshS w B g w.heap.size (w.heap.size + 1 + 1) (w.heap.size + 1) (w.heap.size + 1 + 1 + 1) enc lim n add a xs dn pd pd.length ps v add' wr /\ (∀ x ∈ pd, Plain x) /\ pd.length < 128 /\ (p = false -> pd = [])
def FreshR (w : World) (B g : Nat) (enc lim : Int) (n : Nat) (add : Value) (a : Option Addr) (xs : List Value) (put : List Int) (k : Nat) (q : Value) (wr : World) : Prop :=
 ∃ (j : Nat) (dn pd : List Int) (ps : List Pc) (v add' : Value), q = .int .i64 (j : Int) /\ Hid (put.take j = dn ++ pd) /\ Hid (FreshS w B g w.heap.size (w.heap.size + 1 + 1) (w.heap.size + 1) (w.heap.size + 1 + 1 + 1) enc lim n add a xs dn pd pd.length ps v add' wr) /\ (∀ x ∈ pd, Plain x) /\ pd.length <= 128 /\ j <= put.length /\ put.length - j <= k
def FreshPost (B g : Nat) (enc lim : Int) (n : Nat) (add : Value) (a : Option Addr) (xs : List Value) (put : List Int) (w : World) (e : Ending) (w' : World) : Prop :=
 ∃ ps v add', e = .returned v /\ Blk w' g 88 #[.int .i64 enc, .int .i64 lim, .pointer a, add'] /\ w'.ownsRow B 5 1 add' (n + (putL enc put).length) (xs ++ (putL enc put).map (Value.int .u8)) /\
  TStep g add add' n (n + (putL enc put).length) w w' /\ w'.ownsRow w.heap.size 94 7 v ps.length (ps.flatMap fun p => p.cells.toList) /\ PsIn w' add' (n + (putL enc put).length) enc ps /\ decL enc ps = withSz enc put /\ ∀ p ∈ ps, p.tag = -1
theorem fresh_any (B g : Nat) (enc lim : Int) (n : Nat) (add : Value) (a : Option Addr) (xs : List Value) (put : List Int) (D : Nat -> Prop) (A : Option Addr) (k c : Nat) (w : World) (he : enc = 1 \/ enc = 2 \/ enc = 3 \/ enc = 4)
    (hg : Blk w g 88 #[.int .i64 enc, .int .i64 lim, .pointer a, add]) (hr : w.ownsRow B 5 1 add n xs) (hl : Ints w D A k put) (hD : ∀ b, D b -> b ≠ g /\ add.ownBlock ≠ some b) (hf : Fit enc put)
    (hk : k <= 1073741824) (hN : n + (putL enc put).length <= 1073741824) (hB : B <= w.heap.size) :
    Calls Tryz.prog 67 #[.pointer (some ⟨g, 0, none⟩), .slice A k c] w fun e w' => FreshPost B g enc lim n add a xs put w e w' := by
  have c3 := hg.cell 3
  simp at c3
  have HBASE := Lib.hid hB
  clear hB
  obtain ⟨A', cap, hadd, hcap⟩ := own_slice hr
  have hlen := hl.len
  have hmf : ∀ (fn : Fn) (first cap : Array Value) (w : World), (Instr.makeFunc fn first cap).run Tryz.prog w = .ok (.func fn first cap) w := fun _ _ _ _ => rfl
  have hne0 : add.ownBlock ≠ some g := own_blk_ne hr hg (by decide)
  have c3' := ((hg.alloc (.cells #[.pointer (some ⟨g, 0, none⟩)] 39)).alloc (.cells #[.slice none 0 0] 89)).cell 3
  simp at c3'
  rw [hadd] at c3 c3'
  go_enter Tryz.func67, Tryz.ntmps67
  go_wp2_with fail
  go_loopg [23] put.length (fun k q wr => FreshR w B g enc lim n add a xs put k q wr)
  case atStart =>
    refine ⟨0, [], [], [], .slice none 0 0, add, rfl, Lib.hid rfl, Lib.hid ?_, fun x hx => (by cases hx), (by simp), (by omega), (by omega)⟩
    have b4 : ∀ (o1 o2 o3 o4 : Obj), Below w.heap.size w ((((w.alloc o1).alloc o2).alloc o3).alloc o4) := fun _ _ _ _ => balloc (balloc (balloc (balloc (Below.refl _ _))))
    refine ⟨hg.below (b4 _ _ _ _), ?_, ?_, ((Blk.new w _ _).alloc _).alloc _ |>.alloc _, ?_, ?_, ?_, World.ownsRow_nil _ _ _ _, PsIn.nil _ _ _ _, fun _ hp => (by cases hp), rfl, (by omega)⟩
    · have := own_bel hr (b4 (.cells #[.pointer (some ⟨g, 0, none⟩)] 39) (.cells #[.slice none 0 0] 89) (.cells #[.int .i64 n] 3) (.cells #[.int .i64 0] 3))
      simpa [putL_nil] using this
    · have := TStep.below (g := g) hr (b4 (.cells #[.pointer (some ⟨g, 0, none⟩)] 39) (.cells #[.slice none 0 0] 89) (.cells #[.int .i64 n] 3) (.cells #[.int .i64 0] 3))
      simpa [putL_nil] using this
    · refine ((Blk.newAt (by simp)).alloc _).eq_ ?_
      simp [putL_nil]
    · exact ((Blk.newAt (by simp)).alloc _).alloc _
    · exact Blk.newAt (by simp)
  case round =>
    obtain ⟨j, dn, pd, ps, v, add', rfl, htk, hS, hpl, hpd, hj, hgk⟩ := hrel
    have hl1 := Reads.fr hl hS.out.step.fr (fun b hb _ hs => hs.elim (fun e => (hD b hb).1 e) (fun e => (hD b hb).2 e))
    by_cases hlt : j < k
    · obtain ⟨ad, rfl, hd, hc⟩ := Ints.at_ hl1 hlt
      obtain ⟨x, hx⟩ : ∃ x, put.getD j 0 = x := ⟨_, rfl⟩
      rw [hx] at hc
      have hxm : x ∈ put := by
        rw [<- hx, List.getD_eq_getElem?_getD, List.getElem?_eq_getElem (by omega)]
        exact List.getElem_mem _
      have htk1 : put.take (j + 1) = put.take j ++ [x] := by
        rw [List.take_add_one, List.getElem?_eq_getElem (by omega), <- hx, List.getD_eq_getElem?_getD, List.getElem?_eq_getElem (by omega)]
        rfl
      have HTK1 := Lib.hid htk1
      have HHL := Lib.hid hl1
      have HHL0 := Lib.hid hl
      obtain ⟨w1, hw1⟩ : ∃ x, x = wr := ⟨_, rfl⟩
      subst hw1
      clear hl hl1 hx htk1
      go_upto_region 8 with fail
      go_cut [11] (fun s wx => s = .bool (isPl x) /\ wx = w1)
      case first =>
        have hcs : ((0 <= x) = False /\ isPl x = false) \/ ((0 <= x) = True /\ (((x < 55296) = True /\ isPl x = true) \/ ((x < 55296) = False /\ (((57343 < x) = True /\ isPl x = true) \/ ((57343 < x) = False /\ isPl x = false))))) := by
          unfold isPl
          simp only [eq_iff_iff, iff_true, iff_false, decide_eq_true_eq, decide_eq_false_iff_not]
          omega
        rcases hcs with ⟨q1, e⟩ | ⟨q1, ⟨q2, e⟩ | ⟨q2, ⟨q3, e⟩ | ⟨q3, e⟩⟩⟩
        all_goals
          have E := Lib.hid e
          clear e
          go_wp2_with fail
          go_meet
          rw [E.out]
          exact ⟨rfl, rfl⟩
      case rest =>
        obtain ⟨rfl, rfl⟩ := hcut
        obtain ⟨p, hp⟩ : ∃ p, isPl x = p := ⟨_, rfl⟩
        rw [hp]
        have HPE := Lib.hid hp
        clear hp
        have c7 := hS.out.nb.cell 0
        simp at c7
        have he2 : ∀ args w, (callFunc 88 args).run Tryz.prog w = .ok (.enter 88 args) w := fun _ _ => rfl
        obtain ⟨w1, hw1⟩ : ∃ x, x = wc := ⟨_, rfl⟩
        subst hw1
        go_upto_region 9 with fail
        go_cut [42] (fun s wx => s = .bool (!p || decide (pd.length = 128)) /\ wx = w1)
        case first =>
          cases p
          · go_wp2_with fail
            go_meet
            exact ⟨rfl, rfl⟩
          · by_cases h128 : pd.length = 128
            · have q1 : (((pd.length : Nat) : Int) == 128) = true := by rw [beq_iff_eq]; omega
              have q2 : decide (pd.length = 128) = true := by simpa using h128
              rw [h128] at c7
              go_wp2_with fail
              go_meet
              rw [q2]
              exact ⟨rfl, rfl⟩
            · have q1 : (((pd.length : Nat) : Int) == 128) = false := by rw [beq_eq_false_iff_ne]; omega
              have q2 : decide (pd.length = 128) = false := by simpa using h128
              go_wp2_with fail
              go_meet
              rw [q2]
              exact ⟨rfl, rfl⟩
        case rest =>
          obtain ⟨rfl, rfl⟩ := hcut
          obtain ⟨w1, hw1⟩ : ∃ x, x = wc := ⟨_, rfl⟩
          subst hw1
          obtain ⟨q, hq⟩ : ∃ q, (!p || decide (pd.length = 128)) = q := ⟨_, rfl⟩
          rw [hq]
          have hsk := shut_ok he hS.out hf htk.out (.inl hpl) (by omega) (by omega) hN
          have hsh := shut_any w B g w.heap.size (w.heap.size + 1 + 1) (w.heap.size + 1) (w.heap.size + 1 + 1 + 1) enc lim n add a xs dn pd ps v add' w1 he hS.out hr hsk.1 hsk.2.1 hsk.2.2.1 hsk.2.2.2.1 hsk.2.2.2.2
          have HSH := Lib.hid hsh
          have HQ := Lib.hid hq
          clear hsh hsk hq
          go_upto_if 42 with fail
          go_cut [] (fun wx => FreshM w B g enc lim n add a xs put j p add' wx)
          case first =>
            cases q
            · go_wp2_with fail
              go_meet
              have h1 := HQ.out
              simp only [Bool.or_eq_false_iff, Bool.not_eq_false', decide_eq_false_iff_not] at h1
              exact ⟨dn, pd, ps, v, htk.out, hS.out, hpl, by omega, fun h => absurd h1.1 (by rw [h]; simp)⟩
            · go_wp2_with fail
              refine (HSH.out).mono ?_
              rintro e w2 ⟨rfl, ps2, v2, hS2⟩
              have HS2 := Lib.hid hS2
              clear hS2
              go_wp2_with fail
              go_meet
              exact ⟨dn ++ pd, [], ps2, v2, by rw [List.append_nil]; exact htk.out, HS2.out, fun x hx => (by cases hx), by simp, fun _ => rfl⟩
          case rest =>
            obtain ⟨w2, hw2⟩ : ∃ x, x = wc := ⟨_, rfl⟩
            subst hw2
            obtain ⟨dn2, pd2, ps2, v2, htk2, hS2, hpl2, hpd2, hp2⟩ := hcut
            have t0 := hS2.tb.cell 0
            have t1 := hS2.tx.cell 0
            simp at t0 t1
            have HS2 := Lib.hid hS2
            have HTK2 := Lib.hid htk2
            have HP2 := Lib.hid hp2
            have hen := fun (w' : World) (hl : Ints w' Any (some ⟨w2.heap.size, 0, none⟩) 1 [x]) => encode1_any enc x Any (some ⟨w2.heap.size, 0, none⟩) 1 w' he hl (hf x hxm)
            have HEN := Lib.hid hen
            clear hS HSH HQ HHL c7 hS2 htk2 hp2 hen hpl hpd htk dn pd ps v
            go_wp2_with fail
            refine (HEN.out _ ?_).mono ?_
            · refine ⟨rfl, fun _ => ⟨_, rfl, trivial, ?_⟩⟩
              exact cell_one_new w2 (.int .i64 x) 3
            rintro e w3 ⟨v3, rfl, ho3, hb3⟩
            have hb3' := bseq (balloc (Below.refl _ w2)) hb3
            have hS3 := HS2.out.below hr hb3'
            obtain ⟨A3, cc3, rfl, hc3⟩ := own_slice ho3
            obtain ⟨N3, hN3⟩ : ∃ N3, n + (putL enc dn2).length + (putL enc pd2).length = N3 := ⟨_, rfl⟩
            obtain ⟨A4, cc4, e4, hc4⟩ := own_slice hS3.row
            rw [hN3] at e4 hc4
            have hbx := putA_len enc x (hf x hxm)
            have hx4 := szA_le enc x
            have hx0 := hf x hxm
            obtain ⟨ad3, rfl⟩ : ∃ ad3, A3 = some ad3 := by
              rcases ho3.2 with ⟨e0, e1⟩ | ⟨q, c, cur, e0, _⟩
              · omega
              · injection e0 with e0
                exact ⟨_, e0⟩
            have hnews : ∀ i u, ((putA enc x).map (Value.int .u8))[i]? = some u -> w3.cell? (ad3.add i) = some u := by
              have h1 := Reads.of_own ho3
              obtain ⟨ad', e', _, h2⟩ := h1.2 (by omega)
              injection e' with e'
              subst e'
              exact h2
            have ho31 : ∀ u ∈ (putA enc x).map (Value.int .u8), u.oneCell' = true := by
              intro u hu
              obtain ⟨y, _, rfl⟩ := List.mem_map.1 hu
              rfl
            have hle3 : N3 <= 1073741824 := by
              have e1 : putL enc put = putL enc (put.take j) ++ putL enc (put.drop j) := by rw [<- putL_app, List.take_append_drop]
              have e2 := congrArg List.length e1
              rw [HTK2.out, putL_app, List.length_append, List.length_append] at e2
              omega
            have s0 := hS3.tb.cell 0
            have s1 := hS3.tx.cell 3
            simp at s0 s1
            have sz3 := hS3.step.fr.size
            have happ := fun (u : Value) (w' : World) (h : AppT w3 B g N3 (putA enc x).length add' ((xs ++ (putL enc dn2 ++ putL enc pd2).map (Value.int .u8)) ++ (putA enc x).map (Value.int .u8)) u w') => hS3.app (u := u) (x := x) (w' := w') hr hne0 (by rw [hN3]; exact h)
            have hrow3 := hS3.row
            have htx3 := hS3.tx
            rw [hN3] at hrow3
            have hne3 : add'.ownBlock ≠ some g := own_blk_ne hrow3 htx3 (by decide)
            have hap : ∀ (wa w' : World) (u : Value), (wa = w3 \/ wa = w3.drew) -> w'.ownsRow B 5 1 u (N3 + (putA enc x).length) ((xs ++ (putL enc dn2 ++ putL enc pd2).map (Value.int .u8)) ++ (putA enc x).map (Value.int .u8)) -> wa.grownBy w' add'.ownBlock -> (u.ownBlock = add'.ownBlock \/ u.ownBlock = some wa.heap.size) ->
                (∀ b o, add'.ownBlock = some b -> o < N3 * 1 -> w'.cell? ⟨b, o, none⟩ = wa.cell? ⟨b, o, none⟩) -> (∀ b, add'.ownBlock = some b -> ∃ cs, Blk w' b 5 cs) -> AppT w3 B g N3 (putA enc x).length add' ((xs ++ (putL enc dn2 ++ putL enc pd2).map (Value.int .u8)) ++ (putA enc x).map (Value.int .u8)) u w' := by
              rintro wa w' u hwa h1 h2 h3 h4 h5
              have hfr : Fr (fun b => b = g) w3 wa := by rcases hwa with rfl | rfl; exact Fr.refl _ _; exact (Fr.refl _ _).drew
              refine ⟨h1, TStep.grow hrow3 hfr hne3 h1 h2 h3 h4 h5 (fun cs hb => Blk.ne_ hb htx3 (by decide) rfl), ?_⟩
              have hfr' : Fr (OwnB add') w3 wa := by rcases hwa with rfl | rfl; exact Fr.refl _ _; exact (Fr.refl _ _).drew
              exact hfr'.grown h2 (fun k hk _ => hk)
            have hkeep : ∀ (w' : World), Fr (OwnB add') w3 w' -> w'.cell? ⟨w.heap.size, 0, none⟩ = some (.pointer (some ⟨g, 0, none⟩)) /\ w'.cell? ⟨g, 3, none⟩ = some add' /\ w'.frozen? ⟨g, 3, none⟩ = false := fun w' hf' =>
              ⟨(hS3.tb.fr hf' (own_blk_ne hrow3 hS3.tb (by decide))).cell 0, (htx3.fr hf' hne3).cell 3, (htx3.fr hf' hne3).frozen 3⟩
            have hne4 : (⟨w.heap.size, 0, none⟩ : Addr).block ≠ (⟨g, 3, none⟩ : Addr).block := Blk.ne_ hS3.tb htx3 (by decide)
            have HNE := Lib.hid hne4
            clear hne4
            have HAP := Lib.hid hap
            have HAPP := Lib.hid happ
            have HKP := Lib.hid hkeep
            have HRW := Lib.hid hrow3
            have HNW := Lib.hid hnews
            have HS3 := Lib.hid hS3
            have HN3 := Lib.hid hN3
            have HBX := Lib.hid hbx
            clear hS3 HS2 hap happ hkeep hrow3 hnews htx3 ho3 hN3 t0 t1 hbx
            obtain ⟨ib, hib, hi0, hi1, hi2⟩ := info_parts byte_info8
            obtain ⟨bs, hbs⟩ : ∃ bs, (putA enc x).map (Value.int .u8) = bs := ⟨_, rfl⟩
            obtain ⟨bl, hbl⟩ : ∃ bl, (putA enc x).length = bl := ⟨_, rfl⟩
            have hbsl : bs.length = bl * 1 := by rw [<- hbs, List.length_map, hbl, Nat.mul_one]
            have hbl4 : bl <= 4 := by have := HBX.out.1; omega
            obtain ⟨ys, hys⟩ : ∃ ys, xs ++ (putL enc dn2 ++ putL enc pd2).map (Value.int .u8) = ys := ⟨_, rfl⟩
            rw [hbs] at HNW ho31
            rw [hbs, hbl, hys] at HAP HAPP
            rw [hys] at HRW
            rw [hbl] at hc3
            rw [hbl]
            subst e4
            clear hbs hys hbl
            go_wp2_with fail
            refine wp_region_lin (fun w' => w'.cell? ⟨w.heap.size, 0, none⟩ = some (.pointer (some ⟨g, 0, none⟩))) (fun w' => w' = w3.drew) (fun k => k == 4 || k == 6 || k == 9) (fun _ => false) (fun _ => false) (by kernel_rfl) (by kernel_rfl) (rfl) (fun w' h => by subst h; exact s0) ?_
            repeat ((first
              | (refine wpL_read (v := ?_) (by rfl) (by rfl) (fun w6 hSw => ?_) ?_; rotate_left; (· (have y0 := hSw; go_simp; try with_reducible rfl)))
              | (refine wpL_free (v := ?_) (by rfl) (fun w6 => ?_) ?_; rotate_left; (· (go_simp; try with_reducible rfl)))
              | refine wpL_not (by rfl) ?_); (try simp only [Act.put, pA, pB, pC]))
            refine wpL_heavy (fun u w' => u = .slice A4 N3 cc4 /\ w' = w3.drew) (by rfl) (by rfl) (fun w6 hSw => ?_) (.inr (fun v6 w6 hT6 => ?_)) (fun v6 hv6 => ?_)
            · (subst hSw; go_simp; exact ⟨rfl, rfl⟩)
            · (obtain ⟨-, rfl⟩ := hT6; exact s0)
            obtain ⟨wz, rfl, -⟩ := hv6
            (try simp only [Act.put, pA, pB, pC])
            repeat ((first
              | (refine wpL_read (v := ?_) (by rfl) (by rfl) (fun w6 hSw => ?_) ?_; rotate_left; (· (have y0 := hSw; go_simp; try with_reducible rfl)))
              | (refine wpL_free (v := ?_) (by rfl) (fun w6 => ?_) ?_; rotate_left; (· (go_simp; try with_reducible rfl)))
              | refine wpL_not (by rfl) ?_); (try simp only [Act.put, pA, pB, pC]))
            refine wpL_heavy (fun u w' => AppT w3 B g N3 bl (.slice A4 N3 cc4) (ys ++ bs) u w') (by rfl) (by rfl) (fun w6 hSw => ?_) (.inr (fun v6 w6 hT6 => ?_)) (fun v6 hv6 => ?_)
            · (obtain ⟨-, rfl⟩ := hSw; exact hrun_append_kept 22 rfl B 5 ib (.int .u8 0) 1 1 Tryz.underlying22 hib hi0 hi1 hi2 rfl (by decide) (.slice A4 N3 cc4) N3 ys rfl HRW.out ad3 bl cc3 bs rfl hbsl HNW.out ho31 (by unfold maxLen; omega) (by omega) (by exact Nat.le_trans HBASE.out sz3) (fun v' w' ho' hg' hat' hk' hs' => HAP.out w3.drew w' v' (.inr rfl) ho' hg' hat' hk' hs'))
            · (exact (HKP.out _ hT6.2.2).1)
            obtain ⟨wz, hz7, -, -⟩ := hv6; obtain ⟨A7, c7, rfl, -⟩ := own_slice hz7
            (try simp only [Act.put, pA, pB, pC])
            repeat ((first
              | (refine wpL_read (v := ?_) (by rfl) (by rfl) (fun w6 hSw => ?_) ?_; rotate_left; (· (have y0 := hSw; go_simp; try with_reducible rfl)))
              | (refine wpL_free (v := ?_) (by rfl) (fun w6 => ?_) ?_; rotate_left; (· (go_simp; try with_reducible rfl)))
              | refine wpL_not (by rfl) ?_); (try simp only [Act.put, pA, pB, pC]))
            refine wpL_heavy (fun _ w' => ∃ wq, AppT w3 B g N3 bl (.slice A4 N3 cc4) (ys ++ bs) (.slice A7 (N3 + bl) c7) wq /\ w' = wq.setCell ⟨g, 3, none⟩ (.slice A7 (N3 + bl) c7)) (by rfl) (by rfl) (fun w6 hSw => ?_) (.inr (fun v6 w6 hT6 => ?_)) (fun v6 hv6 => ?_)
            · (obtain ⟨y0, y1, y2⟩ := HKP.out _ hSw.2.2; go_simp; exact ⟨w6, hSw, rfl⟩)
            · (obtain ⟨wq, hq, rfl⟩ := hT6; exact cell_far HNE.out (HKP.out _ hq.2.2).1)
            skip
            (try simp only [Act.put, pA, pB, pC])
            refine wpL_nil ?_
            rintro w4 ⟨wq, hq4, rfl⟩
            have hS4 := HAPP.out _ _ hq4
            obtain ⟨w5, hw5⟩ : ∃ w5, wq.setCell ⟨g, 3, none⟩ (.slice A7 (N3 + bl) c7) = w5 := ⟨_, rfl⟩
            rw [hw5] at hS4 ⊢
            have z0 := hS4.nb.cell 0
            have z1 := hS4.nb.frozen 0
            simp at z0
            have hS5 := hS4.setn hr (pd2.length + 1)
            have HS5 := Lib.hid hS5
            clear hS4 hS5 hq4 hw5 wq s0 s1 hne3 hib hi0 hi1 hi2
            have e5 : IntKind.i64.wrap (((pd2.length : Nat) : Int) + 1) = ((pd2.length + 1 : Nat) : Int) := by rw [IntWalk.i64_in _ (by omega)]; omega
            have e6 : (pd2 ++ [x]).length = pd2.length + 1 := by simp
            have htk3 : put.take (j + 1) = dn2 ++ (pd2 ++ [x]) := by rw [HTK1.out, HTK2.out, List.append_assoc]
            have HTK3 := Lib.hid htk3
            clear htk3
            cases p
            · have hpn := HP2.out rfl
              have hsk := shut_ok (dn := dn2) (pd := pd2 ++ [x]) he HS5.out hf HTK3.out (.inr (by rw [hpn]; simp)) (by omega) (by omega) hN
              have hS6 := HS5.out
              rw [<- e6] at hS6
              have hsh := shut_any w B g w.heap.size (w.heap.size + 1 + 1) (w.heap.size + 1) (w.heap.size + 1 + 1 + 1) enc lim n add a xs dn2 (pd2 ++ [x]) ps2 v2 _ _ he hS6 hr hsk.1 hsk.2.1 hsk.2.2.1 hsk.2.2.2.1 hsk.2.2.2.2
              rw [e6] at hsh
              have HSH := Lib.hid hsh
              clear hsh hS6 hsk hpn e6
              go_wp2_with fail
              refine (HSH.out).mono ?_
              rintro e w6 ⟨rfl, ps3, v3, hS7⟩
              have HS7 := Lib.hid hS7
              clear hS7
              go_wp2_with fail
              go_roundg (put.length - (j + 1))
              case measure => omega
              case rel =>
                exact ⟨j + 1, dn2 ++ (pd2 ++ [x]), [], ps3, v3, _, by go_num, Lib.hid (by rw [List.append_nil]; exact HTK3.out), HS7, fun x hx => (by cases hx), (by simp), (by omega), (by omega)⟩
            · have hpx : Plain x := by
                have := HPE.out
                unfold isPl at this
                simp only [decide_eq_true_eq] at this
                exact this
              go_wp2_with fail
              go_roundg (put.length - (j + 1))
              case measure => omega
              case rel =>
                refine ⟨j + 1, dn2, pd2 ++ [x], ps2, v2, .slice A7 (N3 + bl) c7, by go_num, HTK3, Lib.hid ?_, fun y hy => ?_, (by omega), (by omega), (by omega)⟩
                · rw [e6]
                  have := HS5.out
                  rw [Int.natCast_add] at this
                  exact this
                · rcases List.mem_append.1 hy with hy | hy
                  · exact hpl2 y hy
                  · rw [List.mem_singleton] at hy
                    rw [hy]
                    exact hpx
    · have hjk : j = put.length := by omega
      subst hjk
      have htk' := htk.out
      rw [List.take_length] at htk'
      have hsk := shut_ok he hS.out hf htk.out (.inl hpl) (by omega) (by omega) hN
      have hsh := shut_any w B g w.heap.size (w.heap.size + 1 + 1) (w.heap.size + 1) (w.heap.size + 1 + 1 + 1) enc lim n add a xs dn pd ps v add' wr he hS.out hr hsk.1 hsk.2.1 hsk.2.2.1 hsk.2.2.2.1 hsk.2.2.2.2
      have HSH := Lib.hid hsh
      have HTK := Lib.hid htk'
      have he2 : ∀ args w, (callFunc 88 args).run Tryz.prog w = .ok (.enter 88 args) w := fun _ _ => rfl
      clear hsh hsk hl1 hS htk' htk hpl hl
      go_wp2_with fail
      refine (HSH.out).mono ?_
      rintro e w6 ⟨rfl, ps3, v3, hS7⟩
      have z0 := hS7.pb.cell 0
      simp at z0
      have HS7 := Lib.hid hS7
      clear hS7
      go_wp2_with fail
      go_ret
      have h := HS7.out
      have e1 : dn ++ pd = put := HTK.out.symm
      rw [e1] at h
      refine ⟨ps3, v3, add', rfl, h.tx, ?_, ?_, h.prow, ?_, h.all, h.tag⟩
      · simpa [putL_nil] using h.row
      · simpa [putL_nil] using h.step
      · simpa [putL_nil] using h.pcs
end Go.Proofs.YtflhiohjikgedaaGreatDoor
