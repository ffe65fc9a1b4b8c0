/-
  A piece cut in two, and a list of pieces of which a part gives way to others (plain). The walk of Text.fresh: atoms that are put become pieces of their own.
-/
import Derived.Test.YtflhiohjikgedaaGreatDoorLStep
import Derived.Test.YtflhiohjikgedaaGreatDoorLAhead
import Derived.Test.YtflhiohjikgedaaGreatDoorLOpen
set_option linter.unusedSimpArgs false
set_option linter.unusedVariables false
set_option maxRecDepth 100000
set_option maxHeartbeats 32000000
namespace Go.Proofs.YtflhiohjikgedaaGreatDoor
open Go.RowKit
def cutL (enc : Int) (x : Pc) (n : Nat) : Pc := ⟨x.A, (szs enc x.bytes n).toNat, (szs enc x.bytes n).toNat, x.tag, sumsOf ((dec enc x.bytes).take n), x.bytes.take (szs enc x.bytes n).toNat⟩
def cutR (enc : Int) (x : Pc) (n : Nat) : Pc :=
 ⟨if x.c = (szs enc x.bytes n).toNat then x.A else x.A.map (·.add (szs enc x.bytes n).toNat), x.n - (szs enc x.bytes n).toNat, x.c - (szs enc x.bytes n).toNat, if 0 <= x.tag then x.tag + szs enc x.bytes n else x.tag, sumsOf ((dec enc x.bytes).drop n), x.bytes.drop (szs enc x.bytes n).toNat⟩
theorem cutV_eq (enc : Int) (x : Pc) (n : Nat) : CutV enc x (n : Int) = .tuple #[.agg (cutL enc x n).cells, .agg (cutR enc x n).cells] := rfl
theorem szs_pos (enc : Int) (l : List Int) (n : Nat) (hn : 0 < n) (hl : 0 < l.length) : 1 <= szs enc l n := by
 obtain ⟨k, rfl⟩ : ∃ k, n = k + 1 := ⟨n - 1, by omega⟩
 rw [szs_succ enc l k hl]
 have h1 := sizeAt_bd enc l hl
 have h2 := szs_bd enc k (l.drop (sizeAt enc l).toNat)
 omega
theorem szs_lt (enc : Int) (l : List Int) (n : Nat) (h : n < (dec enc l).length) : szs enc l n < l.length := by
 have h1 := szs_bd enc n l
 have h2 := dec_drop enc n l
 have h3 : 0 < (l.drop (szs enc l n).toNat).length := by
  rcases Nat.eq_zero_or_pos (l.drop (szs enc l n).toNat).length with h0 | h0
  ·rw [List.eq_nil_of_length_eq_zero h0, dec_nil] at h2
   have := congrArg List.length h2
   rw [List.length_drop, List.length_nil] at this
   omega
  ·exact h0
 rw [List.length_drop] at h3
 omega
section
variable {enc : Int} {x : Pc} {n : Nat}
theorem cutL_dec : dec enc (cutL enc x n).bytes = (dec enc x.bytes).take n := dec_take enc n x.bytes
theorem cutR_dec : dec enc (cutR enc x n).bytes = (dec enc x.bytes).drop n := dec_drop enc n x.bytes
theorem cutL_ok (h : PcOk enc x) (hn : 0 < n) : PcOk enc (cutL enc x n) := by
 have h1 := szs_bd enc n x.bytes
 have h2 := szs_pos enc x.bytes n hn (by rw [h.len]; exact h.pos)
 have h3 := h.len
 have h4 := h.nle
 exact ⟨h.byt.take _, by simp only [cutL, List.length_take]; omega, by simp only [cutL]; omega, by simp only [cutL]; omega, Nat.le_refl _, h.tag0, h.tag1, by rw [cutL_dec]; rfl⟩
theorem cutR_ok (h : PcOk enc x) (hn : n < (dec enc x.bytes).length) (ht : x.tag + x.n <= 1073741824) : PcOk enc (cutR enc x n) := by
 have h1 := szs_bd enc n x.bytes
 have h2 := szs_lt enc x.bytes n hn
 have h3 := h.len
 have h4 := h.nle
 have h5 := h.cap
 have h6 := h.tag0
 refine ⟨h.byt.drop _, by simp only [cutR, List.length_drop]; omega, by simp only [cutR]; omega, by simp only [cutR]; omega, by simp only [cutR]; omega, ?_, ?_, by rw [cutR_dec]; rfl⟩
 ·simp only [cutR]; split <;> omega
 ·simp only [cutR]; split <;> omega
theorem cutL_ats : atsP enc (cutL enc x n) = (atsP enc x).take n := by
 unfold atsP
 rw [cutL_dec]
 show tagF x.tag 0 _ = _
 rcases Nat.le_total n (dec enc x.bytes).length with hle | hle
 ·conv => rhs; rw [<- List.take_append_drop n (dec enc x.bytes), tagF_app]
  exact (List.take_left' (by rw [tagF_len, List.length_take]; omega)).symm
 ·have h1 : (dec enc x.bytes).take n = dec enc x.bytes := List.take_of_length_le hle
  have h2 : (tagF x.tag 0 (dec enc x.bytes)).take n = tagF x.tag 0 (dec enc x.bytes) := List.take_of_length_le (by rw [tagF_len]; exact hle)
  rw [h1, h2]
theorem tagF_neg {p q : Int} (hp : p < 0) (hq : q < 0) (ds : List (Int × Int)) : ∀ o o', tagF p o ds = tagF q o' ds := by
 induction ds with
 | nil => intro _ _; rfl
 | cons d ds ih => intro o o'; simp only [tagF, if_pos hp, if_pos hq, ih (o + d.2) (o' + d.2)]
theorem cutR_ats : atsP enc (cutR enc x n) = (atsP enc x).drop n := by
 unfold atsP
 rw [cutR_dec]
 show tagF (if 0 <= x.tag then x.tag + szs enc x.bytes n else x.tag) 0 _ = _
 rcases Nat.le_total n (dec enc x.bytes).length with hle | hle
 ·conv => rhs; rw [<- List.take_append_drop n (dec enc x.bytes), tagF_app]
  refine Eq.trans ?_ (List.drop_left' (by rw [tagF_len, List.length_take]; omega)).symm
  split
  ·rename_i h0
   have h1 := (szs_bd enc n x.bytes).1
   rw [tagF_shift _ (by omega), tagF_shift _ h0]
   show tagF 0 (x.tag + szs enc x.bytes n + 0) _ = tagF 0 (x.tag + (0 + szs enc x.bytes n)) _
   rw [Int.add_zero, Int.zero_add]
  ·exact tagF_neg (by omega) (by omega) _ _ _
 ·have h1 : (dec enc x.bytes).drop n = [] := List.drop_eq_nil_of_le hle
  have h2 : (tagF x.tag 0 (dec enc x.bytes)).drop n = [] := List.drop_eq_nil_of_le (by rw [tagF_len]; exact hle)
  rw [h1, h2]
  rfl
theorem cutL_bts {w : World} {D : Nat -> Prop} (h : Bts w D x.A x.n x.bytes) (hk : PcOk enc x) : Bts w D (cutL enc x n).A (cutL enc x n).n (cutL enc x n).bytes := by
 have h1 := szs_bd enc n x.bytes
 have h3 := hk.len
 have := Reads.take h (k := (szs enc x.bytes n).toNat) (by omega)
 unfold Bts cutL
 rw [Nat.mul_one, <- List.map_take] at this
 exact this
theorem cutR_bts {w : World} {D : Nat -> Prop} (h : Bts w D x.A x.n x.bytes) (hk : PcOk enc x) : Bts w D (cutR enc x n).A (cutR enc x n).n (cutR enc x n).bytes := by
 have h1 := szs_bd enc n x.bytes
 have h3 := hk.len
 have := Reads.cut h (k := (szs enc x.bytes n).toNat) (by omega) hk.cap
 unfold Bts cutR
 rw [Nat.mul_one, <- List.map_drop] at this
 exact this
theorem cutL_low {add : Value} {m : Nat} (h : Low add m x) (hk : PcOk enc x) : Low add m (cutL enc x n) := by
 intro ad e hb
 have h1 := szs_bd enc n x.bytes
 have h3 := hk.len
 have := h ad e hb
 simp only [cutL]
 omega
theorem cutR_low {add : Value} {m : Nat} (h : Low add m x) (hk : PcOk enc x) : Low add m (cutR enc x n) := by
 intro ad e hb
 have h1 := szs_bd enc n x.bytes
 have h3 := hk.len
 have h5 := hk.cap
 simp only [cutR] at e ⊢
 split at e
 ·have := h ad e hb
  omega
 ·cases hA : x.A with
  | none => rw [hA] at e; cases e
  | some ad0 =>
   rw [hA] at e
   injection e with e
   have hb0 : add.ownBlock = some ad0.block := by rw [hb, <- e, block_of_add]
   have := h ad0 hA hb0
   have ho : ad.off = ad0.off + (szs enc x.bytes n).toNat := by
    rw [<- e]
    unfold Addr.add
    split
    ·rename_i h0; rw [h0]; rfl
    ·rfl
   omega
end
theorem found_split {enc : Int} {ps : List Pc} {at_ : Int} {i n : Nat} (hf : Found enc ps at_ i n) {p : Pc} (hp : ps[i]? = some p) (h0 : 0 <= at_) :
  n <= (dec enc p.bytes).length /\ (decL enc ps).take at_.toNat = decL enc (ps.take i) ++ (dec enc p.bytes).take n /\ (decL enc ps).drop at_.toNat = (dec enc p.bytes).drop n ++ decL enc (ps.drop (i + 1)) /\
  (atsL enc ps).take at_.toNat = atsL enc (ps.take i) ++ (atsP enc p).take n /\ (atsL enc ps).drop at_.toNat = (atsP enc p).drop n ++ atsL enc (ps.drop (i + 1)) := by
 obtain ⟨h1, h2, h3⟩ := hf
 have hlt : i < ps.length := by
  rcases Nat.lt_or_ge i ps.length with h | h
  ·exact h
  ·rw [List.getElem?_eq_none h] at hp; cases hp
 have hsp : ps = ps.take i ++ p :: ps.drop (i + 1) := by
  rw [List.getElem?_eq_getElem hlt] at hp
  injection hp with hp
  rw [<- hp, <- List.drop_eq_getElem_cons hlt, List.take_append_drop]
 have hn : n <= (dec enc p.bytes).length := by
  rcases Nat.lt_or_ge 0 n with h0 | h0
  ·obtain ⟨_, _, h5⟩ := h3 (by omega)
   have : ps.take (i + 1) = ps.take i ++ [p] := by rw [List.take_add_one, hp]; rfl
   rw [this, decL_app, List.length_append] at h5
   simp [decL] at h5 ⊢
   simp [decL] at h2
   omega
  ·omega
 have e0 : at_.toNat = (decL enc (ps.take i)).length + n := by omega
 have e1 : atsL enc [p] = atsP enc p := atsL_one enc p
 have e2 : (atsL enc (ps.take i)).length = (decL enc (ps.take i)).length := atsL_len enc _
 have e3 : (atsP enc p).length = (dec enc p.bytes).length := tagF_len _ _ _
 have d1 : decL enc ps = decL enc (ps.take i) ++ (dec enc p.bytes ++ decL enc (ps.drop (i + 1))) := by conv => lhs; rw [hsp, decL_app, decL_cons]
 have d2 : atsL enc ps = atsL enc (ps.take i) ++ (atsP enc p ++ atsL enc (ps.drop (i + 1))) := by
  conv => lhs; rw [hsp, atsL_app, show p :: ps.drop (i + 1) = [p] ++ ps.drop (i + 1) from rfl, atsL_app, e1]
 refine ⟨hn, ?_, ?_, ?_, ?_⟩
 ·rw [d1, e0, List.take_length_add_append, List.take_append_of_le_length hn]
 ·rw [d1, e0, List.drop_length_add_append, List.drop_append_of_le_length hn]
 ·rw [d2, e0, <- e2, List.take_length_add_append, List.take_append_of_le_length (by omega)]
 ·rw [d2, e0, <- e2, List.drop_length_add_append, List.drop_append_of_le_length (by omega)]
def headP (enc : Int) (ps : List Pc) (i n : Nat) : List Pc := match ps[i]? with | some p => if 0 < n then [cutL enc p n] else [] | none => []
def tailP (enc : Int) (ps : List Pc) (j m : Nat) : List Pc := match ps[j]? with | some p => if 0 < (sumsOf ((dec enc p.bytes).drop m)).atoms then [cutR enc p m] else [] | none => []
theorem head_law {enc : Int} {ps : List Pc} {at_ : Int} {i n : Nat} (hf : Found enc ps at_ i n) (h0 : 0 <= at_) :
  decL enc (ps.take i ++ headP enc ps i n) = (decL enc ps).take at_.toNat /\ atsL enc (ps.take i ++ headP enc ps i n) = (atsL enc ps).take at_.toNat := by
 unfold headP
 cases hp : ps[i]? with
 | none =>
  have hge : ps.length <= i := by
   rcases Nat.lt_or_ge i ps.length with h | h
   ·rw [List.getElem?_eq_getElem h] at hp; cases hp
   ·exact h
  obtain ⟨h1, h2, h3⟩ := hf
  have hz : at_ = 0 := by
   rcases Int.lt_or_le 0 at_ with h | h
   ·have := (h3 h).1; omega
   ·omega
  subst hz
  have hd : (decL enc (ps.take i)).length = 0 := by omega
  have hd2 : (atsL enc (ps.take i)).length = 0 := by rw [atsL_len]; exact hd
  simp only [List.append_nil, Int.toNat_zero, List.take_zero]
  exact ⟨List.eq_nil_of_length_eq_zero hd, List.eq_nil_of_length_eq_zero hd2⟩
 | some p =>
  obtain ⟨_, h1, _, h3, _⟩ := found_split hf hp h0
  rw [h1, h3]
  dsimp only
  split
  ·rw [decL_app, atsL_app, decL_cons, atsL_one, cutL_dec, cutL_ats]
   simp [decL]
  ·have hn : n = 0 := by omega
   subst hn
   simp
theorem tail_law {enc : Int} {ps : List Pc} {at_ : Int} {j m : Nat} (hf : Found enc ps at_ j m) (h0 : 0 <= at_) :
  decL enc (tailP enc ps j m ++ ps.drop (min (j + 1) ps.length)) = (decL enc ps).drop at_.toNat /\ atsL enc (tailP enc ps j m ++ ps.drop (min (j + 1) ps.length)) = (atsL enc ps).drop at_.toNat := by
 unfold tailP
 cases hp : ps[j]? with
 | none =>
  have hge : ps.length <= j := by
   rcases Nat.lt_or_ge j ps.length with h | h
   ·rw [List.getElem?_eq_getElem h] at hp; cases hp
   ·exact h
  obtain ⟨h1, h2, h3⟩ := hf
  have hz : at_ = 0 := by
   rcases Int.lt_or_le 0 at_ with h | h
   ·have := (h3 h).1; omega
   ·omega
  subst hz
  have he : ps.take j = ps := List.take_of_length_le hge
  rw [he] at h2
  have hd : (decL enc ps).length = 0 := by omega
  have hd2 : (atsL enc ps).length = 0 := by rw [atsL_len]; exact hd
  rw [Nat.min_eq_right (by omega), List.drop_length, List.eq_nil_of_length_eq_zero hd, List.eq_nil_of_length_eq_zero hd2]
  simp [decL, atsL]
 | some p =>
  obtain ⟨_, _, h2, _, h4⟩ := found_split hf hp h0
  have hlt : j < ps.length := (List.getElem?_eq_some_iff.1 hp).1
  rw [h2, h4, Nat.min_eq_left (by omega)]
  have hatoms : (sumsOf ((dec enc p.bytes).drop m)).atoms = (((dec enc p.bytes).drop m).length : Int) := (sumsOf_good' ((dec_pos enc _).drop m)).2.1
  have e3 : (atsP enc p).length = (dec enc p.bytes).length := tagF_len _ _ _
  dsimp only
  rw [hatoms]
  split
  ·rw [decL_app, atsL_app, decL_cons, atsL_one, cutR_dec, cutR_ats]
   simp [decL]
  ·have hz : ((dec enc p.bytes).drop m).length = 0 := by omega
   have hz2 : ((atsP enc p).drop m).length = 0 := by rw [List.length_drop, e3, <- List.length_drop]; exact hz
   rw [List.eq_nil_of_length_eq_zero hz, List.eq_nil_of_length_eq_zero hz2]
   simp
theorem head_mem {enc : Int} {ps : List Pc} {i n : Nat} {q : Pc} (h : q ∈ headP enc ps i n) : ∃ p, ps[i]? = some p /\ 0 < n /\ q = cutL enc p n := by
 unfold headP at h
 split at h
 ·rename_i p hp
  split at h
  ·rename_i h0
   exact ⟨p, hp, h0, List.mem_singleton.1 h⟩
  ·cases h
 ·cases h
theorem tail_mem {enc : Int} {ps : List Pc} {j m : Nat} {q : Pc} (h : q ∈ tailP enc ps j m) : ∃ p, ps[j]? = some p /\ m < (dec enc p.bytes).length /\ q = cutR enc p m := by
 unfold tailP at h
 split at h
 ·rename_i p hp
  split at h
  ·rename_i h0
   rw [(sumsOf_good' ((dec_pos enc p.bytes).drop m)).2.1, List.length_drop] at h0
   exact ⟨p, hp, by omega, List.mem_singleton.1 h⟩
  ·cases h
 ·cases h
structure FreshS (w0 : World) (B g bt bf bp bn : Nat) (enc lim : Int) (n0 : Nat) (add0 : Value) (a : Option Addr) (xs : List Value) (dn pd : List Int) (m : Nat) (ps : List Pc) (v add : Value) (w : World) : Prop where
 tx : Blk w g 88 #[.int .i64 enc, .int .i64 lim, .pointer a, add]
 row : w.ownsRow B 5 1 add (n0 + (putL enc dn).length + (putL enc pd).length) (xs ++ (putL enc dn ++ putL enc pd).map (Value.int .u8))
 step : TStep g add0 add n0 (n0 + (putL enc dn).length + (putL enc pd).length) w0 w
 tb : Blk w bt 39 #[.pointer (some ⟨g, 0, none⟩)]
 fb : Blk w bf 3 #[.int .i64 ((n0 + (putL enc dn).length : Nat) : Int)]
 pb : Blk w bp 89 #[v]
 nb : Blk w bn 3 #[.int .i64 ((m : Nat) : Int)]
 prow : w.ownsRow w0.heap.size 94 7 v ps.length (ps.flatMap fun p => p.cells.toList)
 pcs : PsIn w add (n0 + (putL enc dn).length + (putL enc pd).length) enc ps
 tag : ∀ p ∈ ps, p.tag = -1
 all : decL enc ps = withSz enc dn
 ge : w0.heap.size <= bt /\ w0.heap.size <= bf /\ w0.heap.size <= bp /\ w0.heap.size <= bn /\ bf ≠ bn
def newP (enc : Int) (ba F : Nat) (pd : List Int) : Pc := ⟨some ⟨ba, F, none⟩, (putL enc pd).length, (putL enc pd).length, -1, sumsOf (dec enc (putL enc pd)), putL enc pd⟩
def ShutPost (w0 : World) (B g bt bf bp bn : Nat) (enc lim : Int) (n0 : Nat) (add0 : Value) (a : Option Addr) (xs : List Value) (dn pd : List Int) (add : Value) (w : World) (e : Ending) (w' : World) : Prop :=
 e = .returned (.tuple #[]) /\ ∃ ps v, FreshS w0 B g bt bf bp bn enc lim n0 add0 a xs (dn ++ pd) [] 0 ps v add w'
section
variable {w0 w : World} {B g bt bf bp bn n0 : Nat} {enc lim : Int} {add0 add v : Value} {a : Option Addr} {xs : List Value} {dn pd : List Int} {m : Nat} {ps : List Pc}
theorem FreshS.shut {w1 : World} {ba cap : Nat} {v' : Value} (h : FreshS w0 B g bt bf bp bn enc lim n0 add0 a xs dn pd m ps v add w) (hr0 : w0.ownsRow B 5 1 add0 n0 xs) (hadd : add = .slice (some ⟨ba, 0, none⟩) (n0 + (putL enc dn).length + (putL enc pd).length) cap)
  (hd : dec enc (putL enc pd) = withSz enc pd) (hf : Fit enc pd) (hp : 0 < (putL enc pd).length) (hn : (putL enc pd).length <= 1048576)
  (hfr : Fr (OwnB v) w w1) (hown : w1.ownsRow w0.heap.size 94 7 v' (ps.length + 1) ((ps.flatMap fun p => p.cells.toList) ++ (newP enc ba (n0 + (putL enc dn).length) pd).cells.toList)) :
  FreshS w0 B g bt bf bp bn enc lim n0 add0 a xs (dn ++ pd) [] 0 (ps ++ [newP enc ba (n0 + (putL enc dn).length) pd]) v' add
   (((w1.setCell ⟨bp, 0, none⟩ v').setCell ⟨bf, 0, none⟩ (.int .i64 ((n0 + (putL enc dn).length + (putL enc pd).length : Nat) : Int))).setCell ⟨bn, 0, none⟩ (.int .i64 0)) := by
 obtain ⟨g1, g2, g3, g4, g5⟩ := h.ge
 have eL : (putL enc (dn ++ pd)).length = (putL enc dn).length + (putL enc pd).length := by rw [putL_app, List.length_append]
 have eN : n0 + (putL enc (dn ++ pd)).length + (putL enc ([] : List Int)).length = n0 + (putL enc dn).length + (putL enc pd).length := by rw [eL, putL_nil]; simp; omega
 have ov : ∀ {T : TypeId} {cs : Array Value} {b : Nat}, Blk w b T cs -> 94 ≠ T -> ¬ OwnB v b := fun hb hT => own_blk_ne h.prow hb hT
 have t1 := h.tx.fr hfr (ov h.tx (by decide))
 have t2 := h.tb.fr hfr (ov h.tb (by decide))
 have t3 := h.fb.fr hfr (ov h.fb (by decide))
 have t4 := h.pb.fr hfr (ov h.pb (by decide))
 have t5 := h.nb.fr hfr (ov h.nb (by decide))
 have n1 : g ≠ bp := Blk.ne_ t1 t4 (by decide)
 have n2 : g ≠ bf := Blk.ne_ t1 t3 (by decide)
 have n3 : g ≠ bn := Blk.ne_ t1 t5 (by decide)
 have n4 : bt ≠ bp := Blk.ne_ t2 t4 (by decide)
 have n5 : bt ≠ bf := Blk.ne_ t2 t3 (by decide)
 have n6 : bt ≠ bn := Blk.ne_ t2 t5 (by decide)
 have n7 : bp ≠ bf := Blk.ne_ t4 t3 (by decide)
 have n8 : bp ≠ bn := Blk.ne_ t4 t5 (by decide)
 have F : Fr (fun b => OwnB v b \/ b = bp \/ b = bf \/ b = bn) w (((w1.setCell ⟨bp, 0, none⟩ v').setCell ⟨bf, 0, none⟩ (.int .i64 ((n0 + (putL enc dn).length + (putL enc pd).length : Nat) : Int))).setCell ⟨bn, 0, none⟩ (.int .i64 0)) :=
  (((hfr.more (fun _ _ h => .inl h)).setCell (.inl (.inr (.inl rfl))) _).setCell (.inl (.inr (.inr (.inl rfl)))) _).setCell (.inl (.inr (.inr (.inr rfl)))) _
 have hva : ∀ b, add.ownBlock = some b -> ¬ (OwnB v b \/ b = bp \/ b = bf \/ b = bn) := by
  rintro b hb hs
  have hb1 : ∃ cs, Blk w b 5 cs := by
   rcases h.row.2 with ⟨rfl, _⟩ | ⟨q, c, cur, rfl, _, hq, _⟩
   ·cases hb
   ·have : q = b := by simpa [Value.ownBlock] using hb
    subst this
    exact ⟨cur, hq⟩
  obtain ⟨cs, hb1⟩ := hb1
  rcases hs with hs | rfl | rfl | rfl
  ·exact ov hb1 (by decide) hs
  ·exact Blk.ne_ hb1 h.pb (by decide) rfl
  ·exact Blk.ne_ hb1 h.fb (by decide) rfl
  ·exact Blk.ne_ hb1 h.nb (by decide) rfl
 have hfar : ∀ k, k < w.heap.size -> (OwnB v k \/ k = bp \/ k = bf \/ k = bn) -> Far w k := by
  rintro k _ (hk | rfl | rfl | rfl)
  ·exact Far.own h.prow hk (by decide)
  ·exact Far.blk h.pb (by decide)
  ·exact Far.blk h.fb (by decide)
  ·exact Far.blk h.nb (by decide)
 have hrow : World.ownsRow (((w1.setCell ⟨bp, 0, none⟩ v').setCell ⟨bf, 0, none⟩ (.int .i64 ((n0 + (putL enc dn).length + (putL enc pd).length : Nat) : Int))).setCell ⟨bn, 0, none⟩ (.int .i64 0)) B 5 1 add (n0 + (putL enc dn).length + (putL enc pd).length) (xs ++ (putL enc dn ++ putL enc pd).map (Value.int .u8)) := by
  refine ⟨h.row.1, ?_⟩
  rcases h.row.2 with h0 | ⟨r, c, cur, e, h1, h2, h3⟩
  ·exact .inl h0
  ·refine .inr ⟨r, c, cur, e, h1, ?_, h3⟩
   rw [F.block r (Array.getElem?_eq_some_iff.1 h2).1 (hva r (by rw [e]; rfl))]
   exact h2
 have hbts : Bts w Any (some ⟨ba, n0 + (putL enc dn).length, none⟩) (putL enc pd).length (putL enc pd) := by
  refine ⟨by simp, fun _ => ⟨_, rfl, trivial, fun j u hj => ?_⟩⟩
  rw [add_cell]
  have := h.row.cells (g := ba) (by rw [hadd]; rfl) (n0 + (putL enc dn).length + j) u (by
   have hx := hr0.1
   rw [List.getElem?_append_right (by omega), List.map_append, List.getElem?_append_right (by rw [List.length_map]; omega), List.length_map]
   rw [<- hj]
   congr 1
   omega)
  rw [add_cell, Nat.zero_add] at this
  exact this
 have hq : PsIn w add (n0 + (putL enc dn).length + (putL enc pd).length) enc [newP enc ba (n0 + (putL enc dn).length) pd] := by
  refine ⟨?_, ?_, ?_, ?_, ?_⟩
  all_goals
   intro p hp
   rw [List.mem_singleton] at hp
   subst hp
  ·exact ⟨putL_byt enc pd hf, rfl, hp, by simp only [newP]; omega, Nat.le_refl _, by simp [newP], by simp [newP], rfl⟩
  ·exact hbts
  ·intro ad e hb
   injection e with e
   subst e
   exact Nat.le_refl _
  ·simp only [newP]; omega
  ·intro ad e
   injection e with e
   subst e
   rcases h.row.2 with ⟨e0, _⟩ | ⟨q, c, cur, e0, _, hq, _⟩
   ·rw [e0] at hadd; cases hadd
   ·rw [hadd] at e0
    injection e0 with e0
    injection e0 with e0
    injection e0 with e0
    subst e0
    exact ⟨cur, hq⟩
 have hall : decL enc [newP enc ba (n0 + (putL enc dn).length) pd] = withSz enc pd := by
  rw [decL_cons, show decL enc [] = [] from rfl, List.append_nil]
  exact hd
 refine ⟨((t1.far n1 _).far n2 _).far n3 _, ?_, ?_, ((t2.far n4 _).far n5 _).far n6 _, ?_, ?_, ?_, ?_, ?_, ?_, ?_, h.ge⟩
 ·rw [eN, putL_app, putL_nil, List.append_nil]
  exact hrow
 ·rw [eN]
  exact h.step.loc F (by
   rintro b (hs | rfl | rfl | rfl)
   ·exact (h.prow.lt b hs).1
   all_goals assumption) hr0
 ·have := ((t3.far (p := ⟨bp, 0, none⟩) (Ne.symm n7) v').set_ 0 (.int .i64 ((n0 + (putL enc dn).length + (putL enc pd).length : Nat) : Int))).far (p := ⟨bn, 0, none⟩) g5 (.int .i64 0)
  refine this.eq_ ?_
  rw [eL, Nat.add_assoc]
  rfl
 ·exact (((t4.set_ 0 v').far n7 _).far n8 _).eq_ rfl
 ·exact (((t5.far (p := ⟨bp, 0, none⟩) (Ne.symm n8) v').far (p := ⟨bf, 0, none⟩) (Ne.symm g5) _).set_ 0 _).eq_ rfl
 ·have hne : ∀ {T : TypeId} {cs : Array Value} {b : Nat}, Blk w1 b T cs -> 94 ≠ T -> ∀ k, v'.ownBlock = some k -> b ≠ k := fun hb hT k hk e => own_blk_ne hown hb hT (e ▸ hk)
  rw [List.length_append, List.flatMap_append, List.flatMap_singleton]
  refine ⟨hown.1, ?_⟩
  rcases hown.2 with h0 | ⟨r, c, cur, e, h1, h2, h3⟩
  ·exact .inl h0
  ·refine .inr ⟨r, c, cur, e, h1, ?_, h3⟩
   have hk : v'.ownBlock = some r := by rw [e]; rfl
   rw [Below.heap_setCell _ _ _ r (Ne.symm (hne t5 (by decide) r hk)), Below.heap_setCell _ _ _ r (Ne.symm (hne t3 (by decide) r hk)), Below.heap_setCell _ _ _ r (Ne.symm (hne t4 (by decide) r hk))]
   exact h2
 ·rw [eN]
  exact (h.pcs.app hq).far F hfar
 ·intro p hp
  rcases List.mem_append.1 hp with hp | hp
  ·exact h.tag p hp
  ·rw [List.mem_singleton] at hp
   rw [hp]
   rfl
 ·rw [decL_app, h.all, hall]
  unfold withSz
  rw [List.map_append]
end
end Go.Proofs.YtflhiohjikgedaaGreatDoor
