/-
  copyistlaw12.same: are two lists equal? Tags of a text.
-/
import Derived.Test.YtkocknfhdojmbaaGreatLRf2
import Derived.Test.YtkocknfhdojmbaaGreatLRow
import Derived.Carry
import Derived.Laws.IdiomRangeMap
import Derived.Deep.AppendLies
import Derived.Deep.RegionLaw
import Derived.Test.YtkocknfhdojmbaaGreatLEnds
set_option linter.unusedSimpArgs false
set_option linter.unusedVariables false
set_option maxRecDepth 100000
set_option maxHeartbeats 32000000
namespace Go.Proofs.YtkocknfhdojmbaaGreat
open Go.RowKit
def Apart (u v : Value) : Prop := ∀ b, u.ownBlock = some b -> v.ownBlock ≠ some b
theorem Apart.symm {u v : Value} (h : Apart u v) : Apart v u := fun b h1 h2 => h b h2 h1
theorem own_lt {w : World} {base r : Nat} {e : TypeId} {size n : Nat} {v : Value} {xs : List Value} (h : w.ownsRow base e size v n xs) (hr : v.ownBlock = some r) : r < w.heap.size := by
 rcases h.2 with ⟨rfl, _⟩ | ⟨g', cap, cur, rfl, hb, hg, _⟩
 ·simp [Value.ownBlock] at hr
 ·have : g' = r := by simpa [Value.ownBlock] using hr
  subst this
  exact (Array.getElem?_eq_some_iff.1 hg).1
theorem Apart.grow {w : World} {base e size n : Nat} {u v u' : Value} {xs : List Value} (h : Apart u v) (hv : w.ownsRow base e size v n xs) (hu : u'.ownBlock = u.ownBlock \/ ∃ H, u'.ownBlock = some H /\ w.heap.size <= H) : Apart u' v := by
 intro b h1 h2
 rcases hu with hu | ⟨H, hu, hH⟩
 ·exact h b (hu ▸ h1) h2
 ·rw [hu] at h1
  injection h1 with h1
  have := own_lt hv h2
  omega
theorem ownsRow_grown {w w' : World} {row : Option Nat} {base e size n : Nat} {v : Value} {xs : List Value} (h : w.ownsRow base e size v n xs) (hg : w.grownBy w' row) (hne : ∀ b, v.ownBlock = some b -> row ≠ some b) : w'.ownsRow base e size v n xs := by
 refine ⟨h.1, ?_⟩
 rcases h.2 with h0 | ⟨g, cap, cur, rfl, h1, h2, h3⟩
 ·exact .inl h0
 ·refine .inr ⟨g, cap, cur, rfl, h1, ?_, h3⟩
  rw [hg.block g (Array.getElem?_eq_some_iff.1 h2).1 (fun e => hne g rfl e.symm)]
  exact h2
def RTx (w : World) (g : Nat) (enc lim : Int) (va vt : Value) : Prop := Blk w g 137 #[.int .i64 enc, .int .i64 lim, va, vt, .slice none 0 0]
def R5R (enc lim : Int) (l : List Int) (w : World) (k : Nat) (q9 : Value) (wr : World) : Prop :=
 ∃ (p : Nat) (pre : List (Int × Int)) (va vt : Value), q9 = .int .i64 (p : Int) /\ Hid (dec enc l = pre ++ dec enc (l.drop p) /\ (pre.map Prod.snd).sum = (p : Int)) /\ p <= l.length /\ pre.length <= p /\ l.length - p <= k /\ RTx wr w.heap.size enc lim va vt /\
  Hid (wr.ownsRow (w.heap.size + 1) 3 1 va pre.length ((pre.map Prod.fst).map (Value.int .i64))) /\ Hid (wr.ownsRow (w.heap.size + 1) 3 1 vt pre.length (((tagF 0 0 pre).map Prod.snd).map (Value.int .i64))) /\ Apart va vt /\ Below w.heap.size w wr /\ w.heap.size + 1 <= wr.heap.size
def RText (w : World) (B g : Nat) (enc lim : Int) (ats tgs : List Int) : Prop :=
 ∃ va vt, RTx w g enc lim va vt /\ w.ownsRow B 3 1 va ats.length (ats.map (Value.int .i64)) /\ w.ownsRow B 3 1 vt tgs.length (tgs.map (Value.int .i64))
def R5Post (enc lim : Int) (l : List Int) (w : World) (e : Ending) (w' : World) : Prop :=
 e = .returned (.tuple #[.pointer (some ⟨w.heap.size, 0, none⟩), .int .i64 0]) /\ RText w' w.heap.size w.heap.size enc lim ((dec enc l).map Prod.fst) ((tagF 0 0 (dec enc l)).map Prod.snd) /\ Below w.heap.size w w'
theorem ownsRow_le {w : World} {B B' e size n : Nat} {v : Value} {xs : List Value} (h : w.ownsRow B e size v n xs) (hB : B' <= B) : w.ownsRow B' e size v n xs := by
 refine ⟨h.1, ?_⟩
 rcases h.2 with h0 | ⟨g, cap, cur, rfl, h1, h2⟩
 ·exact .inl h0
 ·exact .inr ⟨g, cap, cur, rfl, Nat.le_trans hB h1, h2⟩
theorem own_set_other {w : World} {B e size n g i : Nat} {t : TypeId} {cs : Array Value} {v u : Value} {xs : List Value} (h : w.ownsRow B e size v n xs) (hg : Blk w g t cs) (hne : e ≠ t) : (w.setCell ⟨g, i, none⟩ u).ownsRow B e size v n xs :=
 ownsRow_setCell_other h (own_blk_ne h hg hne) _
theorem cell_one_new' (w : World) (v : Value) (T : TypeId) {H : Nat} (hH : w.heap.size = H) : ∀ j u, [v][j]? = some u -> (w.alloc (.cells #[v] T)).cell? ((⟨H, 0, none⟩ : Addr).add j) = some u := by
 subst hH
 exact cell_one_new _ _ _
theorem r5open_any (enc lim : Int) (D : Nat -> Prop) (A : Option Addr) (n c : Nat) (l : List Int) (w : World) (he : enc = 1 \/ enc = 2 \/ enc = 3 \/ enc = 4) (hl : Bts w D A n l) (hB : Byt l) (hlim : (n : Int) <= lim /\ lim <= 65536) (hcap : n <= c) :
  Calls Tryz.prog 122 #[.int .i64 enc, .slice A n c, .int .i64 lim] w fun e w' => R5Post enc lim l w e w' := by
 have hle := hl.len
 have hn : n <= 65536 := by omega
 have q2 : (lim < 0) = False := by simp; omega
 have q3 : (65536 < lim) = False := by simp; omega
 have q4 : (lim < (n : Int)) = False := by simp; omega
 have q0 : (enc < 1) = False := by simp; omega
 have q1 : (4 < enc) = False := by simp; omega
 obtain ⟨i0, hi, hz0, hz1, hz2⟩ := info_parts int_info
 have HE := Lib.hid he
 clear he
 go_enter Tryz.func122, Tryz.ntmps122
 go_wp2_with fail
 go_loopg [9] n (fun k q wr => R5R enc lim l w k q wr)
 case atStart =>
  refine ⟨0, [], .slice none 0 0, .slice none 0 0, rfl, Lib.hid ⟨by simp, rfl⟩, Nat.zero_le _, Nat.le_refl _, by omega, Blk.new w _ _, Lib.hid (World.ownsRow_nil _ _ _ _), Lib.hid (World.ownsRow_nil _ _ _ _), fun b h => by simp [Value.ownBlock] at h, balloc (Below.refl _ _), by simp⟩
 case round =>
  obtain ⟨p, pre, va, vt, rfl, hpre, hpl, hprel, hk, hT, hoA, hoT, hap, hb, hsz⟩ := hrel
  by_cases hlt : p < n
  ·have hz := sizeAt_bd enc (l.drop p) (by rw [List.length_drop]; omega)
   have hcn := rnext_any enc D A n c p l wr HE.out (Reads.below hl hb) hB (by omega) hcap hlt
   have hdc := dec_cons enc (l.drop p) (by rw [List.length_drop]; omega)
   obtain ⟨a, ha⟩ : ∃ a, atomAt enc (l.drop p) = a := ⟨_, rfl⟩
   obtain ⟨z, hzz⟩ : ∃ z : Nat, sizeAt enc (l.drop p) = (z : Int) := ⟨(sizeAt enc (l.drop p)).toNat, by omega⟩
   rw [ha, hzz] at hcn hdc
   rw [hzz, List.length_drop] at hz
   rw [List.drop_drop, Int.toNat_natCast] at hdc
   have HC := Lib.hid hcn
   have HD := Lib.hid hdc
   clear hcn hdc ha hzz
   go_wp2_with fail
   refine (HC.out).mono ?_
   rintro e w3 ⟨rfl, hb3⟩
   have hT3 := hT.below hb3
   have hA3 := ownsRow_below hoA.out hb3
   have hT3' := ownsRow_below hoT.out hb3
   have hs3 := hb3.size
   have hb13 := bseq hb hb3
   have c2 := hT3.cell 2
   have f2 := hT3.frozen 2
   have c3 := hT3.cell 3
   simp at c2 c3
   have q5 : ((z : Int) < 1) = False := by simp; omega
   have HA3 := Lib.hid hA3
   have HT3 := Lib.hid hT3'
   clear hA3 hT3'
   have hglt := hT3.lt
   go_wp2_with (at_builtin; refine wpList_append_own_at _ rfl (.tmp 49) (.tmp 51) 35 rfl (w.heap.size + 1) 3 i0 (.int .i64 0) 1 8 Tryz.underlying35 hi hz0 hz1 hz2 rfl (by decide) va pre.length _ rfl (HA3.out.alloc _) ⟨w3.heap.size, 0, none⟩ 1 1 [.int .i64 a] rfl rfl (cell_one_new _ _ _) (by simp [Value.oneCell']) (by unfold maxLen; omega) (by omega) (by simp; omega) ?_)
   intro va' w4 hoA4 hgr _ hat
   have hT4 : Blk w4 w.heap.size 137 _ := (hT3.alloc _).grown hgr (fun e => own_blk_ne HA3.out hT3 (by decide) e.symm)
   have hoT4 := ownsRow_grown (HT3.out.alloc _) hgr (fun b h1 h2 => hap b h2 h1)
   have hap4 : Apart va' vt := hap.grow HT3.out (hat.imp id (fun h => ⟨_, h, by simp⟩))
   have hb4 : Below w.heap.size w w4 := below_grown2 (balloc hb13) hgr (fun k hk => by have := own_ge HA3.out hk; omega)
   have hz4 : w.heap.size + 1 <= w4.heap.size := by have := hgr.size; simp at this; omega
   have hpw4 : w3.heap.size <= w4.heap.size := by have := hgr.size; simp at this; omega
   have d2 := hT4.cell 2
   have g2 := hT4.frozen 2
   have hT5 := hT4.set_ 2 va'
   have hoA5 := own_set_other (i := 2) (u := va') hoA4 hT4 (by decide)
   have hoT5 := own_set_other (i := 2) (u := va') hoT4 hT4 (by decide)
   have hb5 : Below w.heap.size w (w4.setCell ⟨w.heap.size, 2, none⟩ va') := hb4.setCell (Nat.le_refl _) _
   simp at d2
   have HA4 := Lib.hid hoA4
   have HA5 := Lib.hid hoA5
   have HT5 := Lib.hid hoT5
   have e5 := hT5.cell 3
   have e6 := hT5.frozen 3
   simp at e5
   obtain ⟨r, cap, hva, _, _⟩ := hoA4.form (by omega)
   subst hva
   clear hoA4 hoT4 hgr hat hoA5 hoT5 c2 c3 f2
   go_wp2_with (at_builtin; refine wpList_append_own_at _ rfl (.tmp 59) (.tmp 61) 35 rfl (w.heap.size + 1) 3 i0 (.int .i64 0) 1 8 Tryz.underlying35 hi hz0 hz1 hz2 rfl (by decide) vt pre.length _ rfl (HT5.out.alloc _) ⟨w4.heap.size, 0, none⟩ 1 1 [.int .i64 (p : Int)] rfl rfl (cell_one_new' _ _ _ (by simp [World.setCell])) (by simp [Value.oneCell']) (by unfold maxLen; omega) (by omega) (by simp; omega) ?_)
   intro vt' w6 hoT6 hgr _ hat
   have hT6 : Blk w6 w.heap.size 137 _ := (hT5.alloc _).grown hgr (fun e => own_blk_ne HT5.out hT5 (by decide) e.symm)
   have hoA6 := ownsRow_grown (HA5.out.alloc _) hgr (fun b h1 h2 => hap4 b h1 h2)
   have hap6 : Apart vt' (.slice (some ⟨r, 0, none⟩) (pre.length + 1) cap) := hap4.symm.grow HA5.out (hat.imp id (fun h => ⟨_, h, by simp⟩))
   have hb6 : Below w.heap.size w w6 := below_grown2 (balloc hb5) hgr (fun k hk => by have := own_ge HT5.out hk; omega)
   have hz6 : w.heap.size + 1 <= w6.heap.size := by have := hgr.size; simp [World.setCell] at this; omega
   obtain ⟨r2, cap2, hvt, _, _⟩ := hoT6.form (by omega)
   subst hvt
   have d3 := hT6.cell 3
   have g3 := hT6.frozen 3
   simp at d3
   have hT7 := hT6.set_ 3 (.slice (some ⟨r2, 0, none⟩) (pre.length + 1) cap2)
   have hoA7 := own_set_other (i := 3) (u := .slice (some ⟨r2, 0, none⟩) (pre.length + 1) cap2) hoA6 hT6 (by decide)
   have hoT7 := own_set_other (i := 3) (u := .slice (some ⟨r2, 0, none⟩) (pre.length + 1) cap2) hoT6 hT6 (by decide)
   have hb7 : Below w.heap.size w (w6.setCell ⟨w.heap.size, 3, none⟩ (.slice (some ⟨r2, 0, none⟩) (pre.length + 1) cap2)) := hb6.setCell (Nat.le_refl _) _
   have HA7 := Lib.hid hoA7
   have HT7 := Lib.hid hoT7
   clear hoT6 hoA6 hgr hat hoA7 hoT7 e5 e6 d2 g2 hi hz0 hz1 hz2
   go_wp2_with fail
   go_roundg (n - (p + z))
   case measure => omega
   case rel =>
    refine ⟨p + z, pre ++ [(a, (z : Int))], _, _, by go_num, Lib.hid ⟨?_, ?_⟩, by omega, by simp; omega, by omega, hT7.eq_ rfl, Lib.hid ?_, Lib.hid ?_, hap6.symm, hb7, by simpa [World.setCell] using hz6⟩
    ·rw [hpre.out.1, HD.out, List.append_assoc]; rfl
    ·rw [List.map_append, List.sum_append, hpre.out.2]; simp
    ·have := HA7.out
     simpa using this
    ·have := HT7.out
     rw [tagF_app, hpre.out.2]
     simpa [tagF] using this
  ·obtain rfl : p = l.length := by omega
   have hp := hpre.out
   rw [List.drop_length, dec_nil, List.append_nil] at hp
   go_wp2_with fail
   go_ret2
   refine ⟨rfl, ⟨va, vt, hT, ?_, ?_⟩, hb⟩ <;> rw [hp.1]
   ·rw [List.length_map]; exact ownsRow_le hoA.out (by omega)
   ·rw [List.length_map, tagF_len]; exact ownsRow_le hoT.out (by omega)
def openErr (enc lim : Int) (n : Nat) : Int := if enc < 1 \/ 4 < enc then 10 else if lim < 0 \/ 65536 < lim then 1 else if lim < (n : Int) then 50 else 0
theorem openErr_ok {enc lim : Int} {n : Nat} (h : openErr enc lim n = 0) : (enc = 1 \/ enc = 2 \/ enc = 3 \/ enc = 4) /\ (n : Int) <= lim /\ lim <= 65536 := by
 unfold openErr at h
 split at h
 ·cases h
 ·split at h
  ·cases h
  ·split at h
   ·cases h
   ·omega
def EmptyMap (w : World) (r : Nat) : Prop := w.heap[r]? = some (.map #[] 0)
theorem EmptyMap.lt {w : World} {r : Nat} (h : EmptyMap w r) : r < w.heap.size := (Array.getElem?_eq_some_iff.1 h).1
theorem EmptyMap.below {w w' : World} {r : Nat} (h : EmptyMap w r) (hb : Below w.heap.size w w') : EmptyMap w' r := (hb.block r h.lt).trans h
theorem EmptyMap.fr {w w' : World} {S : Nat -> Prop} {r : Nat} (h : EmptyMap w r) (hb : Fr S w w') (hn : ¬ S r) : EmptyMap w' r := (hb.block r h.lt hn).trans h
theorem EmptyMap.alloc {w : World} {r : Nat} (h : EmptyMap w r) (o : Obj) : EmptyMap (w.alloc o) r := (Below.heap_alloc w o r h.lt).trans h
theorem EmptyMap.far {w : World} {r : Nat} (h : EmptyMap w r) {p : Addr} (hp : r ≠ p.block) (u : Value) : EmptyMap (w.setCell p u) r := (Below.heap_setCell w p u r hp).trans h
theorem EmptyMap.ne_blk {w : World} {r g : Nat} {T : TypeId} {cs : Array Value} (h : EmptyMap w r) (hb : Blk w g T cs) : r ≠ g := by
 rintro rfl
 unfold EmptyMap at h
 unfold Blk at hb
 rw [h] at hb
 cases hb
theorem EmptyMap.new (w : World) : EmptyMap (w.alloc (.map #[] 0)) w.heap.size := heap_alloc_new w _
theorem EmptyMap.range {w : World} {r : Nat} {t k e : TypeId} (h : EmptyMap w r) (ht : Tryz.prog.underlying t = some (.map k e)) : (Instr.range t (.map (some r))).run Tryz.prog w = .ok (.pointer (some ⟨w.heap.size, 0, none⟩)) (w.alloc (.mapIter (some r) 0 #[] 0)) := run_range_map w t k e r #[] 0 ht h
theorem EmptyMap.next {w : World} {r : Nat} (h : EmptyMap w r) (ty : TypeId) : (Instr.next (.pointer (some ⟨w.heap.size, 0, none⟩)) false ty).run Tryz.prog (w.alloc (.mapIter (some r) 0 #[] 0)) = .ok (.tuple #[.bool false]) (w.alloc (.mapIter (some r) 0 #[] 0)) := by
 rcases run_next_map (P := Tryz.prog) w ty r 0 0 #[] #[] 0 h (fun x hx => by cases hx) (Nat.le_refl _) with ⟨_, hr⟩ | ⟨e, he, _⟩
 ·exact hr
 ·simp [leftOf] at he
theorem Blk.new' {w : World} {t : TypeId} {cs : Array Value} {H : Nat} (h : w.heap.size = H) : Blk (w.alloc (.cells cs t)) H t cs := h ▸ Blk.new w t cs
def noU8 : Value -> Bool
 | .int .u8 _ => false
 | _ => true
def NoU8 (cs : Array Value) : Prop := cs.toList.all noU8 = true
theorem NoU8.ne {cs : Array Value} (h : NoU8 cs) (i : Nat) (x : Int) : cs[i]? ≠ some (Value.int .u8 x) := by
 intro hx
 have h1 := List.all_eq_true.1 h (Value.int .u8 x) (by rw [<- Array.getElem?_toList] at hx; exact List.mem_of_getElem? hx)
 cases h1
theorem cell_in_blk {w : World} {g : Nat} {T : TypeId} {cs : Array Value} (hb : Blk w g T cs) {p : Addr} {v : Value} (hp : p.block = g) (h : w.cell? p = some v) : cs[p.off]? = some v := by
 subst hp
 unfold World.cell? at h
 rw [show w.heap[p.block]? = _ from hb] at h
 dsimp only at h
 split at h
 ·cases h
 ·exact h
theorem Bts.other {w w' : World} {D : Nat -> Prop} {A : Option Addr} {n k : Nat} {l : List Int} {T : TypeId} {cs : Array Value} (h : Bts w D A n l) (hf : Fr (· = k) w w') (hb : Blk w k T cs) (hu : NoU8 cs) : Bts w' D A n l := by
 refine ⟨h.1, fun hn => ?_⟩
 obtain ⟨ad, e, hd, hc⟩ := h.2 hn
 refine ⟨ad, e, hd, fun j u hj => ?_⟩
 have h1 := hc j u hj
 have h2 : (ad.add j).block ≠ k := by
  intro hk
  have h3 := cell_in_blk hb hk h1
  rw [List.getElem?_map] at hj
  cases hl : l[j]? with
  | none => rw [hl] at hj; cases hj
  | some x =>
   rw [hl] at hj
   injection hj with hj
   rw [<- hj] at h3
   exact hu.ne _ _ h3
 exact (World.cell?_of_block (w := w) (hf.block _ (lt_of_cell h1) h2)).trans h1
theorem TextIn.other {w w' : World} {D : Nat -> Prop} {g k : Nat} {enc lim : Int} {t : Tr} {a : Option Addr} {add : Value} {T : TypeId} {cs : Array Value} (h : TextIn w D g enc lim t a add) (hf : Fr (· = k) w w') (hb : Blk w k T cs) (h1 : T ≠ 114) (h2 : T ≠ 192) (hu : NoU8 cs) : TextIn w' D g enc lim t a add :=
 ⟨h.blk.fr hf (fun e => Blk.ne_ hb h.blk h1 e.symm), h.enc4, NodeAt.keepBut (KeepBut.of_fr hf hb) h2 t a h.node, h.len, h.tot, h.ok, fun p hp => Bts.other (h.bts p hp) hf hb hu⟩
theorem TextL.other {w w' : World} {D : Nat -> Prop} {g k : Nat} {enc lim : Int} {ds ats : List (Int × Int)} {T : TypeId} {cs : Array Value} (h : TextL w D g enc lim ds ats) (hf : Fr (· = k) w w') (hb : Blk w k T cs) (h1 : T ≠ 114) (h2 : T ≠ 192) (hu : NoU8 cs) (h3 : T ≠ 5 := by decide) : TextL w' D g enc lim ds ats := by
 obtain ⟨t, a, add, h, hus, e⟩ := h
 refine ⟨t, a, add, h.other hf hb h1 h2 hu, fun p hp ad he => ?_, e⟩
 obtain ⟨cs', hc⟩ := hus p hp ad he
 exact ⟨cs', hc.fr hf (fun e => Blk.ne_ hb hc h3 e.symm)⟩
def BookAt (w : World) (gb gt m : Nat) (depth : Int) : Prop :=
 Blk w gb 83 #[.pointer (some ⟨gt, 0, none⟩), .int .i64 depth, .slice none 0 0, .slice none 0 0, .map (some m), .slice none 0 0, .pointer none, .int .i64 0, .int .i64 0, .int .i64 0] /\ EmptyMap w m
def bookErr (enc lim depth : Int) (n : Nat) : Int := if depth < 1 \/ 200 < depth then 1 else openErr enc lim n
def HOpenPost (enc lim depth : Int) (l : List Int) (w : World) (e : Ending) (w' : World) : Prop :=
 ∃ gb gt m, e = .returned (.tuple #[.pointer (some ⟨gb, 0, none⟩), .int .i64 0]) /\ BookAt w' gb gt m depth /\ TextL w' (fun b => w.heap.size <= b) gt enc lim (dec enc l) (tagF 0 0 (dec enc l)) /\ w.heap.size <= gb /\ w.heap.size <= gt /\ w.heap.size <= m /\ Below w.heap.size w w'
theorem hopen_any (enc lim depth : Int) (D : Nat -> Prop) (A : Option Addr) (n c : Nat) (l : List Int) (w : World) (hl : Bts w D A n l) (hB : Byt l) (hcap : n <= c) (h0 : bookErr enc lim depth n = 0) :
  Calls Tryz.prog 77 #[.int .i64 enc, .slice A n c, .int .i64 lim, .int .i64 depth] w fun e w' => HOpenPost enc lim depth l w e w' := by
 have hd : ¬ (depth < 1 \/ 200 < depth) := by
  intro h
  unfold bookErr at h0
  rw [if_pos h] at h0
  cases h0
 have ho : openErr enc lim n = 0 := by
  unfold bookErr at h0
  rw [if_neg hd] at h0
  exact h0
 obtain ⟨he, hlim⟩ := openErr_ok ho
 have hc := open_any enc lim D A n c l w he hl hB hlim hcap
 have q0 : (depth < 1) = False := by simp; omega
 have q1 : (200 < depth) = False := by simp; omega
 have hmm := @run_makeMap Tryz.prog
 have HC := Lib.hid hc
 clear hc ho he h0 hd
 go_enter Tryz.func77, Tryz.ntmps77
 go_wp2_with fail
 refine (HC.out).mono ?_
 rintro e w1 ⟨gt, rfl, hT, hg, hb1⟩
 go_wp2_with fail
 go_ret2
 have hs := hb1.size
 refine ⟨_, gt, w1.heap.size, rfl, ⟨Blk.new' (by simp), (EmptyMap.new w1).alloc _⟩, hT.below (balloc (balloc (Below.refl _ _))), Nat.le_succ_of_le hs, hg, hs, balloc (balloc hb1)⟩
def BankAt (w : World) (gk mk : Nat) : Prop := Blk w gk 126 #[.map (some mk), .int .i64 0] /\ EmptyMap w mk
def BankPost (w : World) (e : Ending) (w' : World) : Prop := ∃ gk mk, e = .returned (.pointer (some ⟨gk, 0, none⟩)) /\ BankAt w' gk mk /\ w.heap.size <= gk /\ w.heap.size <= mk /\ Below w.heap.size w w'
theorem bank_any (w : World) : Calls Tryz.prog 78 #[] w fun e w' => BankPost w e w' := by
 have hmm := @run_makeMap Tryz.prog
 go_enter Tryz.func78, Tryz.ntmps78
 go_wp2_with fail
 go_ret
 exact ⟨_, w.heap.size, rfl, ⟨Blk.new' (by simp), (EmptyMap.new w).alloc _⟩, Nat.le_succ _, Nat.le_refl _, balloc (balloc (Below.refl _ _))⟩
def natF (A : List Int) (fb : Int) : Int := if brk1 A = 0 then fb else brk1 A
theorem lnative_any (D : Nat -> Prop) (g : Nat) (enc : Int) (ds : List (Int × Int)) (fb : Int) (w : World) (h : TextAt w D g enc ds) :
  Calls Tryz.prog 79 #[.pointer (some ⟨g, 0, none⟩), .int .i64 fb] w fun e w' => e = .returned (.int .i64 (natF (ds.map Prod.fst) fb)) /\ Below w.heap.size w w' := by
 have hat := at_line D g enc ds 0 w h (Nat.zero_le _)
 have hbr := lineF_brk h.pos
 obtain ⟨L, hL⟩ : ∃ L, lineF ds 0 = L := ⟨_, rfl⟩
 rw [hL] at hat hbr
 have hfin : natF (ds.map Prod.fst) fb = if L.brk = 0 then fb else L.brk := by unfold natF; rw [<- hbr]
 rw [hfin]
 obtain ⟨x0, x1, x2, x3⟩ := L
 unfold Ln.cells at hat
 dsimp only at hat ⊢
 have HAT := Lib.hid hat
 clear hat hbr hL hfin
 go_enter Tryz.func79, Tryz.ntmps79
 go_wp2_with fail
 refine (HAT.out).mono ?_
 rintro e w1 ⟨rfl, hb1⟩
 by_cases h0 : x3 = 0
 ·have q : (x3 != 0) = false := by simp [h0]
  go_wp2_with fail
  go_ret
  exact ⟨rfl, balloc hb1⟩
 ·have q : (x3 != 0) = true := by rw [bne_iff_ne]; exact h0
  go_wp2_with fail
  go_ret
  exact ⟨rfl, balloc hb1⟩
def DeskAt (w : World) (gd gb gk : Nat) (native : Int) : Prop :=
 Blk w gd 41 #[.pointer (some ⟨gb, 0, none⟩), .pointer (some ⟨gk, 0, none⟩), .int .i64 0, .slice none 0 0, .slice none 0 0, .slice none 0 0, .int .i64 0, .bool false, .bool false, .int .i64 native]
def newErr (enc lim native depth : Int) (n : Nat) : Int := if native < 1 \/ 3 < native then 1 else bookErr enc lim depth n
structure NewDesk (B : Nat) (enc lim native depth : Int) (l : List Int) (w' : World) (gd gb gt m gk mk : Nat) : Prop where
 desk : DeskAt w' gd gb gk (natF ((dec enc l).map Prod.fst) native)
 book : BookAt w' gb gt m depth
 text : TextL w' (fun b => B <= b) gt enc lim (dec enc l) (tagF 0 0 (dec enc l))
 bank : BankAt w' gk mk
 ge : B <= gd /\ B <= gb /\ B <= gt /\ B <= m /\ B <= gk /\ B <= mk
def NewPost (enc lim native depth : Int) (l : List Int) (w : World) (e : Ending) (w' : World) : Prop :=
 ∃ gd gb gt m gk mk, e = .returned (.tuple #[.pointer (some ⟨gd, 0, none⟩), .int .i64 0]) /\ NewDesk w.heap.size enc lim native depth l w' gd gb gt m gk mk /\ Below w.heap.size w w'
theorem btext_any (w : World) (gb gt : Nat) (cs : Array Value) (h : Blk w gb 83 cs) (h0 : cs[0]? = some (.pointer (some ⟨gt, 0, none⟩))) :
  Calls Tryz.prog 8 #[.pointer (some ⟨gb, 0, none⟩)] w fun e w' => e = .returned (.pointer (some ⟨gt, 0, none⟩)) /\ w = w' := by
 have c0 := h.cell 0
 rw [h0] at c0
 go_enter Tryz.func8, Tryz.ntmps8
 go_wp2_with fail
 go_ret
 exact ⟨rfl, rfl⟩
theorem onew_any (enc lim native depth : Int) (D : Nat -> Prop) (A : Option Addr) (n c : Nat) (l : List Int) (w : World) (hl : Bts w D A n l) (hB : Byt l) (hcap : n <= c) (h0 : newErr enc lim native depth n = 0) :
  Calls Tryz.prog 26 #[.int .i64 enc, .slice A n c, .int .i64 lim, .int .i64 native, .int .i64 depth] w fun e w' => NewPost enc lim native depth l w e w' := by
 have hd : ¬ (native < 1 \/ 3 < native) := by
  intro h
  unfold newErr at h0
  rw [if_pos h] at h0
  cases h0
 have ho : bookErr enc lim depth n = 0 := by
  unfold newErr at h0
  rw [if_neg hd] at h0
  exact h0
 have hc := hopen_any enc lim depth D A n c l w hl hB hcap ho
 have q0 : (native < 1) = False := by simp; omega
 have q1 : (3 < native) = False := by simp; omega
 have HC := Lib.hid hc
 clear hc ho h0 hd
 go_enter Tryz.func26, Tryz.ntmps26
 go_wp2_with fail
 refine (HC.out).mono ?_
 rintro e w1 ⟨gb, gt, m, rfl, ⟨hbk, hm⟩, hT, h1, h2, h3, hb1⟩
 go_wp2_with fail
 refine (bank_any w1).mono ?_
 rintro e w2 ⟨gk, mk, rfl, ⟨hgk, hmk⟩, h4, h5, hb2⟩
 have hs1 := hb1.size
 have hs2 := hb2.size
 have hbk2 := (hbk.below hb2).alloc (.cells #[.pointer (some ⟨gb, 0, none⟩), .pointer (some ⟨gk, 0, none⟩), .int .i64 0, .slice none 0 0, .slice none 0 0, .slice none 0 0, .int .i64 0, .bool false, .bool false, .int .i64 0] 41)
 have hD := Blk.new w2 41 #[.pointer (some ⟨gb, 0, none⟩), .pointer (some ⟨gk, 0, none⟩), .int .i64 0, .slice none 0 0, .slice none 0 0, .slice none 0 0, .int .i64 0, .bool false, .bool false, .int .i64 0]
 have hb3 : Below w2.heap.size w2 (w2.alloc (.cells #[.pointer (some ⟨gb, 0, none⟩), .pointer (some ⟨gk, 0, none⟩), .int .i64 0, .slice none 0 0, .slice none 0 0, .slice none 0 0, .int .i64 0, .bool false, .bool false, .int .i64 0] 41)) := balloc (Below.refl _ _)
 go_wp2_with fail
 obtain ⟨w3, hw3⟩ : ∃ x, w2.alloc (.cells #[.pointer (some ⟨gb, 0, none⟩), .pointer (some ⟨gk, 0, none⟩), .int .i64 0, .slice none 0 0, .slice none 0 0, .slice none 0 0, .int .i64 0, .bool false, .bool false, .int .i64 0] 41) = x := ⟨_, rfl⟩
 rw [hw3] at hbk2 hD hb3
 rw [hw3]
 have hT3 := (hT.below hb2).below hb3
 have hn := fun (wy : World) (hy : Below w3.heap.size w3 wy) => lnative_any _ gt enc (dec enc l) native wy (hT3.at_.below hy)
 obtain ⟨N, hN⟩ : ∃ N, natF ((dec enc l).map Prod.fst) native = N := ⟨_, rfl⟩
 rw [hN] at hn
 have HN := Lib.hid hn
 have HNN := Lib.hid hN
 clear hn hN hw3
 refine (btext_any w3 gb gt _ hbk2 rfl).mono ?_
 rintro e w4 ⟨rfl, rfl⟩
 go_wp2_with fail
 refine (HN.out _ (Below.refl _ _)).mono ?_
 rintro e w4 ⟨rfl, hb4⟩
 have hD4 := hD.below hb4
 have f9 := hD4.frozen 9
 have c9 := hD4.cell 9
 simp at c9
 go_wp2_with fail
 go_ret2
 have hne : ∀ {g : Nat}, g < w2.heap.size -> g ≠ w2.heap.size := fun h => Nat.ne_of_lt h
 have hbw4 : Below w.heap.size w w4 := bseq (bseq (bseq hb1 hb2) hb3) hb4
 have hmlt := hm.lt
 have hmklt := hmk.lt
 refine ⟨w2.heap.size, gb, gt, m, gk, mk, rfl, ⟨?_, ⟨?_, ?_⟩, ?_, ⟨?_, ?_⟩, by omega⟩, hbw4.setCell (by simp; omega) _⟩
 ·rw [HNN.out]
  exact hD4.set_ 9 _
 ·exact (hbk2.below hb4).far (by have := hbk.lt; simp; omega) _
 ·exact (((hm.below hb2).below hb3).below hb4).far (by simp; omega) _
 ·refine (hT3.below hb4).other ((Fr.refl _ _).set1 9 _) hD4 (by decide) (by decide) rfl
 ·exact ((hgk.below hb3).below hb4).far (by have := hgk.lt; simp; omega) _
 ·exact ((hmk.below hb3).below hb4).far (by simp; omega) _
theorem clone_nil (w : World) : Calls Tryz.prog 73 #[.slice none 0 0] w fun e w' => e = .returned (.slice none 0 0) /\ w = w' := by
 have ke := fun (w : World) => Lib.run_eql_slice_nil (P := Tryz.prog) w 35 3 none 0 0 0 0 Tryz.underlying35
 simp only [Option.isNone_none] at ke
 go_enter Tryz.func73, Tryz.ntmps73
 go_wp2_with fail
 go_ret
 exact ⟨rfl, rfl⟩
def RBankPost (w : World) (e : Ending) (w' : World) : Prop := ∃ g, e = .returned (.pointer (some ⟨g, 0, none⟩)) /\ w.heap.size <= g /\ Below w.heap.size w w'
theorem rbank_any (w : World) : Calls Tryz.prog 75 #[] w fun e w' => RBankPost w e w' := by
 go_enter Tryz.func75, Tryz.ntmps75
 go_wp2_with fail
 go_ret
 exact ⟨_, rfl, Nat.le_refl _, balloc (Below.refl _ _)⟩
def rbookC (enc lim depth : Int) (gt : Nat) (ld : Value) : Array Value :=
 #[.int .i64 enc, .int .i64 lim, .int .i64 depth, ld, .pointer (some ⟨gt, 0, none⟩), .slice none 0 0, .slice none 0 0, .int .i64 0, .slice none 0 0, .slice none 0 0, .bool false, .slice none 0 0, .int .i64 0, .int .i64 0, .int .i64 0, .slice none 0 0, .slice none 0 0, .int .i64 0, .int .i64 0]
def R7R (enc lim depth : Int) (l : List Int) (gt gb : Nat) (wb : World) (k : Nat) (q13 : Value) (wr : World) : Prop :=
 ∃ (i : Nat) (ld : Value), q13 = .int .i64 (i : Int) /\ i <= l.length /\ l.length - i <= k /\ Blk wr gb 145 (rbookC enc lim depth gt ld) /\ Hid (wr.ownsRow (gb + 1) 5 1 ld i ((l.take i).map (Value.int .u8))) /\ Below gb wb wr /\ gb + 1 <= wr.heap.size
def R7Post (enc lim depth : Int) (l : List Int) (w : World) (e : Ending) (w' : World) : Prop :=
 ∃ gb gt ld, e = .returned (.tuple #[.pointer (some ⟨gb, 0, none⟩), .int .i64 0]) /\ Blk w' gb 145 (rbookC enc lim depth gt ld) /\ w'.ownsRow w.heap.size 5 1 ld l.length (l.map (Value.int .u8)) /\ RText w' w.heap.size gt enc lim ((dec enc l).map Prod.fst) ((tagF 0 0 (dec enc l)).map Prod.snd) /\ w.heap.size <= gb /\ w.heap.size <= gt /\ Below w.heap.size w w'
theorem RText.below {w w' : World} {B g : Nat} {enc lim : Int} {a t : List Int} (h : RText w B g enc lim a t) (hb : Below w.heap.size w w') : RText w' B g enc lim a t := by
 obtain ⟨va, vt, h1, h2, h3⟩ := h
 exact ⟨va, vt, Blk.below h1 hb, ownsRow_below h2 hb, ownsRow_below h3 hb⟩
theorem r7open_any (enc lim depth : Int) (D : Nat -> Prop) (A : Option Addr) (n c : Nat) (l : List Int) (w : World) (hl : Bts w D A n l) (hB : Byt l) (hcap : n <= c) (h0 : bookErr enc lim depth n = 0) :
  Calls Tryz.prog 74 #[.int .i64 enc, .slice A n c, .int .i64 lim, .int .i64 depth] w fun e w' => R7Post enc lim depth l w e w' := by
 have hle := hl.len
 have hd : ¬ (depth < 1 \/ 200 < depth) := by
  intro h
  unfold bookErr at h0
  rw [if_pos h] at h0
  cases h0
 have ho : openErr enc lim n = 0 := by
  unfold bookErr at h0
  rw [if_neg hd] at h0
  exact h0
 obtain ⟨he, hlim⟩ := openErr_ok ho
 have hc := r5open_any enc lim D A n c l w he hl hB hlim hcap
 have q0 : (depth < 1) = False := by simp; omega
 have q1 : (200 < depth) = False := by simp; omega
 have hn : n <= 65536 := by omega
 obtain ⟨ib, hib, hb0, hb1', hb2'⟩ := info_parts byte_info
 have HC := Lib.hid hc
 clear hc ho he h0 hd
 go_enter Tryz.func74, Tryz.ntmps74
 go_wp2_with fail
 refine (HC.out).mono ?_
 rintro e w1 ⟨rfl, hT, hb1⟩
 go_wp2_with fail
 go_loopg [13] n (fun k q wr => R7R enc lim depth l w.heap.size w1.heap.size w1 k q wr)
 case atStart =>
  exact ⟨0, .slice none 0 0, rfl, Nat.zero_le _, by omega, Blk.new w1 _ _, Lib.hid (World.ownsRow_nil _ _ _ _), balloc (Below.refl _ _), by simp⟩
 case round =>
  obtain ⟨i, ld, rfl, hi, hk, hT2, hoL, hb, hsz⟩ := hrel
  have hs1 := hb1.size
  by_cases hlt : i < n
  ·have hlr : Bts wr D A n l := Reads.below (Reads.below hl hb1) hb
   obtain ⟨ad, rfl, _, c1⟩ := hlr.at_ hlt
   have bx := hB.at_ i
   obtain ⟨x, hx⟩ : ∃ x, l.getD i 0 = x := ⟨_, rfl⟩
   rw [hx] at c1 bx
   have HX := Lib.hid hx
   have c3 : wr.cell? ⟨w1.heap.size, 3, none⟩ = some ld := hT2.cell 3
   have f3 := hT2.frozen 3
   have hglt := hT2.lt
   have s1 : wr.drew.cell? ⟨w1.heap.size, 3, none⟩ = some ld /\ wr.drew.cell? (ad.add i) = some (.int .u8 x) := ⟨c3, c1⟩
   have x1 : (0 : Int) <= (i : Int) := by omega
   have x2 : (i : Int) < (n : Int) := by omega
   have hadlt := lt_of_cell c1
   have hoD : (wr.alloc (.cells #[.int .u8 x] 5)).drew.ownsRow (w1.heap.size + 1) 5 1 ld i ((l.take i).map (Value.int .u8)) := World.ownsRow.alloc (w := wr) hoL.out _
   have s2 : (wr.alloc (.cells #[.int .u8 x] 5)).drew.cell? ⟨w1.heap.size, 3, none⟩ = some ld /\ (wr.alloc (.cells #[.int .u8 x] 5)).drew.cell? (ad.add i) = some (.int .u8 x) := ⟨cell_keep (w := wr) (Below.drew (balloc (Below.refl _ _))) c3, cell_keep (w := wr) (Below.drew (balloc (Below.refl _ _))) c1⟩
   have hTD : Blk (wr.alloc (.cells #[.int .u8 x] 5)).drew w1.heap.size 145 (rbookC enc lim depth w.heap.size ld) := Blk.alloc (w := wr) hT2 _
   have HOD := Lib.hid hoD
   have HTD := Lib.hid hTD
   clear hx hoD hTD
   go_wp2_with fail
   go_region_law (first | ((refine step_append_lies _ (by rfl) (.tmp 46) (.tmp 51) 22 (by rfl) (w1.heap.size + 1) 5 ib (.int .u8 0) 1 1 Tryz.underlying22 hib hb0 hb1' hb2' (by rfl) (by decide) ld i _ (by rfl) HOD.out ⟨wr.heap.size, 0, none⟩ 1 1 [.int .u8 x] (by rfl) (by rfl) (cell_one_new _ _ _) (by simp [Value.oneCell']) (by omega) (by unfold maxLen; omega) (by omega) (by simp; omega) (wr.heap.size + 1) (by simp) ?_; intro g cap w4 hown4 hgr hat hglt4; have hT4 := HTD.out.grown hgr (fun e => own_blk_ne HOD.out HTD.out (by decide) e.symm); have s4 : w4.cell? ⟨w1.heap.size, 3, none⟩ = some ld := hT4.cell 3; have f4 := hT4.frozen 3)))
   all_goals
    have hT5 := hT4.set_ 3 (.slice (some ⟨g, 0, none⟩) (i + 1) cap)
    have hW4 : Below w1.heap.size w1 w4 := below_grown2 (Below.drew (balloc hb)) hgr (fun k hk => by have := own_ge HOD.out hk; omega)
    have hO5 := own_set_other (i := 3) (u := .slice (some ⟨g, 0, none⟩) (i + 1) cap) hown4 hT4 (by decide)
    have hz := hgr.size
    simp at hz
    have hz4 : w1.heap.size + 1 <= (w4.setCell ⟨w1.heap.size, 3, none⟩ (.slice (some ⟨g, 0, none⟩) (i + 1) cap)).heap.size := by simp [World.setCell]; omega
    have HO5 := Lib.hid hO5
    clear hown4 hgr hat s4 f4 s2 s1 c1 c3 f3 hz hO5
    go_wp2_with fail
    go_roundg (n - (i + 1))
    case measure => omega
    case rel =>
     refine ⟨i + 1, _, by go_num, by omega, by omega, hT5.eq_ rfl, Lib.hid ?_, hW4.setCell (Nat.le_refl _) _, hz4⟩
     have := HO5.out
     rw [List.take_succ_eq_append_getElem (by omega), List.map_append]
     have hx := HX.out
     rw [List.getD_eq_getElem?_getD, List.getElem?_eq_getElem (by omega)] at hx
     simp at hx
     rw [hx]
     exact this
  ·obtain rfl : i = l.length := by omega
   have ho := hoL.out
   rw [List.take_length] at ho
   have HO := Lib.hid ho
   clear ho
   go_wp2_with fail
   go_ret2
   exact ⟨w1.heap.size, w.heap.size, ld, rfl, hT2, ownsRow_le HO.out (by omega), hT.below hb, hs1, Nat.le_refl _, bseq hb1 hb⟩
def SameR (x y : List Int) (w0 : World) (k : Nat) (q : Value) (wr : World) : Prop :=
 ∃ i : Nat, q = .int .i64 (i : Int) /\ i <= x.length /\ x.length - i <= k /\ Hid (∀ j, j < i -> x.getD j 0 = y.getD j 0) /\ Below w0.heap.size w0 wr
theorem list_eq_getD {x y : List Int} (hl : x.length = y.length) (h : ∀ j, j < x.length -> x.getD j 0 = y.getD j 0) : x = y := by
 apply List.ext_getElem hl
 intro i h1 h2
 have := h i h1
 rw [List.getD_eq_getElem?_getD, List.getD_eq_getElem?_getD, List.getElem?_eq_getElem h1, List.getElem?_eq_getElem h2] at this
 simpa using this
theorem same_any (D D' : Nat -> Prop) (A A' : Option Addr) (n c m c' : Nat) (x y : List Int) (w : World) (hx : Ints w D A n x) (hy : Ints w D' A' m y) (hn : n <= 1073741824) (hm : m <= 1073741824) :
  Calls Tryz.prog 14 #[.slice A n c, .slice A' m c'] w fun e w' => e = .returned (.bool (decide (x = y))) /\ Below w.heap.size w w' := by
 have hxl := hx.len
 have hyl := hy.len
 by_cases hnm : n = m
 ·subst hnm
  have q1 : ((n : Int) != (n : Int)) = false := by simp
  go_enter Tryz.func14, Tryz.ntmps14
  go_wp2_with fail
  go_loopg [5] n (fun k q wr => SameR x y w k q wr)
  case atStart => exact ⟨0, rfl, Nat.zero_le _, by omega, Lib.hid (fun j hj => absurd hj (by omega)), Below.refl _ _⟩
  case round =>
   obtain ⟨i, rfl, hi, hk, hh, hb⟩ := hrel
   by_cases hlt : i < n
   ·obtain ⟨ad, hA, _, c1⟩ := Ints.at_ (Reads.below hx hb) hlt
    obtain ⟨ad', hA', _, c2⟩ := Ints.at_ (Reads.below hy hb) hlt
    subst hA
    subst hA'
    obtain ⟨a, ha⟩ : ∃ a, x.getD i 0 = a := ⟨_, rfl⟩
    obtain ⟨b, hb'⟩ : ∃ b, y.getD i 0 = b := ⟨_, rfl⟩
    rw [ha] at c1
    rw [hb'] at c2
    have HA := Lib.hid ha
    have HB := Lib.hid hb'
    have x1 : (0 : Int) <= (i : Int) := by omega
    have x2 : (i : Int) < (n : Int) := by omega
    clear ha hb'
    by_cases hab : a = b
    ·have hne : (a != b) = false := by simp [hab]
     go_wp2_with fail
     go_quiet (fail)
     go_wp2_with fail
     go_roundg (n - (i + 1))
     case measure => omega
     case rel =>
      refine ⟨i + 1, by go_num, by omega, by omega, Lib.hid (fun j hj => ?_), below_drewN hb _⟩
      rcases Nat.lt_or_ge j i with h | h
      ·exact hh.out j h
      ·rw [show j = i by omega, HA.out, HB.out, hab]
    ·have hne : (a != b) = true := by simp [hab]
     go_wp2_with fail
     go_quiet (fail)
     go_wp2_with fail
     go_ret
     refine ⟨ret_b ?_, below_drewN hb _⟩
     symm
     rw [decide_eq_false_iff_not]
     intro h
     apply hab
     rw [<- HA.out, <- HB.out, h]
   ·go_wp2_with fail
    go_ret
    refine ⟨ret_b ?_, hb⟩
    symm
    rw [decide_eq_true_eq]
    exact list_eq_getD (by omega) (fun j hj => hh.out j (by omega))
 ·have q1 : ((n : Int) != (m : Int)) = true := by rw [bne_iff_ne]; omega
  go_enter Tryz.func14, Tryz.ntmps14
  go_wp2_with fail
  go_ret
  refine ⟨ret_b ?_, Below.refl _ _⟩
  symm
  rw [decide_eq_false_iff_not]
  intro h
  rw [h] at hxl
  omega
theorem same_eq {D D' : Nat -> Prop} {A A' : Option Addr} {n c m c' : Nat} {x : List Int} {w : World} (hx : Ints w D A n x) (hy : Ints w D' A' m x) (hn : n <= 1073741824) :
  Calls Tryz.prog 14 #[.slice A n c, .slice A' m c'] w fun e w' => e = .returned (.bool true) /\ Below w.heap.size w w' := by
 have h1 := hx.len
 have h2 := hy.len
 have := same_any D D' A A' n c m c' x x w hx hy hn (by omega)
 rwa [show decide (x = x) = true by simp] at this
theorem tags1_any (base g : Nat) (a tg : Int) (xs : List Int) (X : Nat -> Prop) (w : World) (h : SeeJ base g xs X w) (hg : base <= g) (hW : base <= w.heap.size) (hn : xs.length <= 2147483648) :
  Calls Tryz.prog 125 #[.int .i64 a, .int .i64 tg, .pointer (some ⟨g, 0, none⟩)] w fun e w' => SeenPost (SeeJ base g) (xs ++ [tg]) X w e w' := by
 obtain ⟨v, hb, ho, rfl⟩ := h
 obtain ⟨i0, hi, hz0, hz1, hz2⟩ := info_parts int_info
 have c0 := hb.cell 0
 have f0 := hb.frozen 0
 simp at c0
 have hglt := hb.lt
 go_enter Tryz.func125, Tryz.ntmps125
 go_wp2_with (at_builtin; refine wpList_append_own_at _ rfl (.tmp 5) (.tmp 7) 35 rfl base 3 i0 (.int .i64 0) 1 8 Tryz.underlying35 hi hz0 hz1 hz2 rfl (by decide) v xs.length _ rfl (ho.alloc _) ⟨w.heap.size, 0, none⟩ 1 1 [.int .i64 tg] rfl rfl ?c1 ?c2 ?c3 ?c4 ?c5 ?_)
 case c1 => exact cell_one_new _ _ _
 case c2 => simp [Value.oneCell']
 case c3 => unfold maxLen; omega
 case c4 => omega
 case c5 => simp; omega
 intro v1 w1 hown1 hgr _ hat
 have hb1 : Blk w1 g 35 #[v] := (hb.alloc _).grown hgr (fun e => own_blk_ne ho hb (by decide) e.symm)
 have hfr : Fr (fun b => b = g \/ v.ownBlock = some b) w w1 := ((Fr.refl _ w).alloc _).grown hgr (fun r hr _ => .inr hr)
 have hnew : ∀ b, v1.ownBlock = some b -> v.ownBlock = some b \/ w.heap.size <= b := by
  intro b e
  rcases hat with h | h
  ·exact .inl (h.symm.trans e)
  ·rw [h] at e
   injection e with e
   exact .inr (by rw [<- e]; simp)
 have c1 := hb1.cell 0
 have f1 := hb1.frozen 0
 simp at c1
 clear c0 f0
 obtain ⟨r, cap, rfl, _, hrl⟩ := hown1.form (by omega)
 have HNW := Lib.hid hnew
 clear hnew hat
 go_wp2_with fail
 go_end0
 refine ⟨rfl, ⟨_, ⟨_, hb1.set_ 0 _, ?_, rfl⟩, ?_⟩, hfr.setCell (.inl (.inl rfl)) _⟩
 ·rw [List.length_append, List.map_append]
  exact ownsRow_setCell_other hown1 (own_blk_ne hown1 hb1 (by decide)) _
 ·rintro b (hb2 | hb2)
  ·exact .inl (.inl hb2)
  ·rcases HNW.out b hb2 with h3 | h3
   ·exact .inl (.inr h3)
   ·exact .inr h3
theorem seeT_sees (base g : Nat) (hg : base <= g) : Sees 125 #[.pointer (some ⟨g, 0, none⟩)] (fun (s : List Int) X w => SeeJ base g s X w /\ base <= w.heap.size) (fun s _ t => s ++ [t]) List.length := by
 constructor
 ·intro s a _; simp
 ·rintro s X a tg w ⟨h, hb⟩ hn
  refine (tags1_any base g a tg s X w h hg hb hn).mono ?_
  rintro e w' ⟨rfl, ⟨X', h1, h2⟩, h3⟩
  exact ⟨rfl, ⟨X', ⟨h1, Nat.le_trans hb h3.size⟩, h2⟩, h3⟩
 ·exact Tryz.call125
 ·rintro s X w b ⟨⟨v, hb, ho, rfl⟩, _⟩ (rfl | hx)
  ·exact ⟨_, _, hb, .inr rfl⟩
  ·rcases ho.2 with ⟨rfl, _⟩ | ⟨r, cap, cur, rfl, h1, h2, _⟩
   ·simp [Value.ownBlock] at hx
   ·have e : r = b := by simpa [Value.ownBlock] using hx
    subst e
    exact ⟨_, _, h2, .inl rfl⟩
 ·rintro s X w w' ⟨⟨v, hb, ho, rfl⟩, hbs⟩ hk
  have hg1 : Blk w' g 35 #[v] := (hk g (.inl rfl)).trans hb
  refine ⟨⟨v, hg1, ⟨ho.1, ?_⟩, rfl⟩, by have := hg1.lt; omega⟩
  rcases ho.2 with h | ⟨r, cap, cur, rfl, h1, h2, h3⟩
  ·exact .inl h
  ·exact .inr ⟨r, cap, cur, rfl, h1, (hk r (.inr rfl)).trans h2, h3⟩
theorem foldl_snd (l : List (Int × Int)) : ∀ s : List Int, l.foldl (fun s a => s ++ [a.2]) s = s ++ l.map Prod.snd := by
 induction l with
 | nil => intro s; simp
 | cons a l ih => intro s; simp [ih]
theorem TextL.tags {w : World} {D : Nat -> Prop} {g : Nat} {enc lim : Int} {ds ats : List (Int × Int)} (h : TextL w D g enc lim ds ats) : TextTag w D g enc ats := by
 obtain ⟨t, a, add, h, _, _, e, _⟩ := h
 exact ⟨lim, t, a, add, h, e⟩
theorem TextL.more {w : World} {D D' : Nat -> Prop} {g : Nat} {enc lim : Int} {ds ats : List (Int × Int)} (h : TextL w D g enc lim ds ats) (hD : ∀ b, D b -> b < w.heap.size -> D' b) : TextL w D' g enc lim ds ats := by
 obtain ⟨t, a, add, h, hu, e⟩ := h
 exact ⟨t, a, add, ⟨h.blk, h.enc4, h.node, h.len, h.tot, h.ok, fun p hp => Reads.more (h.bts p hp) hD (by decide)⟩, hu, e⟩
theorem ttags_any (D : Nat -> Prop) (g : Nat) (enc lim : Int) (ds ats : List (Int × Int)) (f tt : Int) (w : World) (h : TextL w D g enc lim ds ats) (f0 : -2147483648 <= f) (t0 : tt <= 2147483648) :
  Calls Tryz.prog 80 #[.pointer (some ⟨g, 0, none⟩), .int .i64 f, .int .i64 tt] w fun e w' => NewInts (seg f tt (ats.map Prod.snd)) w e w' := by
 have hW : Below w.heap.size w (w.alloc (.cells #[.slice none 0 0] 35)) := balloc (Below.refl _ w)
 have ht := ((h.more (D' := fun b => b < w.heap.size) (fun b _ h => h)).below hW).tags
 have hc := twalk_any 125 #[.pointer (some ⟨w.heap.size, 0, none⟩)] (fun (s : List Int) X w' => SeeJ w.heap.size w.heap.size s X w' /\ w.heap.size <= w'.heap.size) (fun s _ t => s ++ [t]) List.length (seeT_sees _ _ (Nat.le_refl _))
  (fun b => b < w.heap.size) g enc ats f tt [] (fun b => b = w.heap.size \/ (Value.slice none 0 0).ownBlock = some b) _ ht (fun b hb _ hx => by rcases hx with rfl | hx; exact absurd hb (Nat.lt_irrefl _); simp [Value.ownBlock] at hx)
  ⟨⟨_, Blk.new w _ _, ⟨rfl, .inl ⟨rfl, rfl⟩⟩, rfl⟩, by simp⟩ (by simp) f0 t0
 rw [foldl_snd, seg_map, List.nil_append] at hc
 obtain ⟨L, hL⟩ : ∃ L, seg f tt (ats.map Prod.snd) = L := ⟨_, rfl⟩
 rw [hL] at hc ⊢
 have HC := Lib.hid hc
 clear hc hL
 go_enter Tryz.func80, Tryz.ntmps80
 go_wp2_with fail
 refine (HC.out).mono ?_
 rintro e w1 ⟨rfl, ⟨X', ⟨⟨v, hb, ho, rfl⟩, hs⟩, hx⟩, hf⟩
 have c0 := hb.cell 0
 simp at c0
 have HO := Lib.hid ho
 have hfin : Below w.heap.size w w1 := bfr hW hf (fun b hb => by rcases hb with rfl | hb; exact Nat.le_refl _; simp [Value.ownBlock] at hb)
 clear ho hx
 go_wp2_with fail
 go_ret
 exact ⟨v, rfl, HO.out, hfin⟩
end Go.Proofs.YtkocknfhdojmbaaGreat
