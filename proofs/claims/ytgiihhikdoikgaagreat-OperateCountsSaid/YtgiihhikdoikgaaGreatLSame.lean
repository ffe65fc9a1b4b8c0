/-
  copyistlaw12.same: are two lists equal? Tags of a text.
-/
import Derived.Test.YtgiihhikdoikgaaGreatLRf2
import Derived.Test.YtgiihhikdoikgaaGreatLRow
import Derived.Carry
import Derived.Laws.IdiomRangeMap
import Derived.Deep.AppendLies
import Derived.Deep.RegionLaw
import Derived.Test.YtgiihhikdoikgaaGreatLEnds
set_option linter.unusedSimpArgs false
set_option linter.unusedVariables false
set_option maxRecDepth 100000
set_option maxHeartbeats 32000000
namespace Go.Proofs.YtgiihhikdoikgaaGreat
open Go.RowKit
def openErr (enc lim : Int) (n : Nat) : Int := if enc < 1 \/ 4 < enc then 10 else if lim < 0 \/ 65536 < lim then 1 else if lim < (n : Int) then 50 else 0
theorem openErr_ok {enc lim : Int} {n : Nat} (h : openErr enc lim n = 0) : (enc = 1 \/ enc = 2 \/ enc = 3 \/ enc = 4) /\ (n : Int) <= lim /\ lim <= 65536 := by
 unfold openErr at h
 split at h
 ·cases h
 ·split at h
  ·cases h
  ·split at h
   ·cases h
   ·omega
def EmptyMap (w : World) (r : Nat) : Prop := w.heap[r]? = some (.map #[] 0)
theorem EmptyMap.lt {w : World} {r : Nat} (h : EmptyMap w r) : r < w.heap.size := (Array.getElem?_eq_some_iff.1 h).1
theorem EmptyMap.below {w w' : World} {r : Nat} (h : EmptyMap w r) (hb : Below w.heap.size w w') : EmptyMap w' r := (hb.block r h.lt).trans h
theorem EmptyMap.fr {w w' : World} {S : Nat -> Prop} {r : Nat} (h : EmptyMap w r) (hb : Fr S w w') (hn : ¬ S r) : EmptyMap w' r := (hb.block r h.lt hn).trans h
theorem EmptyMap.alloc {w : World} {r : Nat} (h : EmptyMap w r) (o : Obj) : EmptyMap (w.alloc o) r := (Below.heap_alloc w o r h.lt).trans h
theorem EmptyMap.far {w : World} {r : Nat} (h : EmptyMap w r) {p : Addr} (hp : r ≠ p.block) (u : Value) : EmptyMap (w.setCell p u) r := (Below.heap_setCell w p u r hp).trans h
theorem EmptyMap.ne_blk {w : World} {r g : Nat} {T : TypeId} {cs : Array Value} (h : EmptyMap w r) (hb : Blk w g T cs) : r ≠ g := by
 rintro rfl
 unfold EmptyMap at h
 unfold Blk at hb
 rw [h] at hb
 cases hb
theorem EmptyMap.new (w : World) : EmptyMap (w.alloc (.map #[] 0)) w.heap.size := heap_alloc_new w _
theorem EmptyMap.range {w : World} {r : Nat} {t k e : TypeId} (h : EmptyMap w r) (ht : Tryz.prog.underlying t = some (.map k e)) : (Instr.range t (.map (some r))).run Tryz.prog w = .ok (.pointer (some ⟨w.heap.size, 0, none⟩)) (w.alloc (.mapIter (some r) 0 #[] 0)) := run_range_map w t k e r #[] 0 ht h
theorem EmptyMap.next {w : World} {r : Nat} (h : EmptyMap w r) (ty : TypeId) : (Instr.next (.pointer (some ⟨w.heap.size, 0, none⟩)) false ty).run Tryz.prog (w.alloc (.mapIter (some r) 0 #[] 0)) = .ok (.tuple #[.bool false]) (w.alloc (.mapIter (some r) 0 #[] 0)) := by
 rcases run_next_map (P := Tryz.prog) w ty r 0 0 #[] #[] 0 h (fun x hx => by cases hx) (Nat.le_refl _) with ⟨_, hr⟩ | ⟨e, he, _⟩
 ·exact hr
 ·simp [leftOf] at he
theorem Blk.new' {w : World} {t : TypeId} {cs : Array Value} {H : Nat} (h : w.heap.size = H) : Blk (w.alloc (.cells cs t)) H t cs := h ▸ Blk.new w t cs
def noU8 : Value -> Bool
 | .int .u8 _ => false
 | _ => true
def NoU8 (cs : Array Value) : Prop := cs.toList.all noU8 = true
theorem NoU8.ne {cs : Array Value} (h : NoU8 cs) (i : Nat) (x : Int) : cs[i]? ≠ some (Value.int .u8 x) := by
 intro hx
 have h1 := List.all_eq_true.1 h (Value.int .u8 x) (by rw [<- Array.getElem?_toList] at hx; exact List.mem_of_getElem? hx)
 cases h1
theorem cell_in_blk {w : World} {g : Nat} {T : TypeId} {cs : Array Value} (hb : Blk w g T cs) {p : Addr} {v : Value} (hp : p.block = g) (h : w.cell? p = some v) : cs[p.off]? = some v := by
 subst hp
 unfold World.cell? at h
 rw [show w.heap[p.block]? = _ from hb] at h
 dsimp only at h
 split at h
 ·cases h
 ·exact h
theorem Bts.other {w w' : World} {D : Nat -> Prop} {A : Option Addr} {n k : Nat} {l : List Int} {T : TypeId} {cs : Array Value} (h : Bts w D A n l) (hf : Fr (· = k) w w') (hb : Blk w k T cs) (hu : NoU8 cs) : Bts w' D A n l := by
 refine ⟨h.1, fun hn => ?_⟩
 obtain ⟨ad, e, hd, hc⟩ := h.2 hn
 refine ⟨ad, e, hd, fun j u hj => ?_⟩
 have h1 := hc j u hj
 have h2 : (ad.add j).block ≠ k := by
  intro hk
  have h3 := cell_in_blk hb hk h1
  rw [List.getElem?_map] at hj
  cases hl : l[j]? with
  | none => rw [hl] at hj; cases hj
  | some x =>
   rw [hl] at hj
   injection hj with hj
   rw [<- hj] at h3
   exact hu.ne _ _ h3
 exact (World.cell?_of_block (w := w) (hf.block _ (lt_of_cell h1) h2)).trans h1
theorem TextIn.other {w w' : World} {D : Nat -> Prop} {g k : Nat} {enc lim : Int} {t : Tr} {a : Option Addr} {add : Value} {T : TypeId} {cs : Array Value} (h : TextIn w D g enc lim t a add) (hf : Fr (· = k) w w') (hb : Blk w k T cs) (h1 : T ≠ 104) (h2 : T ≠ 147) (hu : NoU8 cs) : TextIn w' D g enc lim t a add :=
 ⟨h.blk.fr hf (fun e => Blk.ne_ hb h.blk h1 e.symm), h.enc4, NodeAt.keepBut (KeepBut.of_fr hf hb) h2 t a h.node, h.len, h.tot, h.ok, fun p hp => Bts.other (h.bts p hp) hf hb hu⟩
theorem TextL.other {w w' : World} {D : Nat -> Prop} {g k : Nat} {enc lim : Int} {ds ats : List (Int × Int)} {T : TypeId} {cs : Array Value} (h : TextL w D g enc lim ds ats) (hf : Fr (· = k) w w') (hb : Blk w k T cs) (h1 : T ≠ 104) (h2 : T ≠ 147) (hu : NoU8 cs) (h3 : T ≠ 5 := by decide) : TextL w' D g enc lim ds ats := by
 obtain ⟨t, a, add, h, hus, e⟩ := h
 refine ⟨t, a, add, h.other hf hb h1 h2 hu, fun p hp ad he => ?_, e⟩
 obtain ⟨cs', hc⟩ := hus p hp ad he
 exact ⟨cs', hc.fr hf (fun e => Blk.ne_ hb hc h3 e.symm)⟩
def BookAt (w : World) (gb gt m : Nat) (depth : Int) : Prop :=
 Blk w gb 97 #[.pointer (some ⟨gt, 0, none⟩), .int .i64 depth, .slice none 0 0, .slice none 0 0, .map (some m), .slice none 0 0, .pointer none, .int .i64 0, .int .i64 0, .int .i64 0] /\ EmptyMap w m
def bookErr (enc lim depth : Int) (n : Nat) : Int := if depth < 1 \/ 200 < depth then 1 else openErr enc lim n
def HOpenPost (enc lim depth : Int) (l : List Int) (w : World) (e : Ending) (w' : World) : Prop :=
 ∃ gb gt m, e = .returned (.tuple #[.pointer (some ⟨gb, 0, none⟩), .int .i64 0]) /\ BookAt w' gb gt m depth /\ TextL w' (fun b => w.heap.size <= b) gt enc lim (dec enc l) (tagF 0 0 (dec enc l)) /\ w.heap.size <= gb /\ w.heap.size <= gt /\ w.heap.size <= m /\ Below w.heap.size w w'
theorem hopen_any (enc lim depth : Int) (D : Nat -> Prop) (A : Option Addr) (n c : Nat) (l : List Int) (w : World) (hl : Bts w D A n l) (hB : Byt l) (hcap : n <= c) (h0 : bookErr enc lim depth n = 0) :
  Calls Tryz.prog 73 #[.int .i64 enc, .slice A n c, .int .i64 lim, .int .i64 depth] w fun e w' => HOpenPost enc lim depth l w e w' := by
 have hd : ¬ (depth < 1 \/ 200 < depth) := by
  intro h
  unfold bookErr at h0
  rw [if_pos h] at h0
  cases h0
 have ho : openErr enc lim n = 0 := by
  unfold bookErr at h0
  rw [if_neg hd] at h0
  exact h0
 obtain ⟨he, hlim⟩ := openErr_ok ho
 have hc := open_any enc lim D A n c l w he hl hB hlim hcap
 have q0 : (depth < 1) = False := by simp; omega
 have q1 : (200 < depth) = False := by simp; omega
 have hmm := @run_makeMap Tryz.prog
 have HC := Lib.hid hc
 clear hc ho he h0 hd
 go_enter Tryz.func73, Tryz.ntmps73
 go_wp2_with fail
 refine (HC.out).mono ?_
 rintro e w1 ⟨gt, rfl, hT, hg, hb1⟩
 go_wp2_with fail
 go_ret2
 have hs := hb1.size
 refine ⟨_, gt, w1.heap.size, rfl, ⟨Blk.new' (by simp), (EmptyMap.new w1).alloc _⟩, hT.below (balloc (balloc (Below.refl _ _))), Nat.le_succ_of_le hs, hg, hs, balloc (balloc hb1)⟩
def BankAt (w : World) (gk mk : Nat) : Prop := Blk w gk 125 #[.map (some mk), .int .i64 0] /\ EmptyMap w mk
def BankPost (w : World) (e : Ending) (w' : World) : Prop := ∃ gk mk, e = .returned (.pointer (some ⟨gk, 0, none⟩)) /\ BankAt w' gk mk /\ w.heap.size <= gk /\ w.heap.size <= mk /\ Below w.heap.size w w'
theorem bank_any (w : World) : Calls Tryz.prog 74 #[] w fun e w' => BankPost w e w' := by
 have hmm := @run_makeMap Tryz.prog
 go_enter Tryz.func74, Tryz.ntmps74
 go_wp2_with fail
 go_ret
 exact ⟨_, w.heap.size, rfl, ⟨Blk.new' (by simp), (EmptyMap.new w).alloc _⟩, Nat.le_succ _, Nat.le_refl _, balloc (balloc (Below.refl _ _))⟩
def natF (A : List Int) (fb : Int) : Int := if brk1 A = 0 then fb else brk1 A
theorem lnative_any (D : Nat -> Prop) (g : Nat) (enc : Int) (ds : List (Int × Int)) (fb : Int) (w : World) (h : TextAt w D g enc ds) :
  Calls Tryz.prog 75 #[.pointer (some ⟨g, 0, none⟩), .int .i64 fb] w fun e w' => e = .returned (.int .i64 (natF (ds.map Prod.fst) fb)) /\ Below w.heap.size w w' := by
 have hat := at_line D g enc ds 0 w h (Nat.zero_le _)
 have hbr := lineF_brk h.pos
 obtain ⟨L, hL⟩ : ∃ L, lineF ds 0 = L := ⟨_, rfl⟩
 rw [hL] at hat hbr
 have hfin : natF (ds.map Prod.fst) fb = if L.brk = 0 then fb else L.brk := by unfold natF; rw [<- hbr]
 rw [hfin]
 obtain ⟨x0, x1, x2, x3⟩ := L
 unfold Ln.cells at hat
 dsimp only at hat ⊢
 have HAT := Lib.hid hat
 clear hat hbr hL hfin
 go_enter Tryz.func75, Tryz.ntmps75
 go_wp2_with fail
 refine (HAT.out).mono ?_
 rintro e w1 ⟨rfl, hb1⟩
 by_cases h0 : x3 = 0
 ·have q : (x3 != 0) = false := by simp [h0]
  go_wp2_with fail
  go_ret
  exact ⟨rfl, balloc hb1⟩
 ·have q : (x3 != 0) = true := by rw [bne_iff_ne]; exact h0
  go_wp2_with fail
  go_ret
  exact ⟨rfl, balloc hb1⟩
def DeskAt (w : World) (gd gb gk : Nat) (native : Int) : Prop :=
 Blk w gd 42 #[.pointer (some ⟨gb, 0, none⟩), .pointer (some ⟨gk, 0, none⟩), .int .i64 0, .slice none 0 0, .slice none 0 0, .slice none 0 0, .int .i64 0, .bool false, .bool false, .int .i64 native]
def newErr (enc lim native depth : Int) (n : Nat) : Int := if native < 1 \/ 3 < native then 1 else bookErr enc lim depth n
structure NewDesk (B : Nat) (enc lim native depth : Int) (l : List Int) (w' : World) (gd gb gt m gk mk : Nat) : Prop where
 desk : DeskAt w' gd gb gk (natF ((dec enc l).map Prod.fst) native)
 book : BookAt w' gb gt m depth
 text : TextL w' (fun b => B <= b) gt enc lim (dec enc l) (tagF 0 0 (dec enc l))
 bank : BankAt w' gk mk
 ge : B <= gd /\ B <= gb /\ B <= gt /\ B <= m /\ B <= gk /\ B <= mk /\ m ≠ mk
def NewPost (enc lim native depth : Int) (l : List Int) (w : World) (e : Ending) (w' : World) : Prop :=
 ∃ gd gb gt m gk mk, e = .returned (.tuple #[.pointer (some ⟨gd, 0, none⟩), .int .i64 0]) /\ NewDesk w.heap.size enc lim native depth l w' gd gb gt m gk mk /\ Below w.heap.size w w'
theorem btext_any (w : World) (gb gt : Nat) (cs : Array Value) (h : Blk w gb 97 cs) (h0 : cs[0]? = some (.pointer (some ⟨gt, 0, none⟩))) :
  Calls Tryz.prog 11 #[.pointer (some ⟨gb, 0, none⟩)] w fun e w' => e = .returned (.pointer (some ⟨gt, 0, none⟩)) /\ w = w' := by
 have c0 := h.cell 0
 rw [h0] at c0
 go_enter Tryz.func11, Tryz.ntmps11
 go_wp2_with fail
 go_ret
 exact ⟨rfl, rfl⟩
theorem onew_any (enc lim native depth : Int) (D : Nat -> Prop) (A : Option Addr) (n c : Nat) (l : List Int) (w : World) (hl : Bts w D A n l) (hB : Byt l) (hcap : n <= c) (h0 : newErr enc lim native depth n = 0) :
  Calls Tryz.prog 24 #[.int .i64 enc, .slice A n c, .int .i64 lim, .int .i64 native, .int .i64 depth] w fun e w' => NewPost enc lim native depth l w e w' := by
 have hd : ¬ (native < 1 \/ 3 < native) := by
  intro h
  unfold newErr at h0
  rw [if_pos h] at h0
  cases h0
 have ho : bookErr enc lim depth n = 0 := by
  unfold newErr at h0
  rw [if_neg hd] at h0
  exact h0
 have hc := hopen_any enc lim depth D A n c l w hl hB hcap ho
 have q0 : (native < 1) = False := by simp; omega
 have q1 : (3 < native) = False := by simp; omega
 have HC := Lib.hid hc
 clear hc ho h0 hd
 go_enter Tryz.func24, Tryz.ntmps24
 go_wp2_with fail
 refine (HC.out).mono ?_
 rintro e w1 ⟨gb, gt, m, rfl, ⟨hbk, hm⟩, hT, h1, h2, h3, hb1⟩
 go_wp2_with fail
 refine (bank_any w1).mono ?_
 rintro e w2 ⟨gk, mk, rfl, ⟨hgk, hmk⟩, h4, h5, hb2⟩
 have hs1 := hb1.size
 have hs2 := hb2.size
 have hbk2 := (hbk.below hb2).alloc (.cells #[.pointer (some ⟨gb, 0, none⟩), .pointer (some ⟨gk, 0, none⟩), .int .i64 0, .slice none 0 0, .slice none 0 0, .slice none 0 0, .int .i64 0, .bool false, .bool false, .int .i64 0] 42)
 have hD := Blk.new w2 42 #[.pointer (some ⟨gb, 0, none⟩), .pointer (some ⟨gk, 0, none⟩), .int .i64 0, .slice none 0 0, .slice none 0 0, .slice none 0 0, .int .i64 0, .bool false, .bool false, .int .i64 0]
 have hb3 : Below w2.heap.size w2 (w2.alloc (.cells #[.pointer (some ⟨gb, 0, none⟩), .pointer (some ⟨gk, 0, none⟩), .int .i64 0, .slice none 0 0, .slice none 0 0, .slice none 0 0, .int .i64 0, .bool false, .bool false, .int .i64 0] 42)) := balloc (Below.refl _ _)
 go_wp2_with fail
 obtain ⟨w3, hw3⟩ : ∃ x, w2.alloc (.cells #[.pointer (some ⟨gb, 0, none⟩), .pointer (some ⟨gk, 0, none⟩), .int .i64 0, .slice none 0 0, .slice none 0 0, .slice none 0 0, .int .i64 0, .bool false, .bool false, .int .i64 0] 42) = x := ⟨_, rfl⟩
 rw [hw3] at hbk2 hD hb3
 rw [hw3]
 have hT3 := (hT.below hb2).below hb3
 have hn := fun (wy : World) (hy : Below w3.heap.size w3 wy) => lnative_any _ gt enc (dec enc l) native wy (hT3.at_.below hy)
 obtain ⟨N, hN⟩ : ∃ N, natF ((dec enc l).map Prod.fst) native = N := ⟨_, rfl⟩
 rw [hN] at hn
 have HN := Lib.hid hn
 have HNN := Lib.hid hN
 clear hn hN hw3
 refine (btext_any w3 gb gt _ hbk2 rfl).mono ?_
 rintro e w4 ⟨rfl, rfl⟩
 go_wp2_with fail
 refine (HN.out _ (Below.refl _ _)).mono ?_
 rintro e w4 ⟨rfl, hb4⟩
 have hD4 := hD.below hb4
 have f9 := hD4.frozen 9
 have c9 := hD4.cell 9
 simp at c9
 go_wp2_with fail
 go_ret2
 have hne : ∀ {g : Nat}, g < w2.heap.size -> g ≠ w2.heap.size := fun h => Nat.ne_of_lt h
 have hbw4 : Below w.heap.size w w4 := bseq (bseq (bseq hb1 hb2) hb3) hb4
 have hmlt := hm.lt
 have hmklt := hmk.lt
 refine ⟨w2.heap.size, gb, gt, m, gk, mk, rfl, ⟨?_, ⟨?_, ?_⟩, ?_, ⟨?_, ?_⟩, by omega⟩, hbw4.setCell (by simp; omega) _⟩
 ·rw [HNN.out]
  exact hD4.set_ 9 _
 ·exact (hbk2.below hb4).far (by have := hbk.lt; simp; omega) _
 ·exact (((hm.below hb2).below hb3).below hb4).far (by simp; omega) _
 ·refine (hT3.below hb4).other ((Fr.refl _ _).set1 9 _) hD4 (by decide) (by decide) rfl
 ·exact ((hgk.below hb3).below hb4).far (by have := hgk.lt; simp; omega) _
 ·exact ((hmk.below hb3).below hb4).far (by simp; omega) _
theorem clone_nil (w : World) : Calls Tryz.prog 72 #[.slice none 0 0] w fun e w' => e = .returned (.slice none 0 0) /\ w = w' := by
 have ke := fun (w : World) => Lib.run_eql_slice_nil (P := Tryz.prog) w 36 3 none 0 0 0 0 Tryz.underlying36
 simp only [Option.isNone_none] at ke
 go_enter Tryz.func72, Tryz.ntmps72
 go_wp2_with fail
 go_ret
 exact ⟨rfl, rfl⟩
end Go.Proofs.YtgiihhikdoikgaaGreat
