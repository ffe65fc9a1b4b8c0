/-
  copyistlaw12.same: are two lists equal? Tags of a text.
-/
import Derived.Test.YtkoakanpaehkmaaGreatDoorLRf5
import Derived.Test.YtkoakanpaehkmaaGreatDoorLRfLines
import Derived.Carry
import Derived.Laws.IdiomRangeMap
import Derived.Deep.AppendLies
import Derived.Deep.RegionLaw
import Derived.Test.YtkoakanpaehkmaaGreatDoorLEnds
set_option linter.unusedSimpArgs false
set_option linter.unusedVariables false
set_option maxRecDepth 100000
set_option maxHeartbeats 32000000
namespace Go.Proofs.YtkoakanpaehkmaaGreatDoor
open Go.RowKit
def EmptyMap (w : World) (r : Nat) : Prop := w.heap[r]? = some (.map #[] 0)
theorem EmptyMap.lt {w : World} {r : Nat} (h : EmptyMap w r) : r < w.heap.size := (Array.getElem?_eq_some_iff.1 h).1
theorem EmptyMap.below {w w' : World} {r : Nat} (h : EmptyMap w r) (hb : Below w.heap.size w w') : EmptyMap w' r := (hb.block r h.lt).trans h
theorem EmptyMap.fr {w w' : World} {S : Nat -> Prop} {r : Nat} (h : EmptyMap w r) (hb : Fr S w w') (hn : ¬ S r) : EmptyMap w' r := (hb.block r h.lt hn).trans h
theorem EmptyMap.alloc {w : World} {r : Nat} (h : EmptyMap w r) (o : Obj) : EmptyMap (w.alloc o) r := (Below.heap_alloc w o r h.lt).trans h
theorem EmptyMap.far {w : World} {r : Nat} (h : EmptyMap w r) {p : Addr} (hp : r ≠ p.block) (u : Value) : EmptyMap (w.setCell p u) r := (Below.heap_setCell w p u r hp).trans h
theorem EmptyMap.ne_blk {w : World} {r g : Nat} {T : TypeId} {cs : Array Value} (h : EmptyMap w r) (hb : Blk w g T cs) : r ≠ g := by
 rintro rfl
 unfold EmptyMap at h
 unfold Blk at hb
 rw [h] at hb
 cases hb
theorem EmptyMap.new (w : World) : EmptyMap (w.alloc (.map #[] 0)) w.heap.size := heap_alloc_new w _
theorem EmptyMap.range {w : World} {r : Nat} {t k e : TypeId} (h : EmptyMap w r) (ht : Tryz.prog.underlying t = some (.map k e)) : (Instr.range t (.map (some r))).run Tryz.prog w = .ok (.pointer (some ⟨w.heap.size, 0, none⟩)) (w.alloc (.mapIter (some r) 0 #[] 0)) := run_range_map w t k e r #[] 0 ht h
theorem EmptyMap.next {w : World} {r : Nat} (h : EmptyMap w r) (ty : TypeId) : (Instr.next (.pointer (some ⟨w.heap.size, 0, none⟩)) false ty).run Tryz.prog (w.alloc (.mapIter (some r) 0 #[] 0)) = .ok (.tuple #[.bool false]) (w.alloc (.mapIter (some r) 0 #[] 0)) := by
 rcases run_next_map (P := Tryz.prog) w ty r 0 0 #[] #[] 0 h (fun x hx => by cases hx) (Nat.le_refl _) with ⟨_, hr⟩ | ⟨e, he, _⟩
 ·exact hr
 ·simp [leftOf] at he
theorem Blk.new' {w : World} {t : TypeId} {cs : Array Value} {H : Nat} (h : w.heap.size = H) : Blk (w.alloc (.cells cs t)) H t cs := h ▸ Blk.new w t cs
def noU8 : Value -> Bool
 | .int .u8 _ => false
 | _ => true
def NoU8 (cs : Array Value) : Prop := cs.toList.all noU8 = true
theorem NoU8.ne {cs : Array Value} (h : NoU8 cs) (i : Nat) (x : Int) : cs[i]? ≠ some (Value.int .u8 x) := by
 intro hx
 have h1 := List.all_eq_true.1 h (Value.int .u8 x) (by rw [<- Array.getElem?_toList] at hx; exact List.mem_of_getElem? hx)
 cases h1
theorem cell_in_blk {w : World} {g : Nat} {T : TypeId} {cs : Array Value} (hb : Blk w g T cs) {p : Addr} {v : Value} (hp : p.block = g) (h : w.cell? p = some v) : cs[p.off]? = some v := by
 subst hp
 unfold World.cell? at h
 rw [show w.heap[p.block]? = _ from hb] at h
 dsimp only at h
 split at h
 ·cases h
 ·exact h
theorem Bts.other {w w' : World} {D : Nat -> Prop} {A : Option Addr} {n k : Nat} {l : List Int} {T : TypeId} {cs : Array Value} (h : Bts w D A n l) (hf : Fr (· = k) w w') (hb : Blk w k T cs) (hu : NoU8 cs) : Bts w' D A n l := by
 refine ⟨h.1, fun hn => ?_⟩
 obtain ⟨ad, e, hd, hc⟩ := h.2 hn
 refine ⟨ad, e, hd, fun j u hj => ?_⟩
 have h1 := hc j u hj
 have h2 : (ad.add j).block ≠ k := by
  intro hk
  have h3 := cell_in_blk hb hk h1
  rw [List.getElem?_map] at hj
  cases hl : l[j]? with
  | none => rw [hl] at hj; cases hj
  | some x =>
   rw [hl] at hj
   injection hj with hj
   rw [<- hj] at h3
   exact hu.ne _ _ h3
 exact (World.cell?_of_block (w := w) (hf.block _ (lt_of_cell h1) h2)).trans h1
theorem TextIn.other {w w' : World} {D : Nat -> Prop} {g k : Nat} {enc lim : Int} {t : Tr} {a : Option Addr} {add : Value} {T : TypeId} {cs : Array Value} (h : TextIn w D g enc lim t a add) (hf : Fr (· = k) w w') (hb : Blk w k T cs) (h1 : T ≠ 139) (h2 : T ≠ 196) (hu : NoU8 cs) : TextIn w' D g enc lim t a add :=
 ⟨h.blk.fr hf (fun e => Blk.ne_ hb h.blk h1 e.symm), h.enc4, NodeAt.keepBut (KeepBut.of_fr hf hb) h2 t a h.node, h.len, h.tot, h.ok, fun p hp => Bts.other (h.bts p hp) hf hb hu⟩
theorem TextL.other {w w' : World} {D : Nat -> Prop} {g k : Nat} {enc lim : Int} {ds ats : List (Int × Int)} {T : TypeId} {cs : Array Value} (h : TextL w D g enc lim ds ats) (hf : Fr (· = k) w w') (hb : Blk w k T cs) (h1 : T ≠ 139) (h2 : T ≠ 196) (hu : NoU8 cs) (h3 : T ≠ 5 := by decide) : TextL w' D g enc lim ds ats := by
 obtain ⟨t, a, add, h, hus, e⟩ := h
 refine ⟨t, a, add, h.other hf hb h1 h2 hu, fun p hp ad he => ?_, e⟩
 obtain ⟨cs', hc⟩ := hus p hp ad he
 exact ⟨cs', hc.fr hf (fun e => Blk.ne_ hb hc h3 e.symm)⟩
def BookAt (w : World) (gb gt m : Nat) (depth : Int) : Prop :=
 Blk w gb 87 #[.pointer (some ⟨gt, 0, none⟩), .int .i64 depth, .slice none 0 0, .slice none 0 0, .map (some m), .slice none 0 0, .pointer none, .int .i64 0, .int .i64 0, .int .i64 0] /\ EmptyMap w m
def bookErr (enc lim depth : Int) (n : Nat) : Int := if depth < 1 \/ 200 < depth then 1 else openErr enc lim n
def HOpenPost (enc lim depth : Int) (l : List Int) (w : World) (e : Ending) (w' : World) : Prop :=
 ∃ gb gt m, e = .returned (.tuple #[.pointer (some ⟨gb, 0, none⟩), .int .i64 0]) /\ BookAt w' gb gt m depth /\ TextL w' (fun b => w.heap.size <= b) gt enc lim (dec enc l) (tagF 0 0 (dec enc l)) /\ w.heap.size <= gb /\ w.heap.size <= gt /\ w.heap.size <= m /\ Below w.heap.size w w'
theorem hopen_any (enc lim depth : Int) (D : Nat -> Prop) (A : Option Addr) (n c : Nat) (l : List Int) (w : World) (hl : Bts w D A n l) (hB : Byt l) (hcap : n <= c) (h0 : bookErr enc lim depth n = 0) :
  Calls Tryz.prog 62 #[.int .i64 enc, .slice A n c, .int .i64 lim, .int .i64 depth] w fun e w' => HOpenPost enc lim depth l w e w' := by
 have hd : ¬ (depth < 1 \/ 200 < depth) := by
  intro h
  unfold bookErr at h0
  rw [if_pos h] at h0
  cases h0
 have ho : openErr enc lim n = 0 := by
  unfold bookErr at h0
  rw [if_neg hd] at h0
  exact h0
 obtain ⟨he, hlim⟩ := openErr_ok ho
 have hc := open_any enc lim D A n c l w he hl hB hlim hcap
 have q0 : (depth < 1) = False := by simp; omega
 have q1 : (200 < depth) = False := by simp; omega
 have hmm := @run_makeMap Tryz.prog
 have HC := Lib.hid hc
 clear hc ho he h0 hd
 go_enter Tryz.func62, Tryz.ntmps62
 go_wp2_with fail
 refine (HC.out).mono ?_
 rintro e w1 ⟨gt, rfl, hT, hg, hb1⟩
 go_wp2_with fail
 go_ret2
 have hs := hb1.size
 refine ⟨_, gt, w1.heap.size, rfl, ⟨Blk.new' (by simp), (EmptyMap.new w1).alloc _⟩, hT.below (balloc (balloc (Below.refl _ _))), Nat.le_succ_of_le hs, hg, hs, balloc (balloc hb1)⟩
def BankAt (w : World) (gk mk : Nat) : Prop := Blk w gk 189 #[.map (some mk), .int .i64 0] /\ EmptyMap w mk
def BankPost (w : World) (e : Ending) (w' : World) : Prop := ∃ gk mk, e = .returned (.pointer (some ⟨gk, 0, none⟩)) /\ BankAt w' gk mk /\ w.heap.size <= gk /\ w.heap.size <= mk /\ Below w.heap.size w w'
theorem bank_any (w : World) : Calls Tryz.prog 63 #[] w fun e w' => BankPost w e w' := by
 have hmm := @run_makeMap Tryz.prog
 go_enter Tryz.func63, Tryz.ntmps63
 go_wp2_with fail
 go_ret
 exact ⟨_, w.heap.size, rfl, ⟨Blk.new' (by simp), (EmptyMap.new w).alloc _⟩, Nat.le_succ _, Nat.le_refl _, balloc (balloc (Below.refl _ _))⟩
def natF (A : List Int) (fb : Int) : Int := if brk1 A = 0 then fb else brk1 A
theorem lnative_any (D : Nat -> Prop) (g : Nat) (enc : Int) (ds : List (Int × Int)) (fb : Int) (w : World) (h : TextAt w D g enc ds) :
  Calls Tryz.prog 64 #[.pointer (some ⟨g, 0, none⟩), .int .i64 fb] w fun e w' => e = .returned (.int .i64 (natF (ds.map Prod.fst) fb)) /\ Below w.heap.size w w' := by
 have hat := at_line D g enc ds 0 w h (Nat.zero_le _)
 have hbr := lineF_brk h.pos
 obtain ⟨L, hL⟩ : ∃ L, lineF ds 0 = L := ⟨_, rfl⟩
 rw [hL] at hat hbr
 have hfin : natF (ds.map Prod.fst) fb = if L.brk = 0 then fb else L.brk := by unfold natF; rw [<- hbr]
 rw [hfin]
 obtain ⟨x0, x1, x2, x3⟩ := L
 unfold Ln.cells at hat
 dsimp only at hat ⊢
 have HAT := Lib.hid hat
 clear hat hbr hL hfin
 go_enter Tryz.func64, Tryz.ntmps64
 go_wp2_with fail
 refine (HAT.out).mono ?_
 rintro e w1 ⟨rfl, hb1⟩
 by_cases h0 : x3 = 0
 ·have q : (x3 != 0) = false := by simp [h0]
  go_wp2_with fail
  go_ret
  exact ⟨rfl, balloc hb1⟩
 ·have q : (x3 != 0) = true := by rw [bne_iff_ne]; exact h0
  go_wp2_with fail
  go_ret
  exact ⟨rfl, balloc hb1⟩
def DeskAt (w : World) (gd gb gk : Nat) (native : Int) : Prop :=
 Blk w gd 49 #[.pointer (some ⟨gb, 0, none⟩), .pointer (some ⟨gk, 0, none⟩), .int .i64 0, .slice none 0 0, .slice none 0 0, .slice none 0 0, .int .i64 0, .bool false, .bool false, .int .i64 native]
def newErr (enc lim native depth : Int) (n : Nat) : Int := if native < 1 \/ 3 < native then 1 else bookErr enc lim depth n
structure NewDesk (B : Nat) (enc lim native depth : Int) (l : List Int) (w' : World) (gd gb gt m gk mk : Nat) : Prop where
 desk : DeskAt w' gd gb gk (natF ((dec enc l).map Prod.fst) native)
 book : BookAt w' gb gt m depth
 text : TextL w' (fun b => B <= b) gt enc lim (dec enc l) (tagF 0 0 (dec enc l))
 bank : BankAt w' gk mk
 ge : B <= gd /\ B <= gb /\ B <= gt /\ B <= m /\ B <= gk /\ B <= mk /\ m ≠ mk
def NewPost (enc lim native depth : Int) (l : List Int) (w : World) (e : Ending) (w' : World) : Prop :=
 ∃ gd gb gt m gk mk, e = .returned (.tuple #[.pointer (some ⟨gd, 0, none⟩), .int .i64 0]) /\ NewDesk w.heap.size enc lim native depth l w' gd gb gt m gk mk /\ Below w.heap.size w w'
theorem btext_any (w : World) (gb gt : Nat) (cs : Array Value) (h : Blk w gb 87 cs) (h0 : cs[0]? = some (.pointer (some ⟨gt, 0, none⟩))) :
  Calls Tryz.prog 20 #[.pointer (some ⟨gb, 0, none⟩)] w fun e w' => e = .returned (.pointer (some ⟨gt, 0, none⟩)) /\ w = w' := by
 have c0 := h.cell 0
 rw [h0] at c0
 go_enter Tryz.func20, Tryz.ntmps20
 go_wp2_with fail
 go_ret
 exact ⟨rfl, rfl⟩
theorem onew_any (enc lim native depth : Int) (D : Nat -> Prop) (A : Option Addr) (n c : Nat) (l : List Int) (w : World) (hl : Bts w D A n l) (hB : Byt l) (hcap : n <= c) (h0 : newErr enc lim native depth n = 0) :
  Calls Tryz.prog 24 #[.int .i64 enc, .slice A n c, .int .i64 lim, .int .i64 native, .int .i64 depth] w fun e w' => NewPost enc lim native depth l w e w' := by
 have hd : ¬ (native < 1 \/ 3 < native) := by
  intro h
  unfold newErr at h0
  rw [if_pos h] at h0
  cases h0
 have ho : bookErr enc lim depth n = 0 := by
  unfold newErr at h0
  rw [if_neg hd] at h0
  exact h0
 have hc := hopen_any enc lim depth D A n c l w hl hB hcap ho
 have q0 : (native < 1) = False := by simp; omega
 have q1 : (3 < native) = False := by simp; omega
 have HC := Lib.hid hc
 clear hc ho h0 hd
 go_enter Tryz.func24, Tryz.ntmps24
 go_wp2_with fail
 refine (HC.out).mono ?_
 rintro e w1 ⟨gb, gt, m, rfl, ⟨hbk, hm⟩, hT, h1, h2, h3, hb1⟩
 go_wp2_with fail
 refine (bank_any w1).mono ?_
 rintro e w2 ⟨gk, mk, rfl, ⟨hgk, hmk⟩, h4, h5, hb2⟩
 have hs1 := hb1.size
 have hs2 := hb2.size
 have hbk2 := (hbk.below hb2).alloc (.cells #[.pointer (some ⟨gb, 0, none⟩), .pointer (some ⟨gk, 0, none⟩), .int .i64 0, .slice none 0 0, .slice none 0 0, .slice none 0 0, .int .i64 0, .bool false, .bool false, .int .i64 0] 49)
 have hD := Blk.new w2 49 #[.pointer (some ⟨gb, 0, none⟩), .pointer (some ⟨gk, 0, none⟩), .int .i64 0, .slice none 0 0, .slice none 0 0, .slice none 0 0, .int .i64 0, .bool false, .bool false, .int .i64 0]
 have hb3 : Below w2.heap.size w2 (w2.alloc (.cells #[.pointer (some ⟨gb, 0, none⟩), .pointer (some ⟨gk, 0, none⟩), .int .i64 0, .slice none 0 0, .slice none 0 0, .slice none 0 0, .int .i64 0, .bool false, .bool false, .int .i64 0] 49)) := balloc (Below.refl _ _)
 go_wp2_with fail
 obtain ⟨w3, hw3⟩ : ∃ x, w2.alloc (.cells #[.pointer (some ⟨gb, 0, none⟩), .pointer (some ⟨gk, 0, none⟩), .int .i64 0, .slice none 0 0, .slice none 0 0, .slice none 0 0, .int .i64 0, .bool false, .bool false, .int .i64 0] 49) = x := ⟨_, rfl⟩
 rw [hw3] at hbk2 hD hb3
 rw [hw3]
 have hT3 := (hT.below hb2).below hb3
 have hn := fun (wy : World) (hy : Below w3.heap.size w3 wy) => lnative_any _ gt enc (dec enc l) native wy (hT3.at_.below hy)
 obtain ⟨N, hN⟩ : ∃ N, natF ((dec enc l).map Prod.fst) native = N := ⟨_, rfl⟩
 rw [hN] at hn
 have HN := Lib.hid hn
 have HNN := Lib.hid hN
 clear hn hN hw3
 refine (btext_any w3 gb gt _ hbk2 rfl).mono ?_
 rintro e w4 ⟨rfl, rfl⟩
 go_wp2_with fail
 refine (HN.out _ (Below.refl _ _)).mono ?_
 rintro e w4 ⟨rfl, hb4⟩
 have hD4 := hD.below hb4
 have f9 := hD4.frozen 9
 have c9 := hD4.cell 9
 simp at c9
 go_wp2_with fail
 go_ret2
 have hne : ∀ {g : Nat}, g < w2.heap.size -> g ≠ w2.heap.size := fun h => Nat.ne_of_lt h
 have hbw4 : Below w.heap.size w w4 := bseq (bseq (bseq hb1 hb2) hb3) hb4
 have hmlt := hm.lt
 have hmklt := hmk.lt
 refine ⟨w2.heap.size, gb, gt, m, gk, mk, rfl, ⟨?_, ⟨?_, ?_⟩, ?_, ⟨?_, ?_⟩, by omega⟩, hbw4.setCell (by simp; omega) _⟩
 ·rw [HNN.out]
  exact hD4.set_ 9 _
 ·exact (hbk2.below hb4).far (by have := hbk.lt; simp; omega) _
 ·exact (((hm.below hb2).below hb3).below hb4).far (by simp; omega) _
 ·refine (hT3.below hb4).other ((Fr.refl _ _).set1 9 _) hD4 (by decide) (by decide) rfl
 ·exact ((hgk.below hb3).below hb4).far (by have := hgk.lt; simp; omega) _
 ·exact ((hmk.below hb3).below hb4).far (by simp; omega) _
theorem clone_nil (w : World) : Calls Tryz.prog 121 #[.slice none 0 0] w fun e w' => e = .returned (.slice none 0 0) /\ w = w' := by
 have ke := fun (w : World) => Lib.run_eql_slice_nil (P := Tryz.prog) w 34 3 none 0 0 0 0 Tryz.underlying34
 simp only [Option.isNone_none] at ke
 go_enter Tryz.func121, Tryz.ntmps121
 go_wp2_with fail
 go_ret
 exact ⟨rfl, rfl⟩
def RBankPost (w : World) (e : Ending) (w' : World) : Prop := ∃ g, e = .returned (.pointer (some ⟨g, 0, none⟩)) /\ w.heap.size <= g /\ Below w.heap.size w w'
theorem rbank_any (w : World) : Calls Tryz.prog 60 #[] w fun e w' => RBankPost w e w' := by
 go_enter Tryz.func60, Tryz.ntmps60
 go_wp2_with fail
 go_ret
 exact ⟨_, rfl, Nat.le_refl _, balloc (Below.refl _ _)⟩
def rbookC (enc lim depth : Int) (gt : Nat) (ld : Value) : Array Value :=
 #[.int .i64 enc, .int .i64 lim, .int .i64 depth, ld, .pointer (some ⟨gt, 0, none⟩), .slice none 0 0, .slice none 0 0, .int .i64 0, .slice none 0 0, .slice none 0 0, .bool false, .slice none 0 0, .int .i64 0, .int .i64 0, .int .i64 0, .slice none 0 0, .slice none 0 0, .int .i64 0, .int .i64 0]
def R7R (enc lim depth : Int) (l : List Int) (gt gb : Nat) (wb : World) (k : Nat) (q13 : Value) (wr : World) : Prop :=
 ∃ (i : Nat) (ld : Value), q13 = .int .i64 (i : Int) /\ i <= l.length /\ l.length - i <= k /\ Blk wr gb 123 (rbookC enc lim depth gt ld) /\ Hid (wr.ownsRow (gb + 1) 5 1 ld i ((l.take i).map (Value.int .u8))) /\ Below gb wb wr /\ gb + 1 <= wr.heap.size
def R7Post (enc lim depth : Int) (l : List Int) (w : World) (e : Ending) (w' : World) : Prop :=
 ∃ gb gt ld, e = .returned (.tuple #[.pointer (some ⟨gb, 0, none⟩), .int .i64 0]) /\ Blk w' gb 123 (rbookC enc lim depth gt ld) /\ w'.ownsRow w.heap.size 5 1 ld l.length (l.map (Value.int .u8)) /\ RText w' w.heap.size gt enc lim ((dec enc l).map Prod.fst) ((tagF 0 0 (dec enc l)).map Prod.snd) /\ w.heap.size <= gb /\ w.heap.size <= gt /\ Below w.heap.size w w'
theorem RText.below {w w' : World} {B g : Nat} {enc lim : Int} {a t : List Int} (h : RText w B g enc lim a t) (hb : Below w.heap.size w w') : RText w' B g enc lim a t := by
 obtain ⟨va, vt, h1, h2, h3⟩ := h
 exact ⟨va, vt, Blk.below h1 hb, ownsRow_below h2 hb, ownsRow_below h3 hb⟩
theorem r7open_any (enc lim depth : Int) (D : Nat -> Prop) (A : Option Addr) (n c : Nat) (l : List Int) (w : World) (hl : Bts w D A n l) (hB : Byt l) (hcap : n <= c) (h0 : bookErr enc lim depth n = 0) :
  Calls Tryz.prog 59 #[.int .i64 enc, .slice A n c, .int .i64 lim, .int .i64 depth] w fun e w' => R7Post enc lim depth l w e w' := by
 have hle := hl.len
 have hd : ¬ (depth < 1 \/ 200 < depth) := by
  intro h
  unfold bookErr at h0
  rw [if_pos h] at h0
  cases h0
 have ho : openErr enc lim n = 0 := by
  unfold bookErr at h0
  rw [if_neg hd] at h0
  exact h0
 obtain ⟨he, hlim⟩ := openErr_ok ho
 have hc := r5open_any enc lim D A n c l w he hl hB hlim hcap
 have q0 : (depth < 1) = False := by simp; omega
 have q1 : (200 < depth) = False := by simp; omega
 have hn : n <= 65536 := by omega
 obtain ⟨ib, hib, hb0, hb1', hb2'⟩ := info_parts byte_info
 have HC := Lib.hid hc
 clear hc ho he h0 hd
 go_enter Tryz.func59, Tryz.ntmps59
 go_wp2_with fail
 refine (HC.out).mono ?_
 rintro e w1 ⟨rfl, hT, hb1⟩
 go_wp2_with fail
 go_loopg [13] n (fun k q wr => R7R enc lim depth l w.heap.size w1.heap.size w1 k q wr)
 case atStart =>
  exact ⟨0, .slice none 0 0, rfl, Nat.zero_le _, by omega, Blk.new w1 _ _, Lib.hid (World.ownsRow_nil _ _ _ _), balloc (Below.refl _ _), by simp⟩
 case round =>
  obtain ⟨i, ld, rfl, hi, hk, hT2, hoL, hb, hsz⟩ := hrel
  have hs1 := hb1.size
  by_cases hlt : i < n
  ·have hlr : Bts wr D A n l := Reads.below (Reads.below hl hb1) hb
   obtain ⟨ad, rfl, _, c1⟩ := hlr.at_ hlt
   have bx := hB.at_ i
   obtain ⟨x, hx⟩ : ∃ x, l.getD i 0 = x := ⟨_, rfl⟩
   rw [hx] at c1 bx
   have HX := Lib.hid hx
   have c3 : wr.cell? ⟨w1.heap.size, 3, none⟩ = some ld := hT2.cell 3
   have f3 := hT2.frozen 3
   have hglt := hT2.lt
   have s1 : wr.drew.cell? ⟨w1.heap.size, 3, none⟩ = some ld /\ wr.drew.cell? (ad.add i) = some (.int .u8 x) := ⟨c3, c1⟩
   have x1 : (0 : Int) <= (i : Int) := by omega
   have x2 : (i : Int) < (n : Int) := by omega
   have hadlt := lt_of_cell c1
   have hoD : (wr.alloc (.cells #[.int .u8 x] 5)).drew.ownsRow (w1.heap.size + 1) 5 1 ld i ((l.take i).map (Value.int .u8)) := World.ownsRow.alloc (w := wr) hoL.out _
   have s2 : (wr.alloc (.cells #[.int .u8 x] 5)).drew.cell? ⟨w1.heap.size, 3, none⟩ = some ld /\ (wr.alloc (.cells #[.int .u8 x] 5)).drew.cell? (ad.add i) = some (.int .u8 x) := ⟨cell_keep (w := wr) (Below.drew (balloc (Below.refl _ _))) c3, cell_keep (w := wr) (Below.drew (balloc (Below.refl _ _))) c1⟩
   have hTD : Blk (wr.alloc (.cells #[.int .u8 x] 5)).drew w1.heap.size 123 (rbookC enc lim depth w.heap.size ld) := Blk.alloc (w := wr) hT2 _
   have HOD := Lib.hid hoD
   have HTD := Lib.hid hTD
   clear hx hoD hTD
   go_wp2_with fail
   go_region_law (first | ((refine step_append_lies _ (by rfl) (.tmp 46) (.tmp 51) 22 (by rfl) (w1.heap.size + 1) 5 ib (.int .u8 0) 1 1 Tryz.underlying22 hib hb0 hb1' hb2' (by rfl) (by decide) ld i _ (by rfl) HOD.out ⟨wr.heap.size, 0, none⟩ 1 1 [.int .u8 x] (by rfl) (by rfl) (cell_one_new _ _ _) (by simp [Value.oneCell']) (by omega) (by unfold maxLen; omega) (by omega) (by simp; omega) (wr.heap.size + 1) (by simp) ?_; intro g cap w4 hown4 hgr hat hglt4; have hT4 := HTD.out.grown hgr (fun e => own_blk_ne HOD.out HTD.out (by decide) e.symm); have s4 : w4.cell? ⟨w1.heap.size, 3, none⟩ = some ld := hT4.cell 3; have f4 := hT4.frozen 3)))
   all_goals
    have hT5 := hT4.set_ 3 (.slice (some ⟨g, 0, none⟩) (i + 1) cap)
    have hW4 : Below w1.heap.size w1 w4 := below_grown2 (Below.drew (balloc hb)) hgr (fun k hk => by have := own_ge HOD.out hk; omega)
    have hO5 := own_set_other (i := 3) (u := .slice (some ⟨g, 0, none⟩) (i + 1) cap) hown4 hT4 (by decide)
    have hz := hgr.size
    simp at hz
    have hz4 : w1.heap.size + 1 <= (w4.setCell ⟨w1.heap.size, 3, none⟩ (.slice (some ⟨g, 0, none⟩) (i + 1) cap)).heap.size := by simp [World.setCell]; omega
    have HO5 := Lib.hid hO5
    clear hown4 hgr hat s4 f4 s2 s1 c1 c3 f3 hz hO5
    go_wp2_with fail
    go_roundg (n - (i + 1))
    case measure => omega
    case rel =>
     refine ⟨i + 1, _, by go_num, by omega, by omega, hT5.eq_ rfl, Lib.hid ?_, hW4.setCell (Nat.le_refl _) _, hz4⟩
     have := HO5.out
     rw [List.take_succ_eq_append_getElem (by omega), List.map_append]
     have hx := HX.out
     rw [List.getD_eq_getElem?_getD, List.getElem?_eq_getElem (by omega)] at hx
     simp at hx
     rw [hx]
     exact this
  ·obtain rfl : i = l.length := by omega
   have ho := hoL.out
   rw [List.take_length] at ho
   have HO := Lib.hid ho
   clear ho
   go_wp2_with fail
   go_ret2
   exact ⟨w1.heap.size, w.heap.size, ld, rfl, hT2, ownsRow_le HO.out (by omega), hT.below hb, hs1, Nat.le_refl _, bseq hb1 hb⟩
def allG : List Int -> Int -> Int -> List Ln
 | [], f, i => [⟨f, i, i, 0⟩]
 | a :: r, f, i => if a = 10 then ⟨f, i, i + 1, 1⟩ :: allG r (i + 1) (i + 1) else if a = 13 then (if r.head? = some 10 then ⟨f, i, i + 2, 2⟩ :: allG r.tail (i + 2) (i + 2) else ⟨f, i, i + 1, 3⟩ :: allG r (i + 1) (i + 1)) else allG r f (i + 1)
termination_by l => l.length
decreasing_by all_goals (simp; try omega)
theorem allG_nil (f i : Int) : allG [] f i = [⟨f, i, i, 0⟩] := by rw [allG]
theorem allG_cons (a : Int) (r : List Int) (f i : Int) : allG (a :: r) f i = if a = 10 then ⟨f, i, i + 1, 1⟩ :: allG r (i + 1) (i + 1) else if a = 13 then (if r.head? = some 10 then ⟨f, i, i + 2, 2⟩ :: allG r.tail (i + 2) (i + 2) else ⟨f, i, i + 1, 3⟩ :: allG r (i + 1) (i + 1)) else allG r f (i + 1) := by rw [allG]
theorem allG_head (A : List Int) : ∀ f i, ∃ L ls, allG A f i = L :: ls /\ L.brk = brk1 A := by
 induction A with
 | nil => intro f i; exact ⟨_, _, allG_nil f i, rfl⟩
 | cons a r ih =>
  intro f i
  rw [allG_cons, brk1]
  split
  ·exact ⟨_, _, rfl, rfl⟩
  ·split
   ·split
    ·exact ⟨_, _, rfl, rfl⟩
    ·exact ⟨_, _, rfl, rfl⟩
   ·exact ih f (i + 1)
def lineZ : Value := .agg #[.int .i64 0, .int .i64 0, .int .i64 0, .int .i64 0]
theorem rline_info : (Tryz.prog.info? 184).map (fun i => (i.zero, i.size, i.bytes)) = some (some lineZ, 4, 32) := by kernel_rfl
theorem rline_row : ∃ i z, Tryz.prog.info? 184 = some i /\ i.zero = some z /\ i.size = 4 /\ i.bytes = 32 /\ z.cells.size = 4 := by
 obtain ⟨i, h1, h2, h3, h4⟩ := info_parts rline_info
 exact ⟨i, lineZ, h1, h2, h3, h4, rfl⟩
theorem line_one (a b c d : Int) : ∀ u ∈ [Value.int .i64 a, .int .i64 b, .int .i64 c, .int .i64 d], u.oneCell' = true := by
 intro u hu
 simp at hu
 rcases hu with rfl | rfl | rfl | rfl <;> rfl
def lnCells (ls : List Ln) : List Value := ls.flatMap fun l => l.cells.toList
theorem lnCells_snoc (ls : List Ln) (l : Ln) : lnCells (ls ++ [l]) = lnCells ls ++ [.int .i64 l.from_, .int .i64 l.to_, .int .i64 l.next, .int .i64 l.brk] := by
 unfold lnCells
 rw [List.flatMap_append]
 simp [Ln.cells]
def AllR (A : List Int) (w : World) (k : Nat) (q4 q5 q6 : Value) (wr : World) : Prop :=
 ∃ (i : Nat) (f : Int) (ls : List Ln) (v : Value), q4 = v /\ q5 = .int .i64 f /\ q6 = .int .i64 (i : Int) /\ i <= A.length /\ A.length - i <= k /\ 0 <= f /\ f <= i /\ ls.length <= i /\ Hid (allG A 0 0 = ls ++ allG (A.drop i) f i) /\ Hid (wr.ownsRow w.heap.size 184 4 v ls.length (lnCells ls)) /\ Below w.heap.size w wr
def AllPost (A : List Int) (w : World) (e : Ending) (w' : World) : Prop :=
 ∃ (v : Value) (n : Int), e = .returned (.tuple #[v, .int .i64 n]) /\ w'.ownsRow w.heap.size 184 4 v (allG A 0 0).length (lnCells (allG A 0 0)) /\ Below w.heap.size w w'
theorem rall_any (D : Nat -> Prop) (A : Option Addr) (n c : Nat) (l : List Int) (w : World) (hl : Ints w D A n l) (hn : n <= 1073741824) :
  Calls Tryz.prog 114 #[.slice A n c] w fun e w' => AllPost l w e w' := by
 have hle := hl.len
 obtain ⟨ip, zp, hip, hp0, hp1, hp2, hp3⟩ := rline_row
 go_enter Tryz.func114, Tryz.ntmps114
 go_wp2_with fail
 go_loopg [4, 5, 6] n (fun k q4 q5 q6 wr => AllR l w k q4 q5 q6 wr)
 case atStart => exact ⟨0, 0, [], .slice none 0 0, rfl, rfl, rfl, Nat.zero_le _, by omega, by omega, by omega, Nat.le_refl _, Lib.hid (by simp), Lib.hid (World.ownsRow_nil _ _ _ _), Below.refl _ _⟩
 case round =>
  obtain ⟨i, f, ls, v, rfl, rfl, rfl, hi, hk, hf0, hf1, hls, hall, hown, hb⟩ := hrel
  by_cases hlt : i < n
  ·obtain ⟨ad, hA, _, c1⟩ := Ints.at_ (Reads.below hl hb) hlt
   subst hA
   have hdr := drop_getD l i (by omega)
   have hst := hall.out
   obtain ⟨x, hx⟩ : ∃ x, l.getD i 0 = x := ⟨_, rfl⟩
   rw [hx] at c1 hdr
   rw [hdr, allG_cons] at hst
   have hnext : i + 1 < n -> ∃ y, wr.cell? (ad.add (i + 1)) = some (.int .i64 y) /\ (l.drop (i + 1)).head? = some y /\ (l.drop (i + 1)).tail = l.drop (i + 2) := by
    intro h
    obtain ⟨ad', hA, _, c2⟩ := Ints.at_ (Reads.below hl hb) h
    obtain rfl : ad = ad' := by injection hA
    refine ⟨_, c2, ?_, ?_⟩
    ·rw [drop_getD l (i + 1) (by omega)]; rfl
    ·rw [List.tail_drop]
   have hno : ¬ i + 1 < n -> (l.drop (i + 1)).head? = none := by
    intro h
    rw [List.drop_eq_nil_of_le (by omega)]; rfl
   have HST := Lib.hid hst
   have HNX := Lib.hid hnext
   have HNO := Lib.hid hno
   clear hx hdr hst hnext hno
   have hwr := hb.size
   by_cases h10 : x = 10
   ·subst h10
    go_wp2_with (at_builtin; refine wpList_append_own_at _ rfl (.tmp 19) (.tmp 25) 181 rfl w.heap.size 184 ip zp 4 32 Tryz.underlying181 hip hp0 hp1 hp2 hp3 (by decide) u4 ls.length _ rfl (hown.out.alloc _) ⟨wr.heap.size, 0, none⟩ 1 1 [.int .i64 f, .int .i64 (i : Int), .int .i64 ((i : Int) + 1), .int .i64 1] rfl rfl (cells_new _ _ _) (line_one _ _ _ _) (by unfold maxLen; omega) (by omega) (by simp; omega) ?_)
    intro v1 w1 hown1 hgr _ _
    have hb1 : Below w.heap.size w w1 := below_grown2 (balloc hb) hgr (fun k hk => own_ge hown.out hk)
    have HO := Lib.hid hown1
    clear hown1 hgr hip hp0 hp1 hp2 hp3
    go_wp2_with fail
    go_roundg (n - (i + 1))
    case measure => omega
    case rel =>
     refine ⟨i + 1, (i : Int) + 1, ls ++ [⟨f, i, (i : Int) + 1, 1⟩], v1, rfl, rfl, by go_num, by omega, by omega, by omega, by omega, by simp; omega, Lib.hid ?_, Lib.hid ?_, hb1⟩
     ·rw [HST.out, if_true, List.append_assoc]; rfl
     ·rw [lnCells_snoc, List.length_append]; exact HO.out
   ·have q10 : (x == 10) = false := by rw [beq_eq_false_iff_ne]; exact h10
    by_cases h13 : x = 13
    ·subst h13
     clear h10
     by_cases h2 : i + 1 < n
     ·obtain ⟨y, c2, hy1, hy2⟩ := HNX.out h2
      have c2' : wr.cell? ⟨ad.block, ad.off + (i + 1), none⟩ = some (.int .i64 y) := by rw [<- add_pos ad (i + 1) (by omega)]; exact c2
      have q2 : ((i : Int) + 1 < (n : Int)) = True := by simp; omega
      have HY1 := Lib.hid hy1
      have HY2 := Lib.hid hy2
      clear hy1 hy2
      by_cases hy : y = 10
      ·subst hy
       go_wp2_with (at_builtin; refine wpList_append_own_at _ rfl (.tmp 49) (.tmp 55) 181 rfl w.heap.size 184 ip zp 4 32 Tryz.underlying181 hip hp0 hp1 hp2 hp3 (by decide) u4 ls.length _ rfl (hown.out.alloc _) ⟨wr.heap.size, 0, none⟩ 1 1 [.int .i64 f, .int .i64 (i : Int), .int .i64 ((i : Int) + 2), .int .i64 2] rfl rfl (cells_new _ _ _) (line_one _ _ _ _) (by unfold maxLen; omega) (by omega) (by simp; omega) ?_)
       intro v1 w1 hown1 hgr _ _
       have hb1 : Below w.heap.size w w1 := below_grown2 (balloc hb) hgr (fun k hk => own_ge hown.out hk)
       have HO := Lib.hid hown1
       clear hown1 hgr hip hp0 hp1 hp2 hp3
       go_wp2_with fail
       go_roundg (n - (i + 2))
       case measure => omega
       case rel =>
        refine ⟨i + 2, (i : Int) + 2, ls ++ [⟨f, i, (i : Int) + 2, 2⟩], v1, rfl, rfl, by go_num, by omega, by omega, by omega, by omega, by simp; omega, Lib.hid ?_, Lib.hid ?_, hb1⟩
        ·rw [HST.out, if_neg (by omega), if_true, if_pos HY1.out, HY2.out, List.append_assoc]; rfl
        ·rw [lnCells_snoc, List.length_append]; exact HO.out
      ·have qy : (y == 10) = false := by rw [beq_eq_false_iff_ne]; exact hy
       go_wp2_with (at_builtin; refine wpList_append_own_at _ rfl (.tmp 66) (.tmp 72) 181 rfl w.heap.size 184 ip zp 4 32 Tryz.underlying181 hip hp0 hp1 hp2 hp3 (by decide) u4 ls.length _ rfl (hown.out.alloc _) ⟨wr.heap.size, 0, none⟩ 1 1 [.int .i64 f, .int .i64 (i : Int), .int .i64 ((i : Int) + 1), .int .i64 3] rfl rfl (cells_new _ _ _) (line_one _ _ _ _) (by unfold maxLen; omega) (by omega) (by simp; omega) ?_)
       intro v1 w1 hown1 hgr _ _
       have hb1 : Below w.heap.size w w1 := below_grown2 (balloc hb) hgr (fun k hk => own_ge hown.out hk)
       have HO := Lib.hid hown1
       clear hown1 hgr hip hp0 hp1 hp2 hp3
       go_wp2_with fail
       go_roundg (n - (i + 1))
       case measure => omega
       case rel =>
        refine ⟨i + 1, (i : Int) + 1, ls ++ [⟨f, i, (i : Int) + 1, 3⟩], v1, rfl, rfl, by go_num, by omega, by omega, by omega, by omega, by simp; omega, Lib.hid ?_, Lib.hid ?_, hb1⟩
        ·rw [HST.out, if_neg (by omega), if_true, if_neg (by rw [HY1.out]; simpa using hy), List.append_assoc]; rfl
        ·rw [lnCells_snoc, List.length_append]; exact HO.out
     ·have q2 : ((i : Int) + 1 < (n : Int)) = False := by simp; omega
      go_wp2_with (at_builtin; refine wpList_append_own_at _ rfl (.tmp 66) (.tmp 72) 181 rfl w.heap.size 184 ip zp 4 32 Tryz.underlying181 hip hp0 hp1 hp2 hp3 (by decide) u4 ls.length _ rfl (hown.out.alloc _) ⟨wr.heap.size, 0, none⟩ 1 1 [.int .i64 f, .int .i64 (i : Int), .int .i64 ((i : Int) + 1), .int .i64 3] rfl rfl (cells_new _ _ _) (line_one _ _ _ _) (by unfold maxLen; omega) (by omega) (by simp; omega) ?_)
      intro v1 w1 hown1 hgr _ _
      have hb1 : Below w.heap.size w w1 := below_grown2 (balloc hb) hgr (fun k hk => own_ge hown.out hk)
      have HO := Lib.hid hown1
      clear hown1 hgr hip hp0 hp1 hp2 hp3
      go_wp2_with fail
      go_roundg (n - (i + 1))
      case measure => omega
      case rel =>
       refine ⟨i + 1, (i : Int) + 1, ls ++ [⟨f, i, (i : Int) + 1, 3⟩], v1, rfl, rfl, by go_num, by omega, by omega, by omega, by omega, by simp; omega, Lib.hid ?_, Lib.hid ?_, hb1⟩
       ·rw [HST.out, if_neg (by omega), if_true, if_neg (by rw [HNO.out h2]; simp), List.append_assoc]; rfl
       ·rw [lnCells_snoc, List.length_append]; exact HO.out
    ·have q13 : (x == 13) = false := by rw [beq_eq_false_iff_ne]; exact h13
     go_wp2_with fail
     go_roundg (n - (i + 1))
     case measure => omega
     case rel =>
      refine ⟨i + 1, f, ls, u4, rfl, rfl, by go_num, by omega, by omega, by omega, by omega, by omega, Lib.hid ?_, hown, hb⟩
      rw [HST.out, if_neg h10, if_neg h13]; rfl
  ·obtain rfl : i = l.length := by omega
   have hst := hall.out
   rw [List.drop_length, allG_nil] at hst
   have HST := Lib.hid hst
   have hwr := hb.size
   obtain ⟨N, hN⟩ : ∃ N, l.length = N := ⟨_, rfl⟩
   have HN := Lib.hid hN
   obtain ⟨A4, c4, hv4, hc4⟩ := own_slice hown.out
   subst hv4
   clear hst hall hN
   go_wp2_with (at_builtin; refine wpList_append_own_at _ rfl (.tmp 78) (.tmp 85) 181 rfl w.heap.size 184 ip zp 4 32 Tryz.underlying181 hip hp0 hp1 hp2 hp3 (by decide) (.slice A4 ls.length c4) ls.length _ rfl (hown.out.alloc _) ⟨wr.heap.size, 0, none⟩ 1 1 [.int .i64 f, .int .i64 (n : Int), .int .i64 (n : Int), .int .i64 0] rfl rfl (cells_new _ _ _) (line_one _ _ _ _) (by unfold maxLen; omega) (by omega) (by simp; omega) ?_)
   intro v1 w1 hown1 hgr _ _
   have hb1 : Below w.heap.size w w1 := below_grown2 (balloc hb) hgr (fun k hk => own_ge hown.out hk)
   have hfin : w1.ownsRow w.heap.size 184 4 v1 (allG l 0 0).length (lnCells (allG l 0 0)) := by
    rw [HST.out, lnCells_snoc, List.length_append, HN.out, hle.symm.trans HN.out |>.symm]
    exact hown1
   have HF := Lib.hid hfin
   have hn0 : ((n : Int) == 0) = true \/ (((n : Int) == 0) = false /\ (f < (n : Int)) = True) \/ (((n : Int) == 0) = false /\ (f < (n : Int)) = False) := by
    rw [beq_iff_eq, beq_eq_false_iff_ne]; simp; omega
   obtain ⟨r1, c1, hv1, _, _⟩ := hown1.form (by omega)
   subst hv1
   clear hown1 hgr hfin hip hp0 hp1 hp2 hp3
   rcases hn0 with h1 | ⟨h1, h2⟩ | ⟨h1, h2⟩
   all_goals
    go_wp2_with fail
    go_ret2
    exact ⟨_, _, rfl, HF.out, hb1⟩
theorem rnative_any (D : Nat -> Prop) (A : Option Addr) (n c : Nat) (l : List Int) (fb : Int) (w : World) (hl : Ints w D A n l) (hn : n <= 1073741824) :
  Calls Tryz.prog 61 #[.slice A n c, .int .i64 fb] w fun e w' => e = .returned (.int .i64 (natF l fb)) /\ Below w.heap.size w w' := by
 have hc := rall_any D A n c l w hl hn
 obtain ⟨L, ls, hL, hbr⟩ := allG_head l 0 0
 have hfin : natF l fb = if L.brk = 0 then fb else L.brk := by unfold natF; rw [hbr]
 rw [hfin]
 have HC := Lib.hid hc
 have HL := Lib.hid hL
 obtain ⟨x0, x1, x2, x3⟩ := L
 dsimp only
 clear hc hL hbr hfin
 go_enter Tryz.func61, Tryz.ntmps61
 go_wp2_with fail
 refine (HC.out).mono ?_
 rintro e w1 ⟨v, N, rfl, hown, hb1⟩
 rw [HL.out] at hown
 obtain ⟨g, cap, rfl, _, _⟩ := hown.form (by simp)
 have c3 := hown.cells (g := g) rfl 3 (.int .i64 x3) rfl
 rw [add_pos _ 3 (by omega)] at c3
 simp only [Nat.zero_add] at c3
 obtain ⟨m, hm⟩ : ∃ m, (Ln.mk x0 x1 x2 x3 :: ls).length = m + 1 := ⟨ls.length, rfl⟩
 rw [hm]
 have hm0 : ((0 : Nat) : Int) < ((m + 1 : Nat) : Int) := by omega
 have hm1 : 0 < m + 1 := by omega
 clear hown hm
 by_cases h0 : x3 = 0
 ·have q : (x3 != 0) = false := by simp [h0]
  go_wp2_with fail
  go_ret
  exact ⟨rfl, hb1⟩
 ·have q : (x3 != 0) = true := by rw [bne_iff_ne]; exact h0
  go_wp2_with fail
  go_ret
  exact ⟨rfl, hb1⟩
def RDeskAt (w : World) (gd gb gk : Nat) (native : Int) : Prop :=
 Blk w gd 111 #[.pointer (some ⟨gb, 0, none⟩), .pointer (some ⟨gk, 0, none⟩), .int .i64 0, .slice none 0 0, .slice none 0 0, .slice none 0 0, .int .i64 0, .bool false, .bool false, .int .i64 native]
structure RNewDesk (B : Nat) (enc lim native depth : Int) (l : List Int) (w' : World) (gd gb gt gk : Nat) (ld : Value) : Prop where
 desk : RDeskAt w' gd gb gk (natF ((dec enc l).map Prod.fst) native)
 book : Blk w' gb 123 (rbookC enc lim depth gt ld)
 loaded : w'.ownsRow B 5 1 ld l.length (l.map (Value.int .u8))
 text : RText w' B gt enc lim ((dec enc l).map Prod.fst) ((tagF 0 0 (dec enc l)).map Prod.snd)
 ge : B <= gd /\ B <= gb /\ B <= gt /\ B <= gk
def RNewPost (enc lim native depth : Int) (l : List Int) (w : World) (e : Ending) (w' : World) : Prop :=
 ∃ gd gb gt gk ld, e = .returned (.tuple #[.pointer (some ⟨gd, 0, none⟩), .int .i64 0]) /\ RNewDesk w.heap.size enc lim native depth l w' gd gb gt gk ld /\ Below w.heap.size w w'
theorem RText.set_ {w : World} {B g i k : Nat} {enc lim : Int} {a t : List Int} {T : TypeId} {cs : Array Value} {u : Value} (h : RText w B g enc lim a t) (hb : Blk w k T cs) (h1 : T ≠ 115) (h2 : T ≠ 3) : RText (w.setCell ⟨k, i, none⟩ u) B g enc lim a t := by
 obtain ⟨va, vt, t1, t2, t3⟩ := h
 exact ⟨va, vt, Blk.far t1 (fun e => Blk.ne_ hb t1 h1 e.symm) _, own_set_other t2 hb h2.symm, own_set_other t3 hb h2.symm⟩
theorem r12new_any (enc lim native depth : Int) (D : Nat -> Prop) (A : Option Addr) (n c : Nat) (l : List Int) (w : World) (hl : Bts w D A n l) (hB : Byt l) (hcap : n <= c) (h0 : newErr enc lim native depth n = 0) :
  Calls Tryz.prog 23 #[.int .i64 enc, .slice A n c, .int .i64 lim, .int .i64 native, .int .i64 depth] w fun e w' => RNewPost enc lim native depth l w e w' := by
 have hd : ¬ (native < 1 \/ 3 < native) := by
  intro h
  unfold newErr at h0
  rw [if_pos h] at h0
  cases h0
 have ho : bookErr enc lim depth n = 0 := by
  unfold newErr at h0
  rw [if_neg hd] at h0
  exact h0
 have hc := r7open_any enc lim depth D A n c l w hl hB hcap ho
 have q0 : (native < 1) = False := by simp; omega
 have q1 : (3 < native) = False := by simp; omega
 have hlen : ((dec enc l).map Prod.fst).length <= 1073741824 := by
  have h1 := (openErr_ok (by unfold bookErr at ho; split at ho; cases ho; exact ho)).2
  have h2 := (sumsOf_good' (dec_pos enc l))
  have h3 := sumsOf_bytes enc l
  have h4 := hl.len
  rw [List.length_map]
  obtain ⟨⟨_, _, h5, _⟩, h6, _⟩ := h2
  omega
 have HC := Lib.hid hc
 clear hc ho h0 hd
 go_enter Tryz.func23, Tryz.ntmps23
 go_wp2_with fail
 refine (HC.out).mono ?_
 rintro e w1 ⟨gb, gt, ld, rfl, hbk, hld, hT, h1, h2, hb1⟩
 go_wp2_with fail
 refine (rbank_any w1).mono ?_
 rintro e w2 ⟨gk, rfl, h4, hb2⟩
 have hs1 := hb1.size
 have hs2 := hb2.size
 have hbk2 := (hbk.below hb2).alloc (.cells #[.pointer (some ⟨gb, 0, none⟩), .pointer (some ⟨gk, 0, none⟩), .int .i64 0, .slice none 0 0, .slice none 0 0, .slice none 0 0, .int .i64 0, .bool false, .bool false, .int .i64 0] 111)
 have hD := Blk.new w2 111 #[.pointer (some ⟨gb, 0, none⟩), .pointer (some ⟨gk, 0, none⟩), .int .i64 0, .slice none 0 0, .slice none 0 0, .slice none 0 0, .int .i64 0, .bool false, .bool false, .int .i64 0]
 have hb3 : Below w2.heap.size w2 (w2.alloc (.cells #[.pointer (some ⟨gb, 0, none⟩), .pointer (some ⟨gk, 0, none⟩), .int .i64 0, .slice none 0 0, .slice none 0 0, .slice none 0 0, .int .i64 0, .bool false, .bool false, .int .i64 0] 111)) := balloc (Below.refl _ _)
 have hT3 := (hT.below hb2).below hb3
 have hll := ownsRow_below (ownsRow_below hld hb2) hb3
 have HLL := Lib.hid hll
 have HT3 := Lib.hid hT3
 obtain ⟨va, vt, t1, t2, t3⟩ := hT3
 obtain ⟨A', c', rfl, hc'⟩ := own_slice t2
 have b4 := hbk2.cell 4
 have t4 := Blk.cell t1 2
 simp [rbookC] at b4
 simp at t4
 have hI := Reads.of_own t2
 have hn := fun (w' : World) (hb : Below _ _ w') => rnative_any _ A' ((dec enc l).map Prod.fst).length c' ((dec enc l).map Prod.fst) native w' (Reads.below hI hb) hlen
 obtain ⟨N, hN⟩ : ∃ N, natF ((dec enc l).map Prod.fst) native = N := ⟨_, rfl⟩
 rw [hN] at hn
 simp only [List.length_map] at hn
 have HN := Lib.hid hn
 have HNN := Lib.hid hN
 have HD := Lib.hid hD
 have HBK := Lib.hid hbk2
 have HB3 := Lib.hid hb3
 clear hn hN hll t1 t2 t3 hI hc' hlen hD hbk2 hb3 hT hld
 go_wp2_with fail
 have hb3 := HB3.out
 have hD := HD.out
 have hbk2 := HBK.out
 have hnn := HN.out _ (Below.refl _ _)
 refine (hnn).mono ?_
 rintro e w4 ⟨rfl, hb4⟩
 have hD4 := hD.below hb4
 have f9 := hD4.frozen 9
 have c9 := hD4.cell 9
 simp at c9
 go_wp2_with fail
 go_ret2
 have hbw4 : Below w.heap.size w w4 := bseq (bseq (bseq hb1 hb2) hb3) hb4
 refine ⟨w2.heap.size, gb, gt, gk, ld, rfl, ⟨?_, ?_, ?_, ?_, by omega⟩, hbw4.setCell (by simp; omega) _⟩
 ·rw [HNN.out]
  exact hD4.set_ 9 _
 ·exact (hbk2.below hb4).far (by have := (hbk.below hb2).lt; simp; omega) _
 ·exact own_set_other (ownsRow_below HLL.out hb4) hD4 (by decide)
 ·exact RText.set_ (HT3.out.below hb4) hD4 (by decide) (by decide)
def SameR (x y : List Int) (w0 : World) (k : Nat) (q : Value) (wr : World) : Prop :=
 ∃ i : Nat, q = .int .i64 (i : Int) /\ i <= x.length /\ x.length - i <= k /\ Hid (∀ j, j < i -> x.getD j 0 = y.getD j 0) /\ Below w0.heap.size w0 wr
theorem list_eq_getD {x y : List Int} (hl : x.length = y.length) (h : ∀ j, j < x.length -> x.getD j 0 = y.getD j 0) : x = y := by
 apply List.ext_getElem hl
 intro i h1 h2
 have := h i h1
 rw [List.getD_eq_getElem?_getD, List.getD_eq_getElem?_getD, List.getElem?_eq_getElem h1, List.getElem?_eq_getElem h2] at this
 simpa using this
theorem same_any (D D' : Nat -> Prop) (A A' : Option Addr) (n c m c' : Nat) (x y : List Int) (w : World) (hx : Ints w D A n x) (hy : Ints w D' A' m y) (hn : n <= 1073741824) (hm : m <= 1073741824) :
  Calls Tryz.prog 13 #[.slice A n c, .slice A' m c'] w fun e w' => e = .returned (.bool (decide (x = y))) /\ Below w.heap.size w w' := by
 have hxl := hx.len
 have hyl := hy.len
 by_cases hnm : n = m
 ·subst hnm
  have q1 : ((n : Int) != (n : Int)) = false := by simp
  go_enter Tryz.func13, Tryz.ntmps13
  go_wp2_with fail
  go_loopg [5] n (fun k q wr => SameR x y w k q wr)
  case atStart => exact ⟨0, rfl, Nat.zero_le _, by omega, Lib.hid (fun j hj => absurd hj (by omega)), Below.refl _ _⟩
  case round =>
   obtain ⟨i, rfl, hi, hk, hh, hb⟩ := hrel
   by_cases hlt : i < n
   ·obtain ⟨ad, hA, _, c1⟩ := Ints.at_ (Reads.below hx hb) hlt
    obtain ⟨ad', hA', _, c2⟩ := Ints.at_ (Reads.below hy hb) hlt
    subst hA
    subst hA'
    obtain ⟨a, ha⟩ : ∃ a, x.getD i 0 = a := ⟨_, rfl⟩
    obtain ⟨b, hb'⟩ : ∃ b, y.getD i 0 = b := ⟨_, rfl⟩
    rw [ha] at c1
    rw [hb'] at c2
    have HA := Lib.hid ha
    have HB := Lib.hid hb'
    have x1 : (0 : Int) <= (i : Int) := by omega
    have x2 : (i : Int) < (n : Int) := by omega
    clear ha hb'
    by_cases hab : a = b
    ·have hne : (a != b) = false := by simp [hab]
     go_wp2_with fail
     go_quiet (fail)
     go_wp2_with fail
     go_roundg (n - (i + 1))
     case measure => omega
     case rel =>
      refine ⟨i + 1, by go_num, by omega, by omega, Lib.hid (fun j hj => ?_), below_drewN hb _⟩
      rcases Nat.lt_or_ge j i with h | h
      ·exact hh.out j h
      ·rw [show j = i by omega, HA.out, HB.out, hab]
    ·have hne : (a != b) = true := by simp [hab]
     go_wp2_with fail
     go_quiet (fail)
     go_wp2_with fail
     go_ret
     refine ⟨ret_b ?_, below_drewN hb _⟩
     symm
     rw [decide_eq_false_iff_not]
     intro h
     apply hab
     rw [<- HA.out, <- HB.out, h]
   ·go_wp2_with fail
    go_ret
    refine ⟨ret_b ?_, hb⟩
    symm
    rw [decide_eq_true_eq]
    exact list_eq_getD (by omega) (fun j hj => hh.out j (by omega))
 ·have q1 : ((n : Int) != (m : Int)) = true := by rw [bne_iff_ne]; omega
  go_enter Tryz.func13, Tryz.ntmps13
  go_wp2_with fail
  go_ret
  refine ⟨ret_b ?_, Below.refl _ _⟩
  symm
  rw [decide_eq_false_iff_not]
  intro h
  rw [h] at hxl
  omega
theorem same_eq {D D' : Nat -> Prop} {A A' : Option Addr} {n c m c' : Nat} {x : List Int} {w : World} (hx : Ints w D A n x) (hy : Ints w D' A' m x) (hn : n <= 1073741824) :
  Calls Tryz.prog 13 #[.slice A n c, .slice A' m c'] w fun e w' => e = .returned (.bool true) /\ Below w.heap.size w w' := by
 have h1 := hx.len
 have h2 := hy.len
 have := same_any D D' A A' n c m c' x x w hx hy hn (by omega)
 rwa [show decide (x = x) = true by simp] at this
theorem tags1_any (base g : Nat) (a tg : Int) (xs : List Int) (X : Nat -> Prop) (w : World) (h : SeeJ base g xs X w) (hg : base <= g) (hW : base <= w.heap.size) (hn : xs.length <= 2147483648) :
  Calls Tryz.prog 72 #[.int .i64 a, .int .i64 tg, .pointer (some ⟨g, 0, none⟩)] w fun e w' => SeenPost (SeeJ base g) (xs ++ [tg]) X w e w' := by
 obtain ⟨v, hb, ho, rfl⟩ := h
 obtain ⟨i0, hi, hz0, hz1, hz2⟩ := info_parts int_info
 have c0 := hb.cell 0
 have f0 := hb.frozen 0
 simp at c0
 have hglt := hb.lt
 go_enter Tryz.func72, Tryz.ntmps72
 go_wp2_with (at_builtin; refine wpList_append_own_at _ rfl (.tmp 5) (.tmp 7) 34 rfl base 3 i0 (.int .i64 0) 1 8 Tryz.underlying34 hi hz0 hz1 hz2 rfl (by decide) v xs.length _ rfl (ho.alloc _) ⟨w.heap.size, 0, none⟩ 1 1 [.int .i64 tg] rfl rfl ?c1 ?c2 ?c3 ?c4 ?c5 ?_)
 case c1 => exact cell_one_new _ _ _
 case c2 => simp [Value.oneCell']
 case c3 => unfold maxLen; omega
 case c4 => omega
 case c5 => simp; omega
 intro v1 w1 hown1 hgr _ hat
 have hb1 : Blk w1 g 34 #[v] := (hb.alloc _).grown hgr (fun e => own_blk_ne ho hb (by decide) e.symm)
 have hfr : Fr (fun b => b = g \/ v.ownBlock = some b) w w1 := ((Fr.refl _ w).alloc _).grown hgr (fun r hr _ => .inr hr)
 have hnew : ∀ b, v1.ownBlock = some b -> v.ownBlock = some b \/ w.heap.size <= b := by
  intro b e
  rcases hat with h | h
  ·exact .inl (h.symm.trans e)
  ·rw [h] at e
   injection e with e
   exact .inr (by rw [<- e]; simp)
 have c1 := hb1.cell 0
 have f1 := hb1.frozen 0
 simp at c1
 clear c0 f0
 obtain ⟨r, cap, rfl, _, hrl⟩ := hown1.form (by omega)
 have HNW := Lib.hid hnew
 clear hnew hat
 go_wp2_with fail
 go_end0
 refine ⟨rfl, ⟨_, ⟨_, hb1.set_ 0 _, ?_, rfl⟩, ?_⟩, hfr.setCell (.inl (.inl rfl)) _⟩
 ·rw [List.length_append, List.map_append]
  exact ownsRow_setCell_other hown1 (own_blk_ne hown1 hb1 (by decide)) _
 ·rintro b (hb2 | hb2)
  ·exact .inl (.inl hb2)
  ·rcases HNW.out b hb2 with h3 | h3
   ·exact .inl (.inr h3)
   ·exact .inr h3
theorem seeT_sees (base g : Nat) (hg : base <= g) : Sees 72 #[.pointer (some ⟨g, 0, none⟩)] (fun (s : List Int) X w => SeeJ base g s X w /\ base <= w.heap.size) (fun s _ t => s ++ [t]) List.length := by
 constructor
 ·intro s a _; simp
 ·rintro s X a tg w ⟨h, hb⟩ hn
  refine (tags1_any base g a tg s X w h hg hb hn).mono ?_
  rintro e w' ⟨rfl, ⟨X', h1, h2⟩, h3⟩
  exact ⟨rfl, ⟨X', ⟨h1, Nat.le_trans hb h3.size⟩, h2⟩, h3⟩
 ·exact Tryz.call72
 ·rintro s X w b ⟨⟨v, hb, ho, rfl⟩, _⟩ (rfl | hx)
  ·exact ⟨_, _, hb, .inr rfl⟩
  ·rcases ho.2 with ⟨rfl, _⟩ | ⟨r, cap, cur, rfl, h1, h2, _⟩
   ·simp [Value.ownBlock] at hx
   ·have e : r = b := by simpa [Value.ownBlock] using hx
    subst e
    exact ⟨_, _, h2, .inl rfl⟩
 ·rintro s X w w' ⟨⟨v, hb, ho, rfl⟩, hbs⟩ hk
  have hg1 : Blk w' g 34 #[v] := (hk g (.inl rfl)).trans hb
  refine ⟨⟨v, hg1, ⟨ho.1, ?_⟩, rfl⟩, by have := hg1.lt; omega⟩
  rcases ho.2 with h | ⟨r, cap, cur, rfl, h1, h2, h3⟩
  ·exact .inl h
  ·exact .inr ⟨r, cap, cur, rfl, h1, (hk r (.inr rfl)).trans h2, h3⟩
theorem foldl_snd (l : List (Int × Int)) : ∀ s : List Int, l.foldl (fun s a => s ++ [a.2]) s = s ++ l.map Prod.snd := by
 induction l with
 | nil => intro s; simp
 | cons a l ih => intro s; simp [ih]
theorem TextL.tags {w : World} {D : Nat -> Prop} {g : Nat} {enc lim : Int} {ds ats : List (Int × Int)} (h : TextL w D g enc lim ds ats) : TextTag w D g enc ats := by
 obtain ⟨t, a, add, h, _, _, e, _⟩ := h
 exact ⟨lim, t, a, add, h, e⟩
theorem TextL.more {w : World} {D D' : Nat -> Prop} {g : Nat} {enc lim : Int} {ds ats : List (Int × Int)} (h : TextL w D g enc lim ds ats) (hD : ∀ b, D b -> b < w.heap.size -> D' b) : TextL w D' g enc lim ds ats := by
 obtain ⟨t, a, add, h, hu, e⟩ := h
 exact ⟨t, a, add, ⟨h.blk, h.enc4, h.node, h.len, h.tot, h.ok, fun p hp => Reads.more (h.bts p hp) hD (by decide)⟩, hu, e⟩
theorem ttags_any (D : Nat -> Prop) (g : Nat) (enc lim : Int) (ds ats : List (Int × Int)) (f tt : Int) (w : World) (h : TextL w D g enc lim ds ats) (f0 : -2147483648 <= f) (t0 : tt <= 2147483648) :
  Calls Tryz.prog 29 #[.pointer (some ⟨g, 0, none⟩), .int .i64 f, .int .i64 tt] w fun e w' => NewInts (seg f tt (ats.map Prod.snd)) w e w' := by
 have hW : Below w.heap.size w (w.alloc (.cells #[.slice none 0 0] 34)) := balloc (Below.refl _ w)
 have ht := ((h.more (D' := fun b => b < w.heap.size) (fun b _ h => h)).below hW).tags
 have hc := twalk_any 72 #[.pointer (some ⟨w.heap.size, 0, none⟩)] (fun (s : List Int) X w' => SeeJ w.heap.size w.heap.size s X w' /\ w.heap.size <= w'.heap.size) (fun s _ t => s ++ [t]) List.length (seeT_sees _ _ (Nat.le_refl _))
  (fun b => b < w.heap.size) g enc ats f tt [] (fun b => b = w.heap.size \/ (Value.slice none 0 0).ownBlock = some b) _ ht (fun b hb _ hx => by rcases hx with rfl | hx; exact absurd hb (Nat.lt_irrefl _); simp [Value.ownBlock] at hx)
  ⟨⟨_, Blk.new w _ _, ⟨rfl, .inl ⟨rfl, rfl⟩⟩, rfl⟩, by simp⟩ (by simp) f0 t0
 rw [foldl_snd, seg_map, List.nil_append] at hc
 obtain ⟨L, hL⟩ : ∃ L, seg f tt (ats.map Prod.snd) = L := ⟨_, rfl⟩
 rw [hL] at hc ⊢
 have HC := Lib.hid hc
 clear hc hL
 go_enter Tryz.func29, Tryz.ntmps29
 go_wp2_with fail
 refine (HC.out).mono ?_
 rintro e w1 ⟨rfl, ⟨X', ⟨⟨v, hb, ho, rfl⟩, hs⟩, hx⟩, hf⟩
 have c0 := hb.cell 0
 simp at c0
 have HO := Lib.hid ho
 have hfin : Below w.heap.size w w1 := bfr hW hf (fun b hb => by rcases hb with rfl | hb; exact Nat.le_refl _; simp [Value.ownBlock] at hb)
 clear ho hx
 go_wp2_with fail
 go_ret
 exact ⟨v, rfl, HO.out, hfin⟩
end Go.Proofs.YtkoakanpaehkmaaGreatDoor
