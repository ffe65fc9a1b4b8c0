/-
  Package disk: an act on the directory; Make, Rename.
-/
import Derived.Test.YtflhiohjikgedaaGreatDoorLDisk5
set_option linter.unusedSimpArgs false
set_option linter.unusedVariables false
set_option maxRecDepth 100000
set_option maxHeartbeats 32000000
namespace Go.Proofs.YtflhiohjikgedaaGreatDoor
open Go.RowKit
theorem func_info : (Tryz.prog.info? 191).map (fun i => (i.zero, i.size, i.bytes)) = some (some .nilFunc, 1, 8) := by kernel_rfl
def AcOk (w : World) (ac : Value) (m : Nat) : Prop := ∃ xs, w.ownsRow 0 191 1 ac m xs
theorem AcOk.nil (w : World) : AcOk w (.slice none 0 0) 0 := ⟨_, World.ownsRow_nil _ _ _ _⟩
theorem AcOk.ne {w : World} {ac : Value} {m b : Nat} {T : TypeId} {cs : Array Value} (h : AcOk w ac m) (hb : Blk w b T cs) (hT : 191 ≠ T) : ac.ownBlock ≠ some b := by
 obtain ⟨xs, h⟩ := h
 exact own_blk_ne h hb hT
theorem AcOk.fr {w w' : World} {S : Nat -> Prop} {ac : Value} {m : Nat} (h : AcOk w ac m) (hf : Fr S w w') (hn : ∀ b, ac.ownBlock = some b -> ¬ S b) : AcOk w' ac m := by
 obtain ⟨xs, h⟩ := h
 refine ⟨xs, h.1, ?_⟩
 rcases h.2 with h1 | ⟨r, cap, cur, rfl, h1, h2, h3⟩
 ·exact .inl h1
 ·exact .inr ⟨r, cap, cur, rfl, h1, (hf.block r (Array.getElem?_eq_some_iff.1 h2).1 (hn r rfl)).trans h2, h3⟩
theorem AcOk.below {w w' : World} {ac : Value} {m : Nat} (h : AcOk w ac m) (hb : Below w.heap.size w w') : AcOk w' ac m := h.fr (S := fun _ => False) (Fr.of_below hb) (fun _ _ h => h)
theorem own_lt {w : World} {ac : Value} {m b : Nat} (h : AcOk w ac m) (hb : ac.ownBlock = some b) : b < w.heap.size := by
 obtain ⟨xs, h⟩ := h
 rcases h.2 with ⟨rfl, _⟩ | ⟨r, cap, cur, rfl, h1, h2, h3⟩
 ·simp [Value.ownBlock] at hb
 ·have : r = b := by simpa [Value.ownBlock] using hb
  subst this
  exact (Array.getElem?_eq_some_iff.1 h2).1
def ActX (d sb : Nat) (ac : Value) (b : Nat) : Prop := b = d \/ b = sb \/ ac.ownBlock = some b
def ActPost (d sb : Nat) (ls ac : Value) (last st : Int) (m : Nat) (l' : List (ByteArray × Value)) (w w' : World) : Prop :=
 ∃ ac', DkAt w' d sb ls ac' last st /\ AcOk w' ac' (m + 1) /\ MapS w' sb l' /\ Fr (ActX d sb ac) w w' /\ (ac'.ownBlock = ac.ownBlock \/ ∃ k, ac'.ownBlock = some k /\ w.heap.size <= k)
theorem act_any (F : FuncId) (caps : Array Value) (d sb : Nat) (ls ac : Value) (last st : Int) (m : Nat) (l' : List (ByteArray × Value)) (w : World) (h : DkAt w d sb ls ac last st) (hac : AcOk w ac m) (hm2 : m <= 1000) (hen : ∀ args w, (callFunc F args).run Tryz.prog w = .ok (.enter F args) w)
  (hsd : sb ≠ d) (hsa : ac.ownBlock ≠ some sb) (hdo : Calls Tryz.prog F (#[.map (some sb)] ++ caps) w fun e w' => e = .returned (.tuple #[]) /\ MapS w' sb l' /\ Fr (· = sb) w w') :
  Calls Tryz.prog 109 #[.pointer (some ⟨d, 0, none⟩), .func (.func F) #[] caps] w fun e w' => e = .returned (.tuple #[]) /\ ActPost d sb ls ac last st m l' w w' := by
 obtain ⟨A', cap, rfl⟩ : ∃ A c, ac = .slice A m c := by
  obtain ⟨_, ho⟩ := hac
  obtain ⟨A, c, e, _⟩ := own_slice ho
  exact ⟨A, c, e⟩
 have c1 := h.cell 1
 simp [dkC] at c1
 obtain ⟨i0, hi, hz0, hz1, hz2⟩ := info_parts func_info
 have HI := Lib.hid hi
 have H := Lib.hid h
 have HAC := Lib.hid hac
 have HDO := Lib.hid hdo
 have hne := hac.ne h (by decide)
 clear h hac hi hdo
 go_enter Tryz.func109, Tryz.ntmps109
 go_wp2_with fail
 refine (HDO.out).mono ?_
 rintro e w1 ⟨rfl, hm1, hf1⟩
 have h1 : DkAt w1 d sb ls (.slice A' m cap) last st := Blk.fr H.out hf1 (fun e => hsd e.symm)
 have ha1 : AcOk w1 (.slice A' m cap) m := HAC.out.fr hf1 (fun b hb e => by subst e; exact hsa hb)
 obtain ⟨xs, ho⟩ := ha1
 have c3 := h1.cell 3
 simp [dkC] at c3
 have H1 := Lib.hid h1
 have HM1 := Lib.hid hm1
 have HF1 := Lib.hid hf1
 have HO := Lib.hid ho
 clear hm1 hf1 h1 ho
 go_wp2_with (at_builtin; refine wpList_append_own_at _ rfl (.tmp 14) (.tmp 16) 60 rfl 0 191 i0 .nilFunc 1 8 Tryz.underlying60 HI.out hz0 hz1 hz2 rfl (by decide) (.slice A' m cap) m xs rfl (HO.out.alloc _) ⟨w1.heap.size, 0, none⟩ 1 1 [.func (.func F) #[] caps] rfl rfl ?c1 ?c2 ?c3 ?c4 ?c5 ?_)
 case c1 => exact cell_one_new _ _ _
 case c2 => simp [Value.oneCell']
 case c3 => unfold maxLen; omega
 case c4 => omega
 case c5 => omega
 intro v2 w2 ho2 hg2 _ hat
 have hf2 : Fr (fun b => (Value.slice A' m cap).ownBlock = some b) w1 w2 := ((Fr.refl _ w1).alloc _).grown hg2 (fun r hr _ => hr)
 have h2 : DkAt w2 d sb ls (.slice A' m cap) last st := Blk.fr H1.out hf2 hne
 have g3 := h2.frozen 3
 have x3 := h2.cell 3
 simp [dkC] at x3
 obtain ⟨A2, cap2, hv2, _⟩ := own_slice ho2
 have H2 := Lib.hid h2
 have HF2 := Lib.hid hf2
 have HO2 := Lib.hid ho2
 have hsz := HF1.out.size
 have HAT := Lib.hid hat
 clear ho2 hg2 hat h2 hf2
 subst hv2
 go_wp2_with fail
 go_end0
 have hn2 : (Value.slice A2 (m + 1) cap2).ownBlock ≠ some d := own_blk_ne HO2.out H2.out (by decide)
 have hfA : Fr (ActX d sb (.slice A' m cap)) w w2 := (HF1.out.more (S' := ActX d sb (.slice A' m cap)) (fun _ _ h => .inr (.inl h))).trans (HF2.out.more (fun _ _ h => .inr (.inr h)))
 refine ⟨rfl, _, Blk.set_ H2.out 3 _, ⟨_, ownsRow_setCell_other HO2.out hn2 _⟩, ?_, hfA.setCell (.inl (.inl rfl)) _, ?_⟩
 ·exact ((HM1.out.fr HF2.out hsa)).fr (S := (· = d)) ((Fr.refl _ _).set1 3 _) hsd
 ·rcases HAT.out with h | h
  ·exact .inl h
  ·refine .inr ⟨_, h, ?_⟩
   omega
theorem make2_any (s : ByteArray) (sb f b1 b2 : Nat) (l : List (ByteArray × Value)) (w : World) (hm : MapS w sb l) (h1 : w.cell? ⟨b1, 0, none⟩ = some (.pointer (some ⟨f, 0, none⟩))) (h2 : w.cell? ⟨b2, 0, none⟩ = some (.string s)) :
  Calls Tryz.prog 112 #[.map (some sb), .pointer (some ⟨b1, 0, none⟩), .pointer (some ⟨b2, 0, none⟩)] w fun e w' => e = .returned (.tuple #[]) /\ MapS w' sb (putS s (.pointer (some ⟨f, 0, none⟩)) l) /\ Fr (· = sb) w w' := by
 obtain ⟨w7, hr, hm7, hf7⟩ := hm.update (P := Tryz.prog) Tryz.underlying59 Tryz.underlying9 s (.pointer (some ⟨f, 0, none⟩))
 clear hm
 go_enter Tryz.func112, Tryz.ntmps112
 go_wp2_with fail
 go_end0
 exact ⟨rfl, hm7, hf7⟩
theorem MapS.len_ {P : Program} {w : World} {r : Nat} {l : List (ByteArray × Value)} {t kt et : TypeId} (h : MapS w r l) (ht : P.underlying t = some (.map kt et)) (ty : TypeId) : (Builtin.len_ #[t] ty #[.map (some r)]).run P w = .ok (.int .i64 (l.length : Int)) w := by
 obtain ⟨es, ck, hb, he, _⟩ := h
 have hsz : es.size = l.length := by
  have := congrArg List.length he
  simpa using this
 simp [Builtin.len_, run_underlying ht, MapKept.run_getObj_map hb, hsz, goInt]
def MkPost (d sb f : Nat) (ls ac : Value) (last st : Int) (m : Nat) (l' : List (ByteArray × Value)) (w w' : World) : Prop := ActPost d sb ls ac (last + 1) st m l' w w' /\ FlAt w' f (last + 1) (.slice none 0 0) 0 0 /\ w.heap.size <= f
theorem make1_any (s : ByteArray) (hs : NameOk s) (d sb b0 b1 : Nat) (ls ac : Value) (last st : Int) (m : Nat) (l : List (ByteArray × Value)) (w : World) (h : DkAt w d sb ls ac last st) (hlast : 0 <= last /\ last <= 1073741824) (hm : MapS w sb l) (hl : l.length <= 15) (hg : getS l s = none)
  (hac : AcOk w ac m) (hm2 : m <= 1000) (hsa : ac.ownBlock ≠ some sb) (h0 : Blk w b0 25 #[.pointer (some ⟨d, 0, none⟩)]) (h1 : Blk w b1 9 #[.string s]) :
  Calls Tryz.prog 111 #[.pointer (some ⟨b0, 0, none⟩), .pointer (some ⟨b1, 0, none⟩)] w fun e w' => e = .returned (.int .i64 0) /\ ∃ f, MkPost d sb f ls ac last st m (putS s (.pointer (some ⟨f, 0, none⟩)) l) w w' := by
 have hsd : sb ≠ d := hm.ne_blk h
 have HK := Lib.hid (find_none s hs d sb ls ac last st l w h hm hg)
 have x0 := h0.cell 0
 have x1 := h1.cell 0
 simp at x0 x1
 have H := Lib.hid h
 have HM := Lib.hid hm
 have HAC := Lib.hid hac
 have H0 := Lib.hid h0
 have H1 := Lib.hid h1
 have hb0 := h0.lt
 have hb0d : b0 ≠ d := Blk.ne_ h0 h (by decide)
 have hb1d : b1 ≠ d := Blk.ne_ h1 h (by decide)
 have hsm : sb < w.heap.size := hm.lt
 clear h hm hg hac h0 h1
 go_enter Tryz.func111, Tryz.ntmps111
 go_wp2_with fail
 refine (HK.out).mono ?_
 rintro e w1 ⟨rfl, hb1⟩
 go_upto_region 2 with fail
 obtain ⟨W, hW⟩ : ∃ W, w1.alloc (.cells #[.pointer none, .string ⟨#[]⟩] 103) = W := ⟨_, rfl⟩
 rw [hW]
 have hbW : Below w.heap.size w W := by rw [<- hW]; exact balloc hb1
 have hD : DkAt W d sb ls ac last st := Blk.below H.out hbW
 have c1 := hD.cell 1
 simp [dkC] at c1
 have y0 := (H0.out.below hbW).cell 0
 simp at y0
 have hlen := (HM.out.below hbW).len_ (P := Tryz.prog) Tryz.underlying59 3
 have q : ((16 : Int) <= (l.length : Int)) = False := by simp; omega
 have HFR := Lib.hid (dfresh_any d sb ls ac last st W hD hlast)
 have HBW := Lib.hid hbW
 obtain ⟨ll, hll⟩ : ∃ ll, l.length = ll := ⟨_, rfl⟩
 rw [hll] at q hlen
 clear hb1 hbW hD hW hll
 go_wp2_with fail
 refine (HFR.out).mono ?_
 rintro e w2 ⟨rfl, hd2, hf2, hfr2⟩
 have HFR2 := Lib.hid hfr2
 have hw2 : Fr (· = d) w w2 := (Fr.of_below HBW.out).trans hfr2
 obtain ⟨W3, hW3⟩ : ∃ W3, w2.alloc (.cells #[.pointer (some ⟨W.heap.size, 0, none⟩)] 64) = W3 := ⟨_, rfl⟩
 have hb3 : Below w2.heap.size w2 W3 := by rw [<- hW3]; exact balloc (Below.refl _ _)
 have hw3 : Fr (· = d) w W3 := hw2.bel hb3
 have k5 : Blk W3 w2.heap.size 64 #[.pointer (some ⟨W.heap.size, 0, none⟩)] := by rw [<- hW3]; exact Blk.new _ _ _
 have hd3 : DkAt W3 d sb ls ac (last + 1) st := Blk.below hd2 hb3
 have hf3 : FlAt W3 W.heap.size (last + 1) (.slice none 0 0) 0 0 := Blk.below hf2 hb3
 have y0 := (H0.out.fr hw3 hb0d).cell 0
 have z1 := H1.out.fr hw3 hb1d
 have z0 := (H0.out.fr hw2 hb0d).cell 0
 simp at y0 z0
 have HACT := Lib.hid (act_any 112 #[.pointer (some ⟨w2.heap.size, 0, none⟩), .pointer (some ⟨b1, 0, none⟩)] d sb ls ac (last + 1) st m (putS s (.pointer (some ⟨W.heap.size, 0, none⟩)) l) W3 hd3 (HAC.out.fr hw3 (fun b hb e => HAC.out.ne H.out (by decide) (by rw [<- e]; exact hb))) hm2 (fun _ _ => rfl) hsd hsa
  (make2_any s sb W.heap.size w2.heap.size b1 l W3 (HM.out.fr hw3 hsd) (k5.cell 0) (z1.cell 0)))
 have HW3 := Lib.hid hw3
 have HF3 := Lib.hid hf3
 have HD3 := Lib.hid hd3
 have hsW : w.heap.size <= W.heap.size := HBW.out.size
 have hlW := hf3.lt
 clear hd2 hf2 hfr2 hw2 hb3 hw3 k5 hd3 hf3 z1
 have e3 := hW3
 clear hW3
 go_wp2_with fail
 refine (HACT.out).mono ?_
 rintro e w4 ⟨rfl, ac', ha1, ha2, ha3, ha4, ha5⟩
 have hnX : ∀ b, ActX d sb ac b -> b < w.heap.size := by
  rintro b (h | h | h)
  ·rw [h]; exact H.out.lt
  ·rw [h]; exact hsm
  ·exact own_lt HAC.out h
 have HF4 := Lib.hid (Blk.fr HF3.out ha4 (fun h => by have := hnX _ h; omega))
 have HP : Hid (MkPost d sb W.heap.size ls ac last st m (putS s (.pointer (some ⟨W.heap.size, 0, none⟩)) l) w w4) := Lib.hid ⟨⟨ac', ha1, ha2, ha3, (HW3.out.more (S' := ActX d sb ac) (fun _ _ h => .inl h)).trans ha4, by
  rcases ha5 with h | ⟨k, h, hk⟩
  ·exact .inl h
  ·exact .inr ⟨k, h, Nat.le_trans HW3.out.size hk⟩⟩, HF4.out, hsW⟩
 clear ha1 ha2 ha3 ha4 ha5
 go_wp2_with fail
 go_ret
 exact ⟨rfl, _, HP.out⟩
theorem make_any (s : ByteArray) (hs : NameOk s) (d sb : Nat) (ls ac : Value) (last st : Int) (m : Nat) (l : List (ByteArray × Value)) (w : World) (h : DkAt w d sb ls ac last st) (hst : 0 <= st /\ st <= 1073741824) (hlast : 0 <= last /\ last <= 1073741824) (hm : MapS w sb l) (hl : l.length <= 15) (hg : getS l s = none)
  (hac : AcOk w ac m) (hm2 : m <= 1000) (hsa : ac.ownBlock ≠ some sb) :
  Calls Tryz.prog 94 #[.pointer (some ⟨d, 0, none⟩), .string s] w fun e w' => e = .returned .nilIface /\ ∃ f, MkPost d sb f ls ac last (st + 1) m (putS s (.pointer (some ⟨f, 0, none⟩)) l) w w' := by
 obtain ⟨W, hW⟩ : ∃ W, (w.alloc (.cells #[.pointer (some ⟨d, 0, none⟩)] 25)).alloc (.cells #[.string s] 9) = W := ⟨_, rfl⟩
 have hdl := h.lt
 have hsd : sb ≠ d := hm.ne_blk h
 have hb : Below w.heap.size w W := by rw [<- hW]; exact balloc (balloc (Below.refl _ _))
 have k2 : Blk W w.heap.size 25 #[.pointer (some ⟨d, 0, none⟩)] := by rw [<- hW]; exact (Blk.new w _ _).alloc _
 have k3 : Blk W (w.heap.size + 1) 9 #[.string s] := by
  rw [<- hW]
  have := Blk.new (w.alloc (.cells #[.pointer (some ⟨d, 0, none⟩)] 25)) 9 #[.string s]
  rw [World.size_alloc] at this
  exact this
 have hD : DkAt W d sb ls ac last st := Blk.below h hb
 have hAW : AcOk (stW W d st) ac m := (hac.below hb).fr (stW_fr W d st) (fun b hb e => hac.ne h (by decide) (by rw [<- e]; exact hb))
 have HC := make1_any s hs d sb w.heap.size (w.heap.size + 1) ls ac last (st + 1) m l (stW W d st) (stW_at hD) hlast ((hm.below hb).st hsd) hl hg hAW hm2 hsa (k2.st (by omega)) (k3.st (by omega))
 have HS := Lib.hid (fun (op : ByteArray) => step_any op s 111 #[.pointer (some ⟨w.heap.size, 0, none⟩), .pointer (some ⟨w.heap.size + 1, 0, none⟩)] .nilFunc d sb ls ac last st W hD hst (fun _ _ => rfl) _ HC)
 have c2 := k2.cell 0
 have c3 := k3.cell 0
 simp at c2 c3
 have HB := Lib.hid hb
 clear h hm hD hb HC hac hAW
 have e1 := hW
 clear hW
 go_enter Tryz.func94, Tryz.ntmps94
 go_wp2_with fail
 refine (HS.out _).mono ?_
 rintro e w1 ⟨rfl, f, ⟨ac', ha1, ha2, ha3, ha4, ha5⟩, hf1, hfs⟩
 have h0 : Fr (· = d) w (stW W d st) := (Fr.of_below HB.out).trans (stW_fr W d st)
 have HP : Hid (MkPost d sb f ls ac last (st + 1) m (putS s (.pointer (some ⟨f, 0, none⟩)) l) w w1) := Lib.hid ⟨⟨ac', ha1, ha2, ha3, (h0.more (S' := ActX d sb ac) (fun _ _ h => .inl h)).trans ha4, by
  rcases ha5 with h | ⟨k, h, hk⟩
  ·exact .inl h
  ·exact .inr ⟨k, h, Nat.le_trans h0.size hk⟩⟩, hf1, Nat.le_trans h0.size hfs⟩
 clear ha1 ha2 ha3 ha4 ha5 hf1 hfs c2 c3 k2 k3 e1
 go_wp2_with fail
 go_ret
 exact ⟨rfl, _, HP.out⟩
theorem rename2_any (s to_ : ByteArray) (sb f b1 b2 : Nat) (l : List (ByteArray × Value)) (w : World) (hm : MapS w sb l) (h1 : Blk w b1 103 #[.pointer (some ⟨f, 0, none⟩), .string s]) (h2 : Blk w b2 9 #[.string to_]) :
  Calls Tryz.prog 117 #[.map (some sb), .pointer (some ⟨b1, 0, none⟩), .pointer (some ⟨b2, 0, none⟩)] w fun e w' => e = .returned (.tuple #[]) /\ MapS w' sb (putS to_ (.pointer (some ⟨f, 0, none⟩)) (delS s l)) /\ Fr (· = sb) w w' := by
 obtain ⟨w6, hr6, hm6, hf6⟩ := hm.delete (P := Tryz.prog) Tryz.underlying59 Tryz.underlying9 s 9 0
 obtain ⟨w7, hr, hm7, hf7⟩ := hm6.update (P := Tryz.prog) Tryz.underlying59 Tryz.underlying9 to_ (.pointer (some ⟨f, 0, none⟩))
 have n1 := hm.ne_blk h1
 have n2 := hm.ne_blk h2
 have c1 := h1.cell 1
 have d0 := (h1.fr hf6 (fun e => n1 e.symm)).cell 0
 have d1 := (h2.fr hf6 (fun e => n2 e.symm)).cell 0
 simp at c1 d0 d1
 clear hm h1 h2 hm6
 go_enter Tryz.func117, Tryz.ntmps117
 go_wp2_with fail
 go_end0
 exact ⟨rfl, hm7, hf6.trans hf7⟩
theorem rename1_any (s to_ : ByteArray) (hs : NameOk s) (ht : NameOk to_) (hne : (s.toList == to_.toList) = false) (d sb f b0 b1 b2 : Nat) (ls ac : Value) (last st : Int) (m : Nat) (l : List (ByteArray × Value)) (w : World) (h : DkAt w d sb ls ac last st) (hm : MapS w sb l) (hg : getS l s = some (.pointer (some ⟨f, 0, none⟩)))
  (hac : AcOk w ac m) (hm2 : m <= 1000) (hsa : ac.ownBlock ≠ some sb) (h0 : Blk w b0 9 #[.string to_]) (h1 : Blk w b1 25 #[.pointer (some ⟨d, 0, none⟩)]) (h2 : Blk w b2 9 #[.string s]) :
  Calls Tryz.prog 116 #[.pointer (some ⟨b0, 0, none⟩), .pointer (some ⟨b1, 0, none⟩), .pointer (some ⟨b2, 0, none⟩)] w fun e w' => e = .returned (.int .i64 0) /\ ActPost d sb ls ac last st m (putS to_ (.pointer (some ⟨f, 0, none⟩)) (delS s l)) w w' := by
 have hsd : sb ≠ d := hm.ne_blk h
 have HN := Lib.hid (isName_any to_ ht w)
 have HK := Lib.hid (fun (w' : World) (hb : Below w.heap.size w w') => find_some s hs d sb f ls ac last st l w' (Blk.below h hb) (hm.below hb) hg)
 have x0 := h0.cell 0
 simp at x0
 have H := Lib.hid h
 have HM := Lib.hid hm
 have HAC := Lib.hid hac
 have H0 := Lib.hid h0
 have H1 := Lib.hid h1
 have H2 := Lib.hid h2
 clear h hm hg hac h0 h1 h2
 go_enter Tryz.func116, Tryz.ntmps116
 go_wp2_with fail
 refine (HN.out).mono ?_
 rintro e w1 ⟨rfl, hb1⟩
 have y1 := (H1.out.below hb1).cell 0
 have y2 := (H2.out.below hb1).cell 0
 simp at y1 y2
 have HK1 := Lib.hid (HK.out w1 hb1)
 have HB1 := Lib.hid hb1
 clear hb1
 go_wp2_with fail
 refine (HK1.out).mono ?_
 rintro e w2 ⟨rfl, hb2⟩
 go_upto_region 4 with fail
 obtain ⟨W, hW⟩ : ∃ W, w2.alloc (.cells #[.pointer (some ⟨f, 0, none⟩), .string s] 103) = W := ⟨_, rfl⟩
 rw [hW]
 have hbW : Below w.heap.size w W := by rw [<- hW]; exact balloc (bseq HB1.out hb2)
 have hk : Blk W w2.heap.size 103 #[.pointer (some ⟨f, 0, none⟩), .string s] := by rw [<- hW]; exact Blk.new _ _ _
 have v0 := (H0.out.below hbW).cell 0
 have v1 := (H1.out.below hbW).cell 0
 have v2 := (H2.out.below hbW).cell 0
 simp at v0 v1 v2
 have HACT := Lib.hid (act_any 117 #[.pointer (some ⟨w2.heap.size, 0, none⟩), .pointer (some ⟨b0, 0, none⟩)] d sb ls ac last st m (putS to_ (.pointer (some ⟨f, 0, none⟩)) (delS s l)) W (Blk.below H.out hbW) (HAC.out.below hbW) hm2 (fun _ _ => rfl) hsd hsa
  (rename2_any s to_ sb f w2.heap.size b0 l W (HM.out.below hbW) hk (H0.out.below hbW)))
 have HBW := Lib.hid hbW
 clear hbW hk hW hb2
 go_wp2_with fail
 refine (HACT.out).mono ?_
 rintro e w4 ⟨rfl, ac', ha1, ha2, ha3, ha4, ha5⟩
 have HP : Hid (ActPost d sb ls ac last st m (putS to_ (.pointer (some ⟨f, 0, none⟩)) (delS s l)) w w4) := Lib.hid ⟨ac', ha1, ha2, ha3, (Fr.of_below HBW.out).trans ha4, by
  rcases ha5 with h | ⟨k, h, hk⟩
  ·exact .inl h
  ·exact .inr ⟨k, h, Nat.le_trans HBW.out.size hk⟩⟩
 clear ha1 ha2 ha3 ha4 ha5
 go_wp2_with fail
 go_ret
 exact ⟨rfl, HP.out⟩
theorem rename_any (s to_ : ByteArray) (hs : NameOk s) (ht : NameOk to_) (hne : (s.toList == to_.toList) = false) (d sb f : Nat) (ls ac : Value) (last st : Int) (m : Nat) (l : List (ByteArray × Value)) (w : World) (h : DkAt w d sb ls ac last st) (hst : 0 <= st /\ st <= 1073741824) (hm : MapS w sb l) (hg : getS l s = some (.pointer (some ⟨f, 0, none⟩)))
  (hac : AcOk w ac m) (hm2 : m <= 1000) (hsa : ac.ownBlock ≠ some sb) :
  Calls Tryz.prog 97 #[.pointer (some ⟨d, 0, none⟩), .string s, .string to_] w fun e w' => e = .returned .nilIface /\ ActPost d sb ls ac last (st + 1) m (putS to_ (.pointer (some ⟨f, 0, none⟩)) (delS s l)) w w' := by
 obtain ⟨W, hW⟩ : ∃ W, ((w.alloc (.cells #[.pointer (some ⟨d, 0, none⟩)] 25)).alloc (.cells #[.string s] 9)).alloc (.cells #[.string to_] 9) = W := ⟨_, rfl⟩
 have hdl := h.lt
 have hsd : sb ≠ d := hm.ne_blk h
 have hb : Below w.heap.size w W := by rw [<- hW]; exact balloc (balloc (balloc (Below.refl _ _)))
 have k2 : Blk W w.heap.size 25 #[.pointer (some ⟨d, 0, none⟩)] := by rw [<- hW]; exact ((Blk.new w _ _).alloc _).alloc _
 have k3 : Blk W (w.heap.size + 1) 9 #[.string s] := by
  rw [<- hW]
  have := Blk.new (w.alloc (.cells #[.pointer (some ⟨d, 0, none⟩)] 25)) 9 #[.string s]
  rw [World.size_alloc] at this
  exact this.alloc _
 have k4 : Blk W (w.heap.size + 1 + 1) 9 #[.string to_] := by
  rw [<- hW]
  have := Blk.new ((w.alloc (.cells #[.pointer (some ⟨d, 0, none⟩)] 25)).alloc (.cells #[.string s] 9)) 9 #[.string to_]
  rw [World.size_alloc, World.size_alloc] at this
  exact this
 have hD : DkAt W d sb ls ac last st := Blk.below h hb
 have hAW : AcOk (stW W d st) ac m := (hac.below hb).fr (stW_fr W d st) (fun b hb e => hac.ne h (by decide) (by rw [<- e]; exact hb))
 have HC := rename1_any s to_ hs ht hne d sb f (w.heap.size + 1 + 1) w.heap.size (w.heap.size + 1) ls ac last (st + 1) m l (stW W d st) (stW_at hD) ((hm.below hb).st hsd) hg hAW hm2 hsa (k4.st (by omega)) (k2.st (by omega)) (k3.st (by omega))
 have HS := Lib.hid (fun (op : ByteArray) => step_any op s 116 #[.pointer (some ⟨w.heap.size + 1 + 1, 0, none⟩), .pointer (some ⟨w.heap.size, 0, none⟩), .pointer (some ⟨w.heap.size + 1, 0, none⟩)] .nilFunc d sb ls ac last st W hD hst (fun _ _ => rfl) _ HC)
 have c2 := k2.cell 0
 have c3 := k3.cell 0
 simp at c2 c3
 have HB := Lib.hid hb
 clear h hm hD hb HC hac hAW
 have e1 := hW
 clear hW
 go_enter Tryz.func97, Tryz.ntmps97
 go_wp2_with fail
 refine (HS.out _).mono ?_
 rintro e w1 ⟨rfl, ac', ha1, ha2, ha3, ha4, ha5⟩
 have h0 : Fr (· = d) w (stW W d st) := (Fr.of_below HB.out).trans (stW_fr W d st)
 have HP : Hid (ActPost d sb ls ac last (st + 1) m (putS to_ (.pointer (some ⟨f, 0, none⟩)) (delS s l)) w w1) := Lib.hid ⟨ac', ha1, ha2, ha3, (h0.more (S' := ActX d sb ac) (fun _ _ h => .inl h)).trans ha4, by
  rcases ha5 with h | ⟨k, h, hk⟩
  ·exact .inl h
  ·exact .inr ⟨k, h, Nat.le_trans h0.size hk⟩⟩
 clear ha1 ha2 ha3 ha4 ha5 c2 c3 k2 k3 k4 e1
 go_wp2_with fail
 go_ret
 exact ⟨rfl, HP.out⟩
end Go.Proofs.YtflhiohjikgedaaGreatDoor
