/-
  Package disk: room; Append.
-/
import Derived.Test.YtflhiohjikgedaaGreatDoorLDisk6
import Derived.Test.YtflhiohjikgedaaGreatDoorLHeavy
import Derived.Test.YtflhiohjikgedaaGreatDoorLStep
set_option linter.unusedSimpArgs false
set_option linter.unusedVariables false
set_option maxRecDepth 100000
set_option maxHeartbeats 32000000
namespace Go.Proofs.YtflhiohjikgedaaGreatDoor
open Go.RowKit
def FilesAt (w : World) (L : ByteArray × Value -> Nat) (l : List (ByteArray × Value)) : Prop := ∀ p ∈ l, ∃ (f : Nat) (num : Int) (A : Option Addr) (c : Nat) (sy ct : Int), p.2 = .pointer (some ⟨f, 0, none⟩) /\ FlAt w f num (.slice A (L p) c) sy ct
theorem FilesAt.fr {w w' : World} {S : Nat -> Prop} {L : ByteArray × Value -> Nat} {l : List (ByteArray × Value)} (h : FilesAt w L l) (hf : Fr S w w') (hn : ∀ b cs, Blk w b 66 cs -> ¬ S b) : FilesAt w' L l := by
 intro p hp
 obtain ⟨f, num, A, c, sy, ct, e, h1⟩ := h p hp
 exact ⟨f, num, A, c, sy, ct, e, Blk.fr h1 hf (hn f _ h1)⟩
def RoomR (W : World) (sb it : Nat) (L : ByteArray × Value -> Nat) (l : List (ByteArray × Value)) (S : Nat) (k : Nat) (q3 : Value) (wr : World) : Prop :=
 ∃ (left : List (ByteArray × Value)) (n : Nat), q3 = .int .i64 (n : Int) /\ RangeS wr sb it l left /\ n + S = 1048576 + (left.map L).sum /\ (∀ p ∈ left, p ∈ l) /\ Fr (· = it) W wr /\ left.length <= k /\ n <= 1048576
theorem room_any (d sb : Nat) (ls ac : Value) (last st : Int) (L : ByteArray × Value -> Nat) (l : List (ByteArray × Value)) (w : World) (h : DkAt w d sb ls ac last st) (hm : MapS w sb l) (hF : FilesAt w L l) (hS : (l.map L).sum <= 1048576) :
  Calls Tryz.prog 126 #[.pointer (some ⟨d, 0, none⟩)] w fun e w' => e = .returned (.int .i64 ((1048576 - (l.map L).sum : Nat) : Int)) /\ Below w.heap.size w w' := by
 have c0 := h.cell 0
 have c1 := h.cell 1
 simp [dkC] at c0 c1
 obtain ⟨W, hr, hR, hb, hsz⟩ := hm.range (P := Tryz.prog) Tryz.underlying59
 obtain ⟨it, hit⟩ : ∃ it, w.heap.size = it := ⟨_, rfl⟩
 have HF := Lib.hid (hF.fr (S := fun _ => False) (Fr.of_below hb) (fun _ _ _ h => h))
 have HB := Lib.hid hb
 rw [hit] at hr hR
 obtain ⟨S, hSS⟩ : ∃ S, (l.map L).sum = S := ⟨_, rfl⟩
 rw [hSS] at hS ⊢
 have HSS := Lib.hid hSS
 have HR := Lib.hid hR
 have hitW : ∀ b cs, Blk W b 66 cs -> b ≠ it := by
  rintro b cs hbk rfl
  obtain ⟨es, clock, since, seen, c0', _, _, _, h4, _⟩ := hR
  unfold Blk at hbk
  rw [h4] at hbk
  cases hbk
 have HIT := Lib.hid hit
 clear h hm hF hb hSS hR hit
 go_enter Tryz.func126, Tryz.ntmps126
 go_wp2_with fail
 go_loopg [3] l.length (fun k q3 wr => RoomR W sb it L l S k q3 wr)
 case atStart => exact ⟨l, 1048576, rfl, HR.out, by rw [HSS.out], fun _ h => h, Fr.refl _ _, Nat.le_refl _, by omega⟩
 case round =>
  obtain ⟨left, n, rfl, hRr, hn, hsub, hfr, hk, hn2⟩ := hrel
  rcases hRr.next (P := Tryz.prog) 0 with ⟨rfl, hnx⟩ | ⟨p, left', w2, hperm, hnx, hR2, hen, hf2, hs2⟩
  ·have HN := Lib.hid hn
   have HFR := Lib.hid hfr
   have HQ := Lib.hid (show (1048576 - S : Nat) = n by simp at hn; omega)
   have q2 : max (n : Int) 0 = (n : Int) := by omega
   clear hRr hn hfr hsub
   go_wp2_with fail
   go_ret
   exact ⟨ret_i (by rw [HQ.out]), bfr HB.out HFR.out (fun i hi => by rw [HIT.out]; exact Nat.le_of_eq hi.symm)⟩
  ·have hp : p ∈ left := hperm.symm.subset (List.mem_cons_self)
   obtain ⟨f, num, A, c, sy, ct, e2, hfl⟩ := (HF.out.fr (hfr.trans hf2) hitW) p (hsub p hp)
   have hsum : (left.map L).sum = L p + (left'.map L).sum := by
    have := (hperm.map L).sum_nat
    simpa using this
   obtain ⟨pk, pv⟩ := p
   dsimp only at e2 hnx hen
   subst e2
   have y1 := hfl.cell 1
   simp at y1
   obtain ⟨x, hx⟩ : ∃ x, L (pk, .pointer (some ⟨f, 0, none⟩)) = x := ⟨_, rfl⟩
   rw [hx] at y1 hsum
   have HHS := Lib.hid hsum
   have HHN := Lib.hid hn
   have hxn : x <= n := by omega
   have e1 : IntKind.i64.wrap ((n : Int) - (x : Int)) = ((n - x : Nat) : Int) := by rw [IntWalk.i64_in _ (by omega)]; omega
   have HR2 := Lib.hid hR2
   have HFR := Lib.hid (hfr.trans hf2)
   have HPL := Lib.hid hperm.length_eq
   have HSUB := Lib.hid (fun p hp => hsub p (hperm.symm.subset (List.mem_cons_of_mem _ hp)))
   clear hsum hn hRr hR2 hfr hf2 hfl hsub hperm hx hp
   go_wp2_with fail
   go_roundg (gk - 1)
   case measure => have := HPL.out; simp at this; omega
   case rel =>
    have h1 := HHS.out
    have h2 := HHN.out
    have h3 := HPL.out
    simp at h3
    exact ⟨left', n - x, rfl, HR2.out, by omega, HSUB.out, HFR.out, by omega, by omega⟩
theorem ownsRow_fr {w w' : World} {S : Nat -> Prop} {B e size n : Nat} {v : Value} {xs : List Value} (h : w.ownsRow B e size v n xs) (hf : Fr S w w') (hn : ∀ b, v.ownBlock = some b -> ¬ S b) : w'.ownsRow B e size v n xs := by
 refine ⟨h.1, ?_⟩
 rcases h.2 with h1 | ⟨r, cap, cur, rfl, h1, h2, h3⟩
 ·exact .inl h1
 ·exact .inr ⟨r, cap, cur, rfl, h1, (hf.block r (Array.getElem?_eq_some_iff.1 h2).1 (hn r rfl)).trans h2, h3⟩
def AppH (B k : Nat) (v : Value) (zs : List Value) (w3 : World) (u : Value) (w' : World) : Prop := w'.ownsRow B 5 1 u k zs /\ Fr (fun b => v.ownBlock = some b) w3 w' /\ (u.ownBlock = v.ownBlock \/ u.ownBlock = some w3.heap.size)
def AppQ (f b3 B : Nat) (num sy ct : Int) (v : Value) (m : Nat) (xs : List Int) (w w' : World) : Prop :=
 ∃ v', FlAt w' f num v' sy (ct + 1) /\ w'.ownsRow B 5 1 v' xs.length (xs.map (Value.int .u8)) /\ Blk w' b3 3 #[.int .i64 (m : Int)] /\ Fr (fun b => b = f \/ b = b3 \/ v.ownBlock = some b) w w' /\ (v'.ownBlock = v.ownBlock \/ ∃ k, v'.ownBlock = some k /\ w.heap.size <= k)
theorem append1_any (s : ByteArray) (hs : NameOk s) (d sb f b1 b2 b3 B : Nat) (ls ac : Value) (last st num sy ct : Int) (L : ByteArray × Value -> Nat) (l : List (ByteArray × Value)) (A0 : Option Addr) (c0 : Nat) (xs : List Int) (D : Nat -> Prop) (ad : Addr) (m cb : Nat) (bs : List Int) (w : World)
  (h : DkAt w d sb ls ac last st) (hm : MapS w sb l) (hF : FilesAt w L l) (hS : (l.map L).sum + m <= 1048576) (hg : getS l s = some (.pointer (some ⟨f, 0, none⟩))) (hf : FlAt w f num (.slice A0 xs.length c0) sy ct) (hct : 0 <= ct /\ ct <= 1073741824)
  (ho : w.ownsRow B 5 1 (.slice A0 xs.length c0) xs.length (xs.map (Value.int .u8))) (hx : xs.length <= 1048576) (hb : Bts w D (some ad) m bs) (hDb : ∀ b, D b -> b ≠ b3) (hm0 : 0 < m) (hmc : m <= cb) (hB : B <= w.heap.size)
  (h1 : Blk w b1 25 #[.pointer (some ⟨d, 0, none⟩)]) (h2 : Blk w b2 9 #[.string s]) (h3 : Blk w b3 3 #[.int .i64 0]) :
  Calls Tryz.prog 125 #[.slice (some ad) m cb, .pointer (some ⟨b1, 0, none⟩), .pointer (some ⟨b2, 0, none⟩), .pointer (some ⟨b3, 0, none⟩)] w fun e w' => e = .returned (.int .i64 0) /\ AppQ f b3 B num sy ct (.slice A0 xs.length c0) m (xs ++ bs) w w' := by
 have HK := Lib.hid (find_some s hs d sb f ls ac last st l w h hm hg)
 have HRM := Lib.hid (fun (w' : World) (hb : Below w.heap.size w w') => room_any d sb ls ac last st L l w' (Blk.below h hb) (hm.below hb) (hF.fr (S := fun _ => False) (Fr.of_below hb) (fun _ _ _ h => h)) (by omega))
 have x1 := h1.cell 0
 have x2 := h2.cell 0
 simp at x1 x2
 have hbl := hb.len
 obtain ⟨rm, hrm⟩ : ∃ rm, 1048576 - (l.map L).sum = rm := ⟨_, rfl⟩
 have hmr : m <= rm := by omega
 have hm20 : m <= 1048576 := by omega
 have hf3 : f ≠ b3 := Blk.ne_ hf h3 (by decide)
 have hvf : (Value.slice A0 xs.length c0).ownBlock ≠ some f := own_blk_ne ho hf (by decide)
 have hv3 : (Value.slice A0 xs.length c0).ownBlock ≠ some b3 := own_blk_ne ho h3 (by decide)
 rw [hrm] at HRM
 obtain ⟨n0, hn0⟩ : ∃ n0, xs.length = n0 := ⟨_, rfl⟩
 have HN0 := Lib.hid hn0
 have HBL := Lib.hid hbl
 have HO := Lib.hid ho
 have HF := Lib.hid hf
 have HH1 := Lib.hid h1
 have HH3 := Lib.hid h3
 have HB := Lib.hid hb
 rw [hn0] at HO HF hvf hv3 hx ⊢
 have hl3 := h3.lt
 clear h hm hF hS hg hf ho hb h1 h2 h3 hbl hn0 hrm
 go_enter Tryz.func125, Tryz.ntmps125
 go_wp2_with fail
 refine (HK.out).mono ?_
 rintro e w1 ⟨rfl, hb1⟩
 go_upto_region 4 with fail
 obtain ⟨W, hW⟩ : ∃ W, w1.alloc (.cells #[.pointer (some ⟨f, 0, none⟩), .string s] 103) = W := ⟨_, rfl⟩
 rw [hW]
 have hbW : Below w.heap.size w W := by rw [<- hW]; exact balloc hb1
 have k6 : Blk W w1.heap.size 103 #[.pointer (some ⟨f, 0, none⟩), .string s] := by rw [<- hW]; exact Blk.new _ _ _
 have y1 := (HH1.out.below hbW).cell 0
 simp at y1
 have HR1 := Lib.hid (HRM.out W hbW)
 have HBW := Lib.hid hbW
 have HK6 := Lib.hid k6
 have hl1 : w.heap.size <= w1.heap.size := hb1.size
 clear hb1 hbW hW k6
 go_wp2_with fail
 refine (HR1.out).mono ?_
 rintro e w2 ⟨rfl, hb2⟩
 have hbw2 : Below w.heap.size w w2 := bseq HBW.out hb2
 have z3 := HH3.out.below hbw2
 have x3 := z3.cell 0
 have g3 := z3.frozen 0
 simp at x3
 have q1 : ((rm : Int) < (m : Int)) = False := by simp; omega
 have q2 : ((m : Int) <= (rm : Int)) = True := by simp; omega
 have HB2 := Lib.hid hb2
 have HBW2 := Lib.hid hbw2
 clear hb2 z3 hbw2
 go_upto_region 5 with fail
 obtain ⟨w3, hw3⟩ : ∃ x, w2.setCell ⟨b3, 0, none⟩ (.int .i64 (m : Int)) = x := ⟨_, rfl⟩
 rw [hw3]
 have hf23 : Fr (· = b3) w2 w3 := by rw [<- hw3]; exact (Fr.refl _ w2).set1 0 _
 have hfw3 : Fr (· = b3) w w3 := by rw [<- hw3]; exact (Fr.of_below HBW2.out).set1 0 _
 have k3 : Blk w3 b3 3 #[.int .i64 (m : Int)] := by rw [<- hw3]; exact (HH3.out.below HBW2.out).set_ 0 _
 have kh : Blk w3 w1.heap.size 103 #[.pointer (some ⟨f, 0, none⟩), .string s] := (HK6.out.below HB2.out).fr hf23 (by omega)
 have kf : FlAt w3 f num (.slice A0 n0 c0) sy ct := Blk.fr HF.out hfw3 hf3
 have ho3 : w3.ownsRow B 5 1 (.slice A0 n0 c0) n0 (xs.map (Value.int .u8)) := by rw [<- hw3]; exact ownsRow_setCell_other (ownsRow_below HO.out HBW2.out) hv3 _
 have hbt : Bts w3 D (some ad) m bs := Reads.fr HB.out hfw3 (fun b hb _ => hDb b hb)
 have hvh : (Value.slice A0 n0 c0).ownBlock ≠ some w1.heap.size := own_blk_ne ho3 kh (by decide)
 have HFF : Hid (∀ w', Fr (fun b => (Value.slice A0 n0 c0).ownBlock = some b) w3 w' -> w'.cell? ⟨w1.heap.size, 0, none⟩ = some (.pointer (some ⟨f, 0, none⟩)) /\ w'.cell? ⟨f, 1, none⟩ = some (.slice A0 n0 c0) /\ w'.cell? ⟨b3, 0, none⟩ = some (.int .i64 (m : Int)) /\ w'.frozen? ⟨f, 1, none⟩ = false) := Lib.hid (fun w' hfr => by
  have a1 := kh.fr hfr hvh
  have a2 := Blk.fr kf hfr hvf
  have a3 := k3.fr hfr hv3
  exact ⟨a1.cell 0, a2.cell 1, a3.cell 0, a2.frozen 1⟩)
 obtain ⟨ib, hib, hb0, hb1, hb2⟩ := info_parts u8_infoB
 have HIB := Lib.hid hib
 have HO3 := Lib.hid ho3
 have HBT := Lib.hid hbt
 have HK3 := Lib.hid k3
 have HKF := Lib.hid kf
 have HFW3 := Lib.hid hfw3
 have hsz3 : w.heap.size <= w3.heap.size := hfw3.size
 have q3 : (m : Int) <= (cb : Int) := by omega
 have q4 : (0 : Int) <= (m : Int) := by omega
 clear hf23 k3 kh kf ho3 hbt hw3 hib hfw3 g3 x3 y1
 refine wp_region_lin (fun w' => Fr (fun b => (Value.slice A0 n0 c0).ownBlock = some b) w3 w') (fun w' => w' = w3.drew) (fun k => k == 10 || k == 13) (fun k => k == 13) (fun _ => false) (by kernel_rfl) (by kernel_rfl) (rfl) (fun w' h => by subst h; exact (Fr.refl _ _).drew) ?_
 repeat ((first
  | (refine wpL_read (v := ?_) (by rfl) (by rfl) (fun w6 hSw => ?_) ?_; rotate_left; (· (obtain ⟨y0, y1, y2, y3⟩ := HFF.out _ hSw; go_simp; try with_reducible rfl)))
  | (refine wpL_free (v := ?_) (by rfl) (fun w6 => ?_) ?_; rotate_left; (· (go_simp; try with_reducible rfl)))
  | refine wpL_not (by rfl) ?_); (try simp only [Act.put, pA, pB, pC]))
 refine wpL_heavy (AppH B (n0 + m) (.slice A0 n0 c0) (xs.map (Value.int .u8) ++ bs.map (Value.int .u8)) w3) (by rfl) (by rfl) (fun w6 hSw => ?_) (.inr (fun v6 w6 hT6 => ?_)) (fun v6 hv6 => ?_)
 ·(subst hSw; exact hrun_append_own 22 rfl B 5 ib (.int .u8 0) 1 1 Tryz.underlying22 HIB.out hb0 hb1 hb2 rfl (by decide) (.slice A0 n0 c0) n0 _ rfl (by exact HO3.out) ad m cb (bs.map (Value.int .u8)) rfl (by simp [HBL.out]) (by exact bts_cells HBT.out) (by intro u hu; obtain ⟨x, _, rfl⟩ := List.mem_map.1 hu; rfl) (by unfold maxLen; omega) (by omega) (Nat.le_trans hB hsz3) (fun v' w' ho' hg' _ hat' => ⟨ho', (Fr.refl _ w3).drew.grown hg' (fun r hr _ => hr), hat'⟩))
 ·(exact hT6.2.1)
 obtain ⟨wz, hz7, -, -⟩ := hv6; obtain ⟨A7, c7, rfl, -⟩ := own_slice hz7
 (try simp only [Act.put, pA, pB, pC])
 repeat ((first
  | (refine wpL_read (v := ?_) (by rfl) (by rfl) (fun w6 hSw => ?_) ?_; rotate_left; (· (skip; go_simp; try with_reducible rfl)))
  | (refine wpL_free (v := ?_) (by rfl) (fun w6 => ?_) ?_; rotate_left; (· (go_simp; try with_reducible rfl)))
  | refine wpL_not (by rfl) ?_); (try simp only [Act.put, pA, pB, pC]))
 refine wpL_heavy (fun _ w'' => ∃ w', AppH B (n0 + m) (.slice A0 n0 c0) (xs.map (Value.int .u8) ++ bs.map (Value.int .u8)) w3 (.slice A7 (n0 + m) c7) w' /\ w'' = w'.setCell ⟨f, 1, none⟩ (.slice A7 (n0 + m) c7)) (by rfl) (by rfl) (fun w6 hSw => ?_) (.inl (by rfl)) (fun v6 hv6 => ?_)
 ·(obtain ⟨y0, y1, y2, y3⟩ := HFF.out _ hSw.2.1; go_simp; exact ⟨w6, hSw, rfl⟩)
 skip
 (try simp only [Act.put, pA, pB, pC])
 refine wpL_nil ?_
 rintro w9 ⟨w8, ⟨ho8, hf8, hat8⟩, rfl⟩
 have kf8 : FlAt w8 f num (.slice A0 n0 c0) sy ct := Blk.fr HKF.out hf8 hvf
 have hn7 : (Value.slice A7 (n0 + m) c7).ownBlock ≠ some f := own_blk_ne ho8 kf8 (by decide)
 obtain ⟨w9, hw9⟩ : ∃ x, w8.setCell ⟨f, 1, none⟩ (.slice A7 (n0 + m) c7) = x := ⟨_, rfl⟩
 rw [hw9]
 have kf9 : FlAt w9 f num (.slice A7 (n0 + m) c7) sy ct := by rw [<- hw9]; exact Blk.set_ kf8 1 _
 have hf89 : Fr (· = f) w8 w9 := by rw [<- hw9]; exact (Fr.refl _ w8).set1 1 _
 have k39 : Blk w9 b3 3 #[.int .i64 (m : Int)] := (HK3.out.fr hf8 hv3).fr hf89 (fun e => hf3 e.symm)
 have ho9 : w9.ownsRow B 5 1 (.slice A7 (n0 + m) c7) (n0 + m) (xs.map (Value.int .u8) ++ bs.map (Value.int .u8)) := by rw [<- hw9]; exact ownsRow_setCell_other ho8 hn7 _
 have kh9 : w9.cell? ⟨w1.heap.size, 0, none⟩ = some (.pointer (some ⟨f, 0, none⟩)) := by
  have e1 := (HFF.out w8 hf8).1
  have l1 : f < w.heap.size := Blk.lt HF.out
  exact (hf89.cell (lt_of_cell e1) (by show w1.heap.size ≠ f; omega) 0).trans e1
 have hF9 : Fr (fun b => b = f \/ b = b3 \/ (Value.slice A0 n0 c0).ownBlock = some b) w w9 :=
  ((HFW3.out.more (S' := fun b => b = f \/ b = b3 \/ (Value.slice A0 n0 c0).ownBlock = some b) (fun _ _ h => .inr (.inl h))).trans (hf8.more (fun _ _ h => .inr (.inr h)))).trans (hf89.more (fun _ _ h => .inl h))
 have u0 := k39.cell 0
 have u3 := kf9.cell 3
 have g3 := kf9.frozen 3
 simp at u0 u3
 have e1 : IntKind.i64.wrap (ct + 1) = ct + 1 := IntWalk.i64_in _ (by omega)
 have HKF9 := Lib.hid kf9
 have HO9 := Lib.hid ho9
 have HK39 := Lib.hid k39
 have HF9 := Lib.hid hF9
 have HAT := Lib.hid hat8
 have q5 : (0 : Int) < (m : Int) := by omega
 clear ho8 hf8 kf8 kf9 ho9 k39 hF9 hat8 hw9 hf89 hv6 hz7
 go_wp2_with fail
 go_ret
 have hne3 : b3 ≠ f := fun e => hf3 e.symm
 refine ⟨rfl, .slice A7 (n0 + m) c7, Blk.set_ HKF9.out 3 _, ?_, (HK39.out.far (p := ⟨f, 3, none⟩) hne3 _), HF9.out.setCell (.inl (.inl rfl)) _, ?_⟩
 ·rw [List.length_append, HN0.out, HBL.out, List.map_append]
  exact ownsRow_setCell_other HO9.out hn7 _
 ·rcases HAT.out with h | h
  ·exact .inl h
  ·exact .inr ⟨_, h, hsz3⟩
theorem append2_any (P : Ending -> World -> Prop) (b5 b9 : Nat) (A : Option Addr) (m c : Nat) (caps : Array Value) (w : World) (h9 : w.cell? ⟨b9, 0, none⟩ = some (.func (.func 125) #[] caps)) (h5 : w.cell? ⟨b5, 0, none⟩ = some (.slice A m c))
  (Q : World -> Prop) (hc : Calls Tryz.prog 125 (#[.slice A m c] ++ caps) w fun e w' => e = .returned (.int .i64 0) /\ Q w') :
  Calls Tryz.prog 127 #[.pointer (some ⟨b9, 0, none⟩), .pointer (some ⟨b5, 0, none⟩)] w fun e w' => e = .returned (.int .i64 0) /\ Q w' := by
 have HC := Lib.hid hc
 have hen : ∀ args w, (callFunc 125 args).run Tryz.prog w = .ok (.enter 125 args) w := fun _ _ => rfl
 clear hc
 go_enter Tryz.func127, Tryz.ntmps127
 go_wp2_with fail
 refine (HC.out).mono ?_
 rintro e w1 ⟨rfl, hq⟩
 have HQ := Lib.hid hq
 clear hq
 go_wp2_with fail
 go_ret
 exact ⟨rfl, HQ.out⟩
def ApdQ (d sb f B : Nat) (ls ac : Value) (last st num sy ct : Int) (v : Value) (xs : List Int) (w w' : World) : Prop :=
 DkAt w' d sb ls ac last st /\ ∃ v', FlAt w' f num v' sy ct /\ w'.ownsRow B 5 1 v' xs.length (xs.map (Value.int .u8)) /\ Fr (fun b => b = d \/ b = f \/ v.ownBlock = some b) w w' /\ (v'.ownBlock = v.ownBlock \/ ∃ k, v'.ownBlock = some k /\ w.heap.size <= k)
theorem append_any (s : ByteArray) (hs : NameOk s) (d sb f B : Nat) (ls ac : Value) (last st num sy ct : Int) (L : ByteArray × Value -> Nat) (l : List (ByteArray × Value)) (A0 : Option Addr) (c0 : Nat) (xs : List Int) (D : Nat -> Prop) (ad : Addr) (m cb : Nat) (bs : List Int) (w : World)
  (h : DkAt w d sb ls ac last st) (hst : 0 <= st /\ st <= 1073741824) (hm : MapS w sb l) (hF : FilesAt w L l) (hS : (l.map L).sum + m <= 1048576) (hg : getS l s = some (.pointer (some ⟨f, 0, none⟩))) (hf : FlAt w f num (.slice A0 xs.length c0) sy ct) (hct : 0 <= ct /\ ct <= 1073741824)
  (ho : w.ownsRow B 5 1 (.slice A0 xs.length c0) xs.length (xs.map (Value.int .u8))) (hx : xs.length <= 1048576) (hb : Bts w D (some ad) m bs) (hDd : ∀ b, D b -> b ≠ d) (hm0 : 0 < m) (hmc : m <= cb) (hB : B <= w.heap.size) :
  Calls Tryz.prog 114 #[.pointer (some ⟨d, 0, none⟩), .string s, .slice (some ad) m cb] w fun e w' => e = .returned (.tuple #[.int .i64 (m : Int), .nilIface]) /\ ApdQ d sb f B ls ac last (st + 1) num sy (ct + 1) (.slice A0 xs.length c0) (xs ++ bs) w w' := by
 obtain ⟨W0, hW0⟩ : ∃ W0, ((w.alloc (.cells #[.pointer (some ⟨d, 0, none⟩)] 25)).alloc (.cells #[.string s] 9)).alloc (.cells #[.slice (some ad) m cb] 22) = W0 := ⟨_, rfl⟩
 have hdl := h.lt
 have hsd : sb ≠ d := hm.ne_blk h
 have hfd : f ≠ d := Blk.ne_ hf h (by decide)
 have hfl := Blk.lt hf
 have hvd : (Value.slice A0 xs.length c0).ownBlock ≠ some d := own_blk_ne ho h (by decide)
 have hb0 : Below w.heap.size w W0 := by rw [<- hW0]; exact balloc (balloc (balloc (Below.refl _ _)))
 have hs0 : W0.heap.size = w.heap.size + 1 + 1 + 1 := by rw [<- hW0]; simp
 have k3' : Blk W0 w.heap.size 25 #[.pointer (some ⟨d, 0, none⟩)] := by rw [<- hW0]; exact ((Blk.new w _ _).alloc _).alloc _
 have k4' : Blk W0 (w.heap.size + 1) 9 #[.string s] := by
  rw [<- hW0]
  have := Blk.new (w.alloc (.cells #[.pointer (some ⟨d, 0, none⟩)] 25)) 9 #[.string s]
  rw [World.size_alloc] at this
  exact this.alloc _
 have k5' : Blk W0 (w.heap.size + 1 + 1) 22 #[.slice (some ad) m cb] := by
  rw [<- hW0]
  have := Blk.new ((w.alloc (.cells #[.pointer (some ⟨d, 0, none⟩)] 25)).alloc (.cells #[.string s] 9)) 22 #[.slice (some ad) m cb]
  rw [World.size_alloc, World.size_alloc] at this
  exact this
 obtain ⟨W, hW⟩ : ∃ W, (W0.alloc (.cells #[.int .i64 0] 3)).alloc (.cells #[.func (.func 125) #[] #[.pointer (some ⟨w.heap.size, 0, none⟩), .pointer (some ⟨w.heap.size + 1, 0, none⟩), .pointer (some ⟨w.heap.size + 1 + 1 + 1, 0, none⟩)]] 216) = W := ⟨_, rfl⟩
 have hbW : Below W0.heap.size W0 W := by rw [<- hW]; exact balloc (balloc (Below.refl _ _))
 have hbB : Below w.heap.size w W := bseq hb0 hbW
 have k3 := k3'.below hbW
 have k4 := k4'.below hbW
 have k5 := k5'.below hbW
 have k8 : Blk W (w.heap.size + 1 + 1 + 1) 3 #[.int .i64 0] := by
  rw [<- hW, <- hs0]
  exact (Blk.new W0 _ _).alloc _
 have k9 : Blk W (w.heap.size + 1 + 1 + 1 + 1) 216 #[.func (.func 125) #[] #[.pointer (some ⟨w.heap.size, 0, none⟩), .pointer (some ⟨w.heap.size + 1, 0, none⟩), .pointer (some ⟨w.heap.size + 1 + 1 + 1, 0, none⟩)]] := by
  rw [<- hW]
  have := Blk.new (W0.alloc (.cells #[.int .i64 0] 3)) 216 #[.func (.func 125) #[] #[.pointer (some ⟨w.heap.size, 0, none⟩), .pointer (some ⟨w.heap.size + 1, 0, none⟩), .pointer (some ⟨w.heap.size + 1 + 1 + 1, 0, none⟩)]]
  rw [World.size_alloc, hs0] at this
  exact this
 have hD : DkAt W d sb ls ac last st := Blk.below h hbB
 have hFW : Fr (· = d) w (stW W d st) := (Fr.of_below hbB).trans (stW_fr W d st)
 have hbts : Bts (stW W d st) (fun b => D b /\ b < w.heap.size) (some ad) m bs := Reads.fr (Reads.below (Reads.more hb (fun b h1 h2 => ⟨h1, h2⟩) (by decide)) hbB) (stW_fr W d st) (fun b h1 _ => hDd b h1.1)
 have h1 := append1_any s hs d sb f w.heap.size (w.heap.size + 1) (w.heap.size + 1 + 1 + 1) B ls ac last (st + 1) num sy ct L l A0 c0 xs (fun b => D b /\ b < w.heap.size) ad m cb bs (stW W d st) (stW_at hD) ((hm.below hbB).st hsd)
  (hF.fr hFW (fun b cs hb e => Blk.ne_ hb h (by decide) e)) hS hg (Blk.fr hf hFW hfd) hct (ownsRow_fr ho hFW (fun b hb e => hvd (by rw [<- e]; exact hb))) hx hbts (fun b hb => by omega) hm0 hmc (Nat.le_trans hB hFW.size) (k3.st (by omega)) (k4.st (by omega)) (k8.st (by omega))
 have HC := append2_any (fun _ _ => True) (w.heap.size + 1 + 1) (w.heap.size + 1 + 1 + 1 + 1) (some ad) m cb #[.pointer (some ⟨w.heap.size, 0, none⟩), .pointer (some ⟨w.heap.size + 1, 0, none⟩), .pointer (some ⟨w.heap.size + 1 + 1 + 1, 0, none⟩)] (stW W d st) ((k9.st (by omega)).cell 0) ((k5.st (by omega)).cell 0) _ h1
 have HS := Lib.hid (fun (op : ByteArray) (part : Value) => step_any op s 127 #[.pointer (some ⟨w.heap.size + 1 + 1 + 1 + 1, 0, none⟩), .pointer (some ⟨w.heap.size + 1 + 1, 0, none⟩)] part d sb ls ac last st W hD hst (fun _ _ => rfl) _ HC)
 have c3 := k3.cell 0
 have c4 := k4.cell 0
 simp at c3 c4
 have hvw : (Value.slice A0 xs.length c0).ownBlock ≠ some w.heap.size := own_blk_ne (ownsRow_below ho hbB) k3 (by decide)
 have HK3 := Lib.hid (k3.st (st := st) (show w.heap.size ≠ d by omega))
 have HD := Lib.hid hD
 have HFW := Lib.hid hFW
 have HBB := Lib.hid hbB
 have HH := Lib.hid h
 clear h hm hF hf ho hb hb0 k3' k4' k5' hbW hbB k3 k4 k5 k8 k9 hD hFW hbts h1 HC
 go_enter Tryz.func114, Tryz.ntmps114
 go_upto_region 3 with fail
 clear hW hW0
 go_wp2_with fail
 refine (HS.out _ _).mono ?_
 rintro e w1 ⟨rfl, v', ha1, ha2, ha3, ha4, ha5⟩
 have hd1 : DkAt w1 d sb ls ac last (st + 1) := Blk.fr (stW_at HD.out) ha4 (by
  rintro (h | h | h)
  ·exact hfd h.symm
  ·omega
  ·exact hvd h)
 have x3 := (HK3.out.fr ha4 (by
  rintro (h | h | h)
  ·omega
  ·omega
  ·exact hvw h)).cell 0
 have x5 := hd1.cell 5
 have x8 := ha3.cell 0
 simp [dkC] at x3 x5 x8
 have HP : Hid (ApdQ d sb f B ls ac last (st + 1) num sy (ct + 1) (.slice A0 xs.length c0) (xs ++ bs) w w1) := Lib.hid ⟨hd1, v', ha1, ha2, (HFW.out.more (S' := fun b => b = d \/ b = f \/ (Value.slice A0 xs.length c0).ownBlock = some b) (fun _ _ h => .inl h)).call ha4 (fun i hi h => by
  rcases h with h | h | h
  ·exact .inr (.inl h)
  ·omega
  ·exact .inr (.inr h)), by
  rcases ha5 with h | ⟨k, h, hk⟩
  ·exact .inl h
  ·exact .inr ⟨k, h, Nat.le_trans HFW.out.size hk⟩⟩
 clear ha1 ha2 ha3 ha4 ha5 hd1 c3 c4
 go_wp2_with fail
 exact bodyPost_ret (v := .tuple #[.int .i64 (m : Int), .nilIface]) (by simp [results, Tryz.results114, go_sem]) rfl ⟨rfl, HP.out⟩
end Go.Proofs.YtflhiohjikgedaaGreatDoor
