/-
  Package disk: Read, Sync, SyncDir.
-/
import Derived.Test.YtflhiohjikgedaaGreatDoorLDisk4
import Derived.Test.YtflhiohjikgedaaGreatDoorLOpen
set_option linter.unusedSimpArgs false
set_option linter.unusedVariables false
set_option maxRecDepth 100000
set_option maxHeartbeats 32000000
namespace Go.Proofs.YtflhiohjikgedaaGreatDoor
open Go.RowKit
def ReadQ (W : World) (b B : Nat) (l : List Int) (w' : World) : Prop := ∃ v, Blk w' b 22 #[v] /\ w'.ownsRow B 5 1 v l.length (l.map (Value.int .u8)) /\ Fr (· = b) W w'
theorem read1_any (s : ByteArray) (hs : NameOk s) (d sb f b2 b3 b6 B : Nat) (ls ac : Value) (last st num sy ct : Int) (A : Option Addr) (n c : Nat) (D : Nat -> Prop) (xs : List Int) (l : List (ByteArray × Value)) (w : World) (h : DkAt w d sb ls ac last st) (hm : MapS w sb l) (hg : getS l s = some (.pointer (some ⟨f, 0, none⟩)))
  (hf : FlAt w f num (.slice A n c) sy ct) (hx : Bts w D A n xs) (hn : n <= 268435456) (h2 : w.cell? ⟨b2, 0, none⟩ = some (.pointer (some ⟨d, 0, none⟩))) (h3 : w.cell? ⟨b3, 0, none⟩ = some (.string s)) (h6 : Blk w b6 22 #[.slice none 0 0]) (hB : B <= w.heap.size) :
  Calls Tryz.prog 41 #[.pointer (some ⟨b2, 0, none⟩), .pointer (some ⟨b3, 0, none⟩), .pointer (some ⟨b6, 0, none⟩)] w fun e w' => e = .returned (.int .i64 0) /\ ReadQ w b6 B xs w' := by
 have HK := Lib.hid (find_some s hs d sb f ls ac last st l w h hm hg)
 have HF := Lib.hid hf
 have H6 := Lib.hid h6
 have HX := Lib.hid hx
 have hl := h6.lt
 clear h hm hg hf h6 hx
 go_enter Tryz.func41, Tryz.ntmps41
 go_wp2_with fail
 refine (HK.out).mono ?_
 rintro e w1 ⟨rfl, hb1⟩
 have f1 : FlAt w1 f num (.slice A n c) sy ct := Blk.below HF.out hb1
 obtain ⟨W, hW⟩ : ∃ W, w1.alloc (.cells #[.pointer (some ⟨f, 0, none⟩), .string s] 103) = W := ⟨_, rfl⟩
 have hbW : Below w.heap.size w W := by rw [<- hW]; exact balloc hb1
 have f2 : FlAt W f num (.slice A n c) sy ct := Blk.below HF.out hbW
 have s2 : Blk W b6 22 #[.slice none 0 0] := H6.out.below hbW
 have k2 : Blk W w1.heap.size 103 #[.pointer (some ⟨f, 0, none⟩), .string s] := by rw [<- hW]; exact Blk.new _ _ _
 have y1 := f2.cell 1
 have v0 := k2.cell 0
 simp at y1 v0
 have hBW : B <= W.heap.size := Nat.le_trans hB hbW.size
 have HC := Lib.hid (sclone_any D A n c xs W (Reads.below HX.out hbW) hn)
 have HBW := Lib.hid hbW
 have HS2 := Lib.hid s2
 clear f1 f2 k2 hb1 hbW s2
 go_wp2_with fail
 refine (HC.out).mono ?_
 rintro e w3 ⟨v, rfl, ho, hb3⟩
 have s3 := HS2.out.below hb3
 have x0 := s3.cell 0
 have g0 := s3.frozen 0
 simp at x0
 have ho2 : w3.ownsRow B 5 1 v xs.length (xs.map (Value.int .u8)) := ⟨ho.1, by
  rcases ho.2 with h | ⟨r, cap, cur, e1, h1, h2, h3⟩
  ·exact .inl h
  ·exact .inr ⟨r, cap, cur, e1, Nat.le_trans hBW h1, h2, h3⟩⟩
 have HO := Lib.hid ho2
 have HOB := Lib.hid (fun (hr : v.ownBlock = some b6) => own_ge ho hr)
 have HS3 := Lib.hid s3
 obtain ⟨va, vn, vc, rfl⟩ : ∃ a n c, v = .slice a n c := by
  obtain ⟨a, c, e, _⟩ := own_slice ho
  exact ⟨a, _, c, e⟩
 have hb6 : b6 < W.heap.size := HS2.out.lt
 have HB3 := Lib.hid hb3
 clear ho ho2 s3 hb3
 go_wp2_with fail
 go_ret
 refine ⟨rfl, _, HS3.out.set_ 0 _, ?_, ((Fr.of_below HBW.out).call (S' := fun _ => False) (Fr.of_below HB3.out) (fun _ _ h => h.elim)).set1 0 _⟩
 exact ownsRow_setCell_other HO.out (fun e => by have := HOB.out e; omega) _
theorem read_any (s : ByteArray) (hs : NameOk s) (d sb f : Nat) (ls ac : Value) (last st num sy ct : Int) (A : Option Addr) (n c : Nat) (D : Nat -> Prop) (xs : List Int) (l : List (ByteArray × Value)) (w : World) (h : DkAt w d sb ls ac last st) (hst : 0 <= st /\ st <= 1073741824) (hm : MapS w sb l) (hg : getS l s = some (.pointer (some ⟨f, 0, none⟩)))
    (hf : FlAt w f num (.slice A n c) sy ct) (hx : Bts w D A n xs) (hn : n <= 268435456) (hDd : ∀ b, D b -> b ≠ d) :
    Calls Tryz.prog 15 #[.pointer (some ⟨d, 0, none⟩), .string s] w fun e w' => (∃ v, e = .returned (.tuple #[v, .nilIface]) /\ w'.ownsRow w.heap.size 5 1 v xs.length (xs.map (Value.int .u8))) /\ DkAt w' d sb ls ac last (st + 1) /\ Fr (· = d) w w' := by
  obtain ⟨W, hW⟩ : ∃ W, ((w.alloc (.cells #[.pointer (some ⟨d, 0, none⟩)] 25)).alloc (.cells #[.string s] 9)).alloc (.cells #[.slice none 0 0] 22) = W := ⟨_, rfl⟩
  have hdl := h.lt
  have hsd : sb ≠ d := hm.ne_blk h
  have hfd : f ≠ d := Blk.ne_ hf h (by decide)
  have hb : Below w.heap.size w W := by rw [<- hW]; exact balloc (balloc (balloc (Below.refl _ _)))
  have k2 : Blk W w.heap.size 25 #[.pointer (some ⟨d, 0, none⟩)] := by rw [<- hW]; exact ((Blk.new w _ _).alloc _).alloc _
  have k3 : Blk W (w.heap.size + 1) 9 #[.string s] := by
    rw [<- hW]
    have := Blk.new (w.alloc (.cells #[.pointer (some ⟨d, 0, none⟩)] 25)) 9 #[.string s]
    rw [World.size_alloc] at this
    exact this.alloc _
  have k6 : Blk W (w.heap.size + 1 + 1) 22 #[.slice none 0 0] := by
    rw [<- hW]
    have := Blk.new ((w.alloc (.cells #[.pointer (some ⟨d, 0, none⟩)] 25)).alloc (.cells #[.string s] 9)) 22 #[.slice none 0 0]
    rw [World.size_alloc, World.size_alloc] at this
    exact this
  have hD : DkAt W d sb ls ac last st := Blk.below h hb
  have hsz := (stW_fr W d st).size
  have HC := read1_any s hs d sb f w.heap.size (w.heap.size + 1) (w.heap.size + 1 + 1) w.heap.size ls ac last (st + 1) num sy ct A n c D xs l (stW W d st) (stW_at hD) ((hm.below hb).st hsd) hg (Blk.st (Blk.below hf hb) hfd) (Reads.fr (Reads.below hx hb) (stW_fr W d st) (fun b h1 _ => hDd b h1)) hn ((k2.st (by omega)).cell 0) ((k3.st (by omega)).cell 0) (k6.st (by omega)) (Nat.le_trans hb.size hsz)
  have HS := Lib.hid (fun (op : ByteArray) => step_any op s 41 #[.pointer (some ⟨w.heap.size, 0, none⟩), .pointer (some ⟨w.heap.size + 1, 0, none⟩), .pointer (some ⟨w.heap.size + 1 + 1, 0, none⟩)] .nilFunc d sb ls ac last st W hD hst (fun _ _ => rfl) _ HC)
  have c2 := k2.cell 0
  have c3 := k3.cell 0
  simp at c2 c3
  have HDD := Lib.hid hD
  have HB := Lib.hid hb
  clear h hf hm hD hb k6 HC hx hsz
  have e1 := hW
  clear hW
  go_enter Tryz.func15, Tryz.ntmps15
  go_wp2_with fail
  refine (HS.out _).mono ?_
  rintro e w1 ⟨rfl, v, hk6, ho, hfr⟩
  have hf0 : Fr (fun b => b = d \/ b = w.heap.size + 1 + 1) W w1 := ((stW_fr W d st).more (S' := fun b => b = d \/ b = w.heap.size + 1 + 1) (fun _ _ h => .inl h)).trans (hfr.more (fun _ _ h => .inr h))
  have hd1 : DkAt w1 d sb ls ac last (st + 1) := Blk.fr (stW_at HDD.out) hfr (by omega)
  obtain ⟨va, vn, vc, rfl⟩ : ∃ a n c, v = .slice a n c := by
    obtain ⟨a, c, e, _⟩ := own_slice ho
    exact ⟨a, _, c, e⟩
  have x0 := hk6.cell 0
  simp at x0
  have HD1 := Lib.hid hd1
  have HF0 := Lib.hid hf0
  have HO := Lib.hid ho
  clear hk6 hfr hd1 hf0 ho c2 c3 k2 k3 e1
  go_wp2_with fail
  refine bodyPost_ret (v := .tuple #[.slice va vn vc, .nilIface]) (by simp [results, Tryz.results15, go_sem]) rfl ⟨⟨_, rfl, HO.out⟩, HD1.out, ?_⟩
  exact (Fr.of_below HB.out).call HF0.out (fun k hk h => by
      rcases h with h | h
      · exact h
      · omega)
theorem sync1_any (s : ByteArray) (hs : NameOk s) (d sb f b2 b3 : Nat) (ls ac : Value) (last st num sy ct : Int) (A : Option Addr) (n c : Nat) (l : List (ByteArray × Value)) (w : World) (h : DkAt w d sb ls ac last st) (hm : MapS w sb l) (hg : getS l s = some (.pointer (some ⟨f, 0, none⟩)))
  (hf : FlAt w f num (.slice A n c) sy ct) (h2 : w.cell? ⟨b2, 0, none⟩ = some (.pointer (some ⟨d, 0, none⟩))) (h3 : w.cell? ⟨b3, 0, none⟩ = some (.string s)) :
  Calls Tryz.prog 115 #[.pointer (some ⟨b2, 0, none⟩), .pointer (some ⟨b3, 0, none⟩)] w fun e w' => e = .returned (.int .i64 0) /\ FlAt w' f num (.slice A n c) n ct /\ Fr (· = f) w w' := by
 have HK := Lib.hid (find_some s hs d sb f ls ac last st l w h hm hg)
 have HF := Lib.hid hf
 clear h hm hg hf
 go_enter Tryz.func115, Tryz.ntmps115
 go_wp2_with fail
 refine (HK.out).mono ?_
 rintro e w1 ⟨rfl, hb1⟩
 obtain ⟨W, hW⟩ : ∃ W, w1.alloc (.cells #[.pointer (some ⟨f, 0, none⟩), .string s] 103) = W := ⟨_, rfl⟩
 have hbW : Below w.heap.size w W := by rw [<- hW]; exact balloc hb1
 have k2 : Blk W w1.heap.size 103 #[.pointer (some ⟨f, 0, none⟩), .string s] := by rw [<- hW]; exact Blk.new _ _ _
 have v0 := k2.cell 0
 simp at v0
 have HC := Lib.hid (sync_any f num A n c sy ct W (Blk.below HF.out hbW))
 have HBW := Lib.hid hbW
 clear k2 hb1 hbW
 go_wp2_with fail
 refine (HC.out).mono ?_
 rintro e w3 ⟨rfl, hf3, hfr3⟩
 have HF3 := Lib.hid hf3
 have HFR := Lib.hid hfr3
 clear hf3 hfr3
 go_wp2_with fail
 go_ret
 exact ⟨rfl, HF3.out, (Fr.of_below HBW.out).trans HFR.out⟩
theorem dsync_any (s : ByteArray) (hs : NameOk s) (d sb f : Nat) (ls ac : Value) (last st num sy ct : Int) (A : Option Addr) (n c : Nat) (l : List (ByteArray × Value)) (w : World) (h : DkAt w d sb ls ac last st) (hst : 0 <= st /\ st <= 1073741824) (hm : MapS w sb l) (hg : getS l s = some (.pointer (some ⟨f, 0, none⟩)))
  (hf : FlAt w f num (.slice A n c) sy ct) :
  Calls Tryz.prog 96 #[.pointer (some ⟨d, 0, none⟩), .string s] w fun e w' => e = .returned .nilIface /\ DkAt w' d sb ls ac last (st + 1) /\ FlAt w' f num (.slice A n c) n ct /\ Fr (fun b => b = d \/ b = f) w w' := by
 obtain ⟨W, hW⟩ : ∃ W, (w.alloc (.cells #[.pointer (some ⟨d, 0, none⟩)] 25)).alloc (.cells #[.string s] 9) = W := ⟨_, rfl⟩
 have hdl := h.lt
 have hsd : sb ≠ d := hm.ne_blk h
 have hfd : f ≠ d := Blk.ne_ hf h (by decide)
 have hb : Below w.heap.size w W := by rw [<- hW]; exact balloc (balloc (Below.refl _ _))
 have k2 : Blk W w.heap.size 25 #[.pointer (some ⟨d, 0, none⟩)] := by rw [<- hW]; exact (Blk.new w _ _).alloc _
 have k3 : Blk W (w.heap.size + 1) 9 #[.string s] := by
  rw [<- hW]
  have := Blk.new (w.alloc (.cells #[.pointer (some ⟨d, 0, none⟩)] 25)) 9 #[.string s]
  rw [World.size_alloc] at this
  exact this
 have hD : DkAt W d sb ls ac last st := Blk.below h hb
 have HC := sync1_any s hs d sb f w.heap.size (w.heap.size + 1) ls ac last (st + 1) num sy ct A n c l (stW W d st) (stW_at hD) ((hm.below hb).st hsd) hg (Blk.st (Blk.below hf hb) hfd) ((k2.st (by omega)).cell 0) ((k3.st (by omega)).cell 0)
 have HS := Lib.hid (fun (op : ByteArray) => step_any op s 115 #[.pointer (some ⟨w.heap.size, 0, none⟩), .pointer (some ⟨w.heap.size + 1, 0, none⟩)] .nilFunc d sb ls ac last st W hD hst (fun _ _ => rfl) _ HC)
 have c2 := k2.cell 0
 have c3 := k3.cell 0
 simp at c2 c3
 have HDD := Lib.hid hD
 have HB := Lib.hid hb
 clear h hf hm hD hb HC
 have e1 := hW
 clear hW
 go_enter Tryz.func96, Tryz.ntmps96
 go_wp2_with fail
 refine (HS.out _).mono ?_
 rintro e w1 ⟨rfl, hf1, hfr⟩
 have HD1 := Lib.hid (Blk.fr (stW_at HDD.out) hfr (fun h => hfd h.symm))
 have HF0 := Lib.hid ((((Fr.of_below HB.out).trans (stW_fr W d st)).more (S' := fun b => b = d \/ b = f) (fun _ _ h => .inl h)).trans (hfr.more (fun _ _ h => .inr h)))
 have HF1 := Lib.hid hf1
 clear hfr hf1 c2 c3 k2 k3 e1
 go_wp2_with fail
 go_ret
 exact ⟨rfl, HD1.out, HF1.out, HF0.out⟩
theorem syncDir_any (d sb : Nat) (ls ac : Value) (last st : Int) (l : List (ByteArray × Value)) (w : World) (h : DkAt w d sb ls ac last st) (hst : 0 <= st /\ st <= 1073741824) (hm : MapS w sb l) :
  Calls Tryz.prog 71 #[.pointer (some ⟨d, 0, none⟩)] w fun e w' => e = .returned .nilIface /\ (∃ lb, DkAt w' d sb (.map (some lb)) (.slice none 0 0) last (st + 1)) /\ Fr (· = d) w w' := by
 obtain ⟨W, hW⟩ : ∃ W, w.alloc (.cells #[.pointer (some ⟨d, 0, none⟩)] 25) = W := ⟨_, rfl⟩
 have hdl := h.lt
 have hsd : sb ≠ d := hm.ne_blk h
 have hb : Below w.heap.size w W := by rw [<- hW]; exact balloc (Below.refl _ _)
 have k2 : Blk W w.heap.size 25 #[.pointer (some ⟨d, 0, none⟩)] := by rw [<- hW]; exact Blk.new w _ _
 have hD : DkAt W d sb ls ac last st := Blk.below h hb
 have HC : Calls Tryz.prog 98 #[.pointer (some ⟨w.heap.size, 0, none⟩)] (stW W d st) fun e w' => e = .returned (.int .i64 0) /\ ((∃ lb, DkAt w' d sb (.map (some lb)) (.slice none 0 0) last (st + 1)) /\ Fr (· = d) (stW W d st) w') := by
  have HT := Lib.hid (settle_any d sb ls ac last (st + 1) l (stW W d st) (stW_at hD) ((hm.below hb).st hsd))
  have c0 := (k2.st (st := st) (show w.heap.size ≠ d by omega)).cell 0
  simp at c0
  clear h hm hW hb k2 hD
  go_enter Tryz.func98, Tryz.ntmps98
  go_wp2_with fail
  refine (HT.out).mono ?_
  rintro e w1 ⟨rfl, lb, h1, h2⟩
  go_wp2_with fail
  go_ret
  exact ⟨rfl, ⟨lb, h1⟩, h2⟩
 have HS := Lib.hid (fun (op nm : ByteArray) => step_any op nm 98 #[.pointer (some ⟨w.heap.size, 0, none⟩)] .nilFunc d sb ls ac last st W hD hst (fun _ _ => rfl) _ HC)
 have c2 := k2.cell 0
 simp at c2
 have HB := Lib.hid hb
 clear h hm hD hb HC
 have e1 := hW
 clear hW
 go_enter Tryz.func71, Tryz.ntmps71
 go_wp2_with fail
 refine (HS.out _ _).mono ?_
 rintro e w1 ⟨rfl, hd1, hfr⟩
 have HF0 := Lib.hid (((Fr.of_below HB.out).trans (stW_fr W d st)).trans hfr)
 have HD1 := Lib.hid hd1
 clear hfr hd1 c2 k2 e1
 go_wp2_with fail
 go_ret
 exact ⟨rfl, HD1.out, HF0.out⟩
end Go.Proofs.YtflhiohjikgedaaGreatDoor
