/-
  The walks of package codec: an atom's size, its bytes put behind others. The walks of package codec: Size, Fits, Encode of one atom.
-/
import Derived.Test.YtflhiohjikgedaaGreatDoorLSized
import Derived.Test.YtflhiohjikgedaaGreatDoorLSums
import Derived.Test.YtflhiohjikgedaaGreatDoorLHeavy
import Derived.OwnWalk
import Derived.StillTailTactics
import Derived.Maps.AppendAt
set_option linter.unusedSimpArgs false
set_option linter.unusedVariables false
set_option maxRecDepth 100000
set_option maxHeartbeats 32000000
namespace Go.Proofs.YtflhiohjikgedaaGreatDoor
open Go.RowKit
theorem u8_and63 (x : Int) (h0 : 0 <= x) (h1 : x < 256) : bits .and .u8 x 63 = x % 64 := by
 have h : ∀ i : Fin 256, bits .and .u8 (i.val : Int) 63 = (i.val : Int) % 64 := by decide +kernel
 have := h ⟨x.toNat, by omega⟩
 simpa [Int.toNat_of_nonneg h0] using this
theorem u8_or128 (x : Int) (h0 : 0 <= x) (h1 : x < 64) : bits .or .u8 128 x = 128 + x := by
 have h : ∀ i : Fin 64, bits .or .u8 128 (i.val : Int) = 128 + (i.val : Int) := by decide +kernel
 have := h ⟨x.toNat, by omega⟩
 simpa [Int.toNat_of_nonneg h0] using this
theorem u8_or192 (x : Int) (h0 : 0 <= x) (h1 : x < 32) : bits .or .u8 192 x = 192 + x := by
 have h : ∀ i : Fin 32, bits .or .u8 192 (i.val : Int) = 192 + (i.val : Int) := by decide +kernel
 have := h ⟨x.toNat, by omega⟩
 simpa [Int.toNat_of_nonneg h0] using this
theorem u8_or224 (x : Int) (h0 : 0 <= x) (h1 : x < 16) : bits .or .u8 224 x = 224 + x := by
 have h : ∀ i : Fin 16, bits .or .u8 224 (i.val : Int) = 224 + (i.val : Int) := by decide +kernel
 have := h ⟨x.toNat, by omega⟩
 simpa [Int.toNat_of_nonneg h0] using this
theorem u8_or240 (x : Int) (h0 : 0 <= x) (h1 : x < 8) : bits .or .u8 240 x = 240 + x := by
 have h : ∀ i : Fin 8, bits .or .u8 240 (i.val : Int) = 240 + (i.val : Int) := by decide +kernel
 have := h ⟨x.toNat, by omega⟩
 simpa [Int.toNat_of_nonneg h0] using this
theorem Blk.newAt {w : World} {t : TypeId} {cs : Array Value} {H : Nat} (h : w.heap.size = H) : Blk (w.alloc (.cells cs t)) H t cs := h ▸ Blk.new w t cs
theorem byte_info8 : (Tryz.prog.info? 5).map (fun i => (i.zero, i.size, i.bytes)) = some (some (.int .u8 0), 1, 1) := by kernel_rfl
theorem wrap_u8 (x : Int) : IntKind.u8.wrap x = x % 256 := by simp [IntKind.wrap, IntKind.bits, IntKind.signed]
def OwnB (v : Value) : Nat -> Prop := fun b => v.ownBlock = some b
def PutPost (v : Value) (base : Nat) (xs bs : List Int) (w : World) (e : Ending) (w' : World) : Prop :=
 ∃ v', e = .returned v' /\ w'.ownsRow base 5 1 v' (xs.length + bs.length) ((xs ++ bs).map (Value.int .u8)) /\ Fr (OwnB v) w w' /\ ∀ b, v'.ownBlock = some b -> v.ownBlock = some b \/ w.heap.size <= b
theorem put_done {v v1 : Value} {base H : Nat} {xs bs : List Int} {w w0 w1 : World} (hb : Below w.heap.size w w0) (ho : w1.ownsRow base 5 1 v1 (xs.length + bs.length) (xs.map (Value.int .u8) ++ bs.map (Value.int .u8))) (hg : w0.grownBy w1 v.ownBlock) (hat : v1.ownBlock = v.ownBlock \/ v1.ownBlock = some H) (hH : w0.heap.size = H := by simp) : PutPost v base xs bs w (.returned v1) w1 := by
 refine ⟨v1, rfl, by rw [List.map_append]; exact ho, (Fr.of_below hb).grown hg (fun k hk _ => hk), fun b hbb => ?_⟩
 rcases hat with hat | hat
 ·exact .inl (by rw [<- hat]; exact hbb)
 ·rw [hat] at hbb
  injection hbb with hbb
  have := hb.size
  exact .inr (by omega)
theorem putL_any (base : Nat) (v : Value) (xs : List Int) (a : Int) (w : World) (ho : w.ownsRow base 5 1 v xs.length (xs.map (Value.int .u8))) (hb : base <= w.heap.size) (hx : xs.length <= 1073741824) (ha : 0 < szL a) :
  Calls Tryz.prog 208 #[.agg #[], v, .int .i64 a] w fun e w' => PutPost v base xs [a] w e w' := by
 have hr : 0 <= a /\ a <= 255 := by unfold szL at ha; split at ha <;> omega
 have hk : IntKind.u8.wrap a = a := by rw [wrap_u8]; omega
 obtain ⟨ib, hib, hb0, hb1, hb2⟩ := info_parts byte_info8
 clear ha
 go_enter Tryz.func208, Tryz.ntmps208
 go_wp2_with (at_builtin; refine wpList_append_own_at _ rfl (.tmp 7) (.tmp 10) 22 rfl base 5 ib (.int .u8 0) 1 1 Tryz.underlying22 hib hb0 hb1 hb2 rfl (by decide) v xs.length _ rfl ((ho.alloc _).alloc _) ⟨w.heap.size + 1, 0, none⟩ 1 1 [.int .u8 a] rfl rfl ?c1 (by simp [Value.oneCell']) (by unfold maxLen; omega) (by omega) (by simp; omega) ?_)
 case c1 =>
  intro j u hj
  have := cell_one_new (w.alloc (.cells #[] 180)) (.int .u8 a) 5 j u hj
  simpa using this
 intro v1 w1 hown1 hgr _ hat
 have HP := Lib.hid (put_done (balloc (balloc (Below.refl _ _))) hown1 hgr hat (bs := [a]))
 clear hown1 hgr hat hib hb0 hb1 hb2
 go_wp2_with fail
 go_ret
 exact HP.out
theorem sz8_any (a : Int) (w : World) : Calls Tryz.prog 180 #[.agg #[], .int .i64 a] w fun e w' => e = .returned (.int .i64 (sz8 a)) /\ Below w.heap.size w w' := by
 go_enter Tryz.func180, Tryz.ntmps180
 go_wp2
 all_goals
  go_light
  go_ret
  refine ⟨ret_i ?_, balloc (Below.refl _ _)⟩
  unfold sz8
  (try simp only [beq_iff_eq, beq_eq_false_iff_ne, ne_eq] at *)
  (repeat' split) <;> first | rfl | omega
theorem sz16_any (o a : Int) (w : World) : Calls Tryz.prog 200 #[.agg #[.int .i64 o], .int .i64 a] w fun e w' => e = .returned (.int .i64 (sz16 a)) /\ Below w.heap.size w w' := by
 go_enter Tryz.func200, Tryz.ntmps200
 go_wp2
 all_goals
  go_light
  go_ret
  refine ⟨ret_i ?_, balloc (Below.refl _ _)⟩
  unfold sz16
  (try simp only [beq_iff_eq, beq_eq_false_iff_ne, ne_eq] at *)
  (repeat' split) <;> first | rfl | omega
theorem szL_any (a : Int) (w : World) : Calls Tryz.prog 209 #[.agg #[], .int .i64 a] w fun e w' => e = .returned (.int .i64 (szL a)) /\ Below w.heap.size w w' := by
 go_enter Tryz.func209, Tryz.ntmps209
 go_wp2
 all_goals
  go_light
  go_ret
  refine ⟨ret_i ?_, balloc (Below.refl _ _)⟩
  unfold szL
  (try simp only [beq_iff_eq, beq_eq_false_iff_ne, ne_eq] at *)
  (repeat' split) <;> first | rfl | omega
structure HalfS (w : World) (base : Nat) (o : Int) (v : Value) (xs : List Int) (x y : Int) (w' : World) : Prop where
 box : Blk w' w.heap.size 179 #[.int .i64 o]
 arr : Blk w' (w.heap.size + 1) 262 #[.int .u8 x, .int .u8 y]
 own : w'.ownsRow base 5 1 v xs.length (xs.map (Value.int .u8))
 bel : Below w.heap.size w w'
theorem own_set_far {w : World} {B e size n g i : Nat} {T : TypeId} {cs : Array Value} {v u : Value} {xs : List Value} (h : w.ownsRow B e size v n xs) (hb : Blk w g T cs) (hT : e ≠ T) : (w.setCell ⟨g, i, none⟩ u).ownsRow B e size v n xs := by
 refine ⟨h.1, ?_⟩
 rcases h.2 with h0 | ⟨r, cap, cur, rfl, h1, h2, h3⟩
 ·exact .inl h0
 ·refine .inr ⟨r, cap, cur, rfl, h1, ?_, h3⟩
  rw [Below.heap_setCell w _ u r (fun e => Blk.ne_ h2 hb hT (by simpa using e))]
  exact h2
theorem HalfS.drew {w w' : World} {base : Nat} {o x y : Int} {v : Value} {xs : List Int} (h : HalfS w base o v xs x y w') : HalfS w base o v xs x y w'.drew := ⟨h.box, h.arr, h.own, h.bel.drew⟩
theorem HalfS.set0 {w w' : World} {base : Nat} {o x y : Int} {v : Value} {xs : List Int} (h : HalfS w base o v xs x y w') (hb : base <= w.heap.size) (u : Int) : HalfS w base o v xs u y (w'.setCell ⟨w.heap.size + 1, 0, none⟩ (.int .u8 u)) :=
 ⟨h.box.far (by simp) _, h.arr.set_ 0 _, own_set_far h.own h.arr (by decide), h.bel.setCell (by simp) _⟩
theorem HalfS.set1 {w w' : World} {base : Nat} {o x y : Int} {v : Value} {xs : List Int} (h : HalfS w base o v xs x y w') (hb : base <= w.heap.size) (u : Int) : HalfS w base o v xs x u (w'.setCell ⟨w.heap.size + 1, 1, none⟩ (.int .u8 u)) :=
 ⟨h.box.far (by simp) _, h.arr.set_ 1 _, own_set_far h.own h.arr (by decide), h.bel.setCell (by simp) _⟩
theorem HalfS.facts {w w' : World} {base : Nat} {o x y : Int} {v : Value} {xs : List Int} (h : HalfS w base o v xs x y w') :
  w'.cell? ⟨w.heap.size, 0, none⟩ = some (.int .i64 o) /\ w'.cell? ⟨w.heap.size + 1, 0, none⟩ = some (.int .u8 x) /\ w'.cell? ⟨w.heap.size + 1, 1, none⟩ = some (.int .u8 y) /\ w'.frozen? ⟨w.heap.size + 1, 0, none⟩ = false /\ w'.frozen? ⟨w.heap.size + 1, 1, none⟩ = false :=
 ⟨h.box.cell 0, h.arr.cell 0, h.arr.cell 1, h.arr.frozen 0, h.arr.frozen 1⟩
theorem half_any (base : Nat) (o : Int) (v : Value) (xs : List Int) (u : Int) (w : World) (h0 : o = 0 \/ o = 1) (ho : w.ownsRow base 5 1 v xs.length (xs.map (Value.int .u8))) (hb : base <= w.heap.size) (hx : xs.length <= 1073741824) (hu : 0 <= u /\ u < 65536) :
  Calls Tryz.prog 204 #[.agg #[.int .i64 o], v, .int .i64 u] w fun e w' => PutPost v base xs (half16 o u) w e w' := by
 obtain ⟨ib, hib, hb0, hb1, hb2⟩ := info_parts byte_info8
 have k1 : IntKind.u8.wrap u = u % 256 := wrap_u8 u
 have k2 : IntKind.u8.wrap (u / 256) = u / 256 % 256 := wrap_u8 _
 obtain ⟨W, hWe⟩ : ∃ W, (w.alloc (.cells #[.int .i64 o] 179)).alloc (.cells #[.int .u8 0, .int .u8 0] 262) = W := ⟨_, rfl⟩
 have hs : HalfS w base o v xs 0 0 W := by
  rw [<- hWe]
  exact ⟨(Blk.new w _ _).alloc _, Blk.newAt (by simp), (ho.alloc _).alloc _, balloc (balloc (Below.refl _ _))⟩
 have HWE := Lib.hid hWe
 have HS := Lib.hid hs.drew
 have kw1 : IntKind.i64.wrap 1 = 1 := by decide
 have kw0 : IntKind.i64.wrap 0 = 0 := by decide
 clear hWe ho hs
 rcases h0 with rfl | rfl
 ·go_enter Tryz.func204, Tryz.ntmps204
  go_wp2_with fail
  rw [HWE.out]
  refine wp_region_lin (fun w' => w'.cell? ⟨w.heap.size, 0, none⟩ = some (.int .i64 0)) (HalfS w base 0 v xs 0 0) (fun k => k == 11 || k == 13) (fun _ => false) (fun _ => false) (by kernel_rfl) (by kernel_rfl) (HS.out) (fun _ h => h.facts.1) ?_
  repeat ((first
   | (refine wpL_read (v := ?_) (by rfl) (by rfl) (fun w6 hSw => ?_) ?_; rotate_left; (· (have y0 := hSw; go_simp; try with_reducible rfl)))
   | (refine wpL_free (v := ?_) (by rfl) (fun w6 => ?_) ?_; rotate_left; (· (go_simp; try with_reducible rfl)))
   | refine wpL_not (by rfl) ?_); (try simp only [Act.put, pA, pB, pC]))
  refine wpL_heavy (fun _ w'' => HalfS w base 0 v xs (u % 256) (0) w'') (by rfl) (by rfl) (fun w6 hSw => ?_) (.inr (fun v6 w6 hT6 => ?_)) (fun v6 hv6 => ?_)
  ·(obtain ⟨y0, y1, y2, y3, y4⟩ := hSw.facts; go_simp; exact hSw.set0 hb _)
  ·(exact hT6.facts.1)
  skip
  (try simp only [Act.put, pA, pB, pC])
  repeat ((first
   | (refine wpL_read (v := ?_) (by rfl) (by rfl) (fun w6 hSw => ?_) ?_; rotate_left; (· (have y0 := hSw; go_simp; try with_reducible rfl)))
   | (refine wpL_free (v := ?_) (by rfl) (fun w6 => ?_) ?_; rotate_left; (· (go_simp; try with_reducible rfl)))
   | refine wpL_not (by rfl) ?_); (try simp only [Act.put, pA, pB, pC]))
  refine wpL_heavy (fun _ w'' => HalfS w base 0 v xs (u % 256) (u / 256 % 256) w'') (by rfl) (by rfl) (fun w6 hSw => ?_) (.inr (fun v6 w6 hT6 => ?_)) (fun v6 hv6 => ?_)
  ·(obtain ⟨y0, y1, y2, y3, y4⟩ := hSw.facts; go_simp; exact hSw.set1 hb _)
  ·(exact hT6.facts.1)
  skip
  (try simp only [Act.put, pA, pB, pC])
  refine wpL_nil ?_
  intro w2 hw2
  have ho := hw2.own
  obtain ⟨_, z1, z2, _, _⟩ := hw2.facts
  have hsz := hw2.bel.size
  have hbel := hw2.bel
  clear hw2 hv6
  go_wp2_with (at_builtin; refine wpList_append_own_at _ rfl (.tmp 20) (.tmp 21) 22 rfl base 5 ib (.int .u8 0) 1 1 Tryz.underlying22 hib hb0 hb1 hb2 rfl (by decide) v xs.length _ rfl ho ⟨w.heap.size + 1, 0, none⟩ 2 2 [.int .u8 (u % 256), .int .u8 (u / 256 % 256)] rfl rfl ?c1 (by simp [Value.oneCell']) (by unfold maxLen; omega) (by omega) (by omega) ?_)
  case c1 =>
   intro j t hj
   match j, hj with
   | 0, hj => simp at hj; subst hj; simpa [Addr.add] using z1
   | 1, hj => simp at hj; subst hj; simpa [Addr.add] using z2
  intro v1 w1 hown1 hgr _ hat
  have HP := Lib.hid (put_done hbel hown1 hgr hat (bs := [u % 256, u / 256 % 256]))
  clear hown1 hgr hat hib hb0 hb1 hb2 z1 z2
  go_wp2_with fail
  go_ret
  exact HP.out
 ·go_enter Tryz.func204, Tryz.ntmps204
  go_wp2_with fail
  rw [HWE.out]
  refine wp_region_lin (fun w' => w'.cell? ⟨w.heap.size, 0, none⟩ = some (.int .i64 1)) (HalfS w base 1 v xs 0 0) (fun k => k == 11 || k == 13) (fun _ => false) (fun _ => false) (by kernel_rfl) (by kernel_rfl) (HS.out) (fun _ h => h.facts.1) ?_
  repeat ((first
   | (refine wpL_read (v := ?_) (by rfl) (by rfl) (fun w6 hSw => ?_) ?_; rotate_left; (· (have y0 := hSw; go_simp; try with_reducible rfl)))
   | (refine wpL_free (v := ?_) (by rfl) (fun w6 => ?_) ?_; rotate_left; (· (go_simp; try with_reducible rfl)))
   | refine wpL_not (by rfl) ?_); (try simp only [Act.put, pA, pB, pC]))
  refine wpL_heavy (fun _ w'' => HalfS w base 1 v xs (0) (u % 256) w'') (by rfl) (by rfl) (fun w6 hSw => ?_) (.inr (fun v6 w6 hT6 => ?_)) (fun v6 hv6 => ?_)
  ·(obtain ⟨y0, y1, y2, y3, y4⟩ := hSw.facts; go_simp; exact hSw.set1 hb _)
  ·(exact hT6.facts.1)
  skip
  (try simp only [Act.put, pA, pB, pC])
  repeat ((first
   | (refine wpL_read (v := ?_) (by rfl) (by rfl) (fun w6 hSw => ?_) ?_; rotate_left; (· (have y0 := hSw; go_simp; try with_reducible rfl)))
   | (refine wpL_free (v := ?_) (by rfl) (fun w6 => ?_) ?_; rotate_left; (· (go_simp; try with_reducible rfl)))
   | refine wpL_not (by rfl) ?_); (try simp only [Act.put, pA, pB, pC]))
  refine wpL_heavy (fun _ w'' => HalfS w base 1 v xs (u / 256 % 256) (u % 256) w'') (by rfl) (by rfl) (fun w6 hSw => ?_) (.inr (fun v6 w6 hT6 => ?_)) (fun v6 hv6 => ?_)
  ·(obtain ⟨y0, y1, y2, y3, y4⟩ := hSw.facts; go_simp; exact hSw.set0 hb _)
  ·(exact hT6.facts.1)
  skip
  (try simp only [Act.put, pA, pB, pC])
  refine wpL_nil ?_
  intro w2 hw2
  have ho := hw2.own
  obtain ⟨_, z1, z2, _, _⟩ := hw2.facts
  have hsz := hw2.bel.size
  have hbel := hw2.bel
  clear hw2 hv6
  go_wp2_with (at_builtin; refine wpList_append_own_at _ rfl (.tmp 20) (.tmp 21) 22 rfl base 5 ib (.int .u8 0) 1 1 Tryz.underlying22 hib hb0 hb1 hb2 rfl (by decide) v xs.length _ rfl ho ⟨w.heap.size + 1, 0, none⟩ 2 2 [.int .u8 (u / 256 % 256), .int .u8 (u % 256)] rfl rfl ?c1 (by simp [Value.oneCell']) (by unfold maxLen; omega) (by omega) (by omega) ?_)
  case c1 =>
   intro j t hj
   match j, hj with
   | 0, hj => simp at hj; subst hj; simpa [Addr.add] using z1
   | 1, hj => simp at hj; subst hj; simpa [Addr.add] using z2
  intro v1 w1 hown1 hgr _ hat
  have HP := Lib.hid (put_done hbel hown1 hgr hat (bs := [u / 256 % 256, u % 256]))
  clear hown1 hgr hat hib hb0 hb1 hb2 z1 z2
  go_wp2_with fail
  go_ret
  exact HP.out
theorem i64_or_hi (k x : Int) (hk : 0 <= k /\ k < 64) (h0 : 0 <= x) (h1 : x < 1024) : bits .or .i64 (k * 1024) x = k * 1024 + x :=
 bits_join .i64 31 (by decide) (fun n a b => by rw [IntKind.wrap_i64]; omega) 10 (k * 1024) x (by omega) (by omega) (by omega) h0 (by omega) (by omega)
structure Put2S (w W : World) (base : Nat) (v : Value) (o : Int) (ys : List Int) (v1 : Value) (w1 : World) : Prop where
 own : w1.ownsRow base 5 1 v1 ys.length (ys.map (Value.int .u8))
 box : Blk w1 w.heap.size 179 #[.int .i64 o]
 fr : Fr (OwnB v) W w1
 blk : ∀ b, v1.ownBlock = some b -> v.ownBlock = some b \/ W.heap.size <= b
theorem Put2S.start {w W : World} {base : Nat} {v : Value} {o : Int} {xs : List Int} (hbx : Blk W w.heap.size 179 #[.int .i64 o]) (h3 : W.ownsRow base 5 1 v xs.length (xs.map (Value.int .u8))) : Put2S w W base v o xs v W.drew :=
 ⟨h3, hbx, (Fr.refl _ _).drew, fun _ h => .inl h⟩
theorem Put2S.step {w W w6 : World} {base : Nat} {v v6 : Value} {o u : Int} {ys : List Int} (h0 : o = 0 \/ o = 1) (hb : base <= W.heap.size) (hx : ys.length <= 1073741824) (b2 : 0 <= u /\ u < 65536) (hS : Put2S w W base v o ys v6 w6) :
  Calls Tryz.prog 204 #[.agg #[.int .i64 o], v6, .int .i64 u] w6 fun e w' => ∃ v1, e = .returned v1 /\ Put2S w W base v o (ys ++ half16 o u) v1 w' := by
 refine (half_any base o v6 ys u w6 h0 hS.own (Nat.le_trans hb hS.fr.size) hx b2).mono ?_
 rintro e w5 ⟨v5, rfl, h3, h4, h5⟩
 refine ⟨_, rfl, by rw [List.length_append]; exact h3, hS.box.fr h4 (own_blk_ne hS.own hS.box (by decide)), hS.fr.call h4 (fun i hi hh => ?_), fun b hbb => ?_⟩
 ·rcases hS.blk i hh with h | h
  ·exact h
  ·omega
 ·rcases h5 b hbb with h | h
  ·exact hS.blk b h
  ·exact .inr (Nat.le_trans hS.fr.size h)
theorem put16_any (base : Nat) (o : Int) (v : Value) (xs : List Int) (a : Int) (w : World) (h0 : o = 0 \/ o = 1) (ho : w.ownsRow base 5 1 v xs.length (xs.map (Value.int .u8))) (hb : base <= w.heap.size) (hx : xs.length <= 1073741820) (ha : 0 < sz16 a) :
  Calls Tryz.prog 199 #[.agg #[.int .i64 o], v, .int .i64 a] w fun e w' => PutPost v base xs (put16 o a) w e w' := by
 have hr : -256 <= a /\ a <= 1114111 := by unfold sz16 at ha; split at ha <;> omega
 clear ha
 have hbx := Blk.new w 179 #[.int .i64 o]
 have hW : Below w.heap.size w (w.alloc (.cells #[.int .i64 o] 179)) := balloc (Below.refl _ _)
 have hoW := ho.alloc (.cells #[.int .i64 o] 179)
 clear ho
 by_cases h1 : a < 0
 ·have hp : put16 o a = [-1 - a] := by unfold put16; rw [if_pos h1]
  have hk : IntKind.u8.wrap (-1 - a) = -1 - a := by rw [wrap_u8]; omega
  have hkk : IntKind.i64.wrap (-1 - a) = -1 - a := IntWalk.i64_in _ (by omega)
  rw [hp]
  obtain ⟨ib, hib, hb0, hb1, hb2⟩ := info_parts byte_info8
  obtain ⟨b, hbe⟩ : ∃ b, -1 - a = b := ⟨_, rfl⟩
  rw [hbe] at hk hkk ⊢
  have HBE := Lib.hid hbe
  clear hp hbx
  go_enter Tryz.func199, Tryz.ntmps199
  go_wp2_with (at_builtin; refine wpList_append_own_at _ rfl (.tmp 10) (.tmp 14) 22 rfl base 5 ib (.int .u8 0) 1 1 Tryz.underlying22 hib hb0 hb1 hb2 rfl (by decide) v xs.length _ rfl (hoW.alloc _) ⟨w.heap.size + 1, 0, none⟩ 1 1 [.int .u8 b] rfl rfl ?c1 (by simp [Value.oneCell']) (by unfold maxLen; omega) (by omega) (by simp; omega) ?_)
  case c1 =>
   intro j u hj
   have := cell_one_new (w.alloc (.cells #[.int .i64 o] 179)) (.int .u8 b) 5 j u hj
   simpa using this
  intro v1 w1 hown1 hgr _ hat
  have HP := Lib.hid (put_done (balloc hW) hown1 hgr hat (bs := [b]))
  clear hown1 hgr hat hib hb0 hb1 hb2
  go_wp2_with fail
  go_ret
  exact HP.out
 ·by_cases h2 : a < 65536
  ·have hp : put16 o a = half16 o a := by unfold put16; rw [if_neg h1, if_pos h2]
   rw [hp]
   have hc := half_any base o v xs a _ h0 hoW (by simp; omega) (by omega) ⟨by omega, h2⟩
   have c0 := hbx.cell 0
   simp at c0
   have HC := Lib.hid hc
   clear hc hp hbx
   go_enter Tryz.func199, Tryz.ntmps199
   go_wp2_with fail
   refine (HC.out).mono ?_
   rintro e w1 ⟨v1, rfl, h3, h4, h5⟩
   have HO := Lib.hid h3
   have H5 := Lib.hid h5
   clear h3 h5
   go_wp2_with fail
   go_ret
   exact ⟨v1, rfl, HO.out, (Fr.of_below hW).call h4 (fun _ _ h => h), fun b hb => (H5.out b hb).imp id (fun h => by have := hW.size; omega)⟩
  ·have hp : put16 o a = half16 o (55296 + (a - 65536) / 1024) ++ half16 o (56320 + a % 1024) := by unfold put16; rw [if_neg h1, if_neg h2]
   rw [hp]
   have e1 : IntKind.i64.wrap (a - 65536) = a - 65536 := IntWalk.i64_in _ (by omega)
   have e2 : bits .or .i64 55296 ((a - 65536) / 1024) = 55296 + (a - 65536) / 1024 := i64_or_hi 54 ((a - 65536) / 1024) (by omega) (by omega) (by omega)
   have e3 : bits .and .i64 a 1023 = a % 1024 := i64_and 10 (by omega) a (by omega) (by omega)
   have e4 : bits .or .i64 56320 (a % 1024) = 56320 + a % 1024 := i64_or_hi 55 (a % 1024) (by omega) (by omega) (by omega)
   obtain ⟨u1, hu1⟩ : ∃ u, 55296 + (a - 65536) / 1024 = u := ⟨_, rfl⟩
   obtain ⟨u2, hu2⟩ : ∃ u, 56320 + a % 1024 = u := ⟨_, rfl⟩
   rw [hu1] at e2 ⊢
   rw [hu2] at e4 ⊢
   have b1 : 0 <= u1 /\ u1 < 65536 := by omega
   have b2 : 0 <= u2 /\ u2 < 65536 := by omega
   have q1 : (a < 0) = False := by simp; omega
   have q2 : (a < 65536) = False := by simp; omega
   have HBX := Lib.hid hbx
   have HOW := Lib.hid hoW
   have HW := Lib.hid hW
   obtain ⟨W, hWe⟩ : ∃ W, w.alloc (.cells #[.int .i64 o] 179) = W := ⟨_, rfl⟩
   rw [hWe] at HBX HOW HW
   have HWE := Lib.hid hWe
   clear hWe hbx hoW hW hp hu1 hu2 h1 h2
   go_enter Tryz.func199, Tryz.ntmps199
   go_wp2_with fail
   rw [HWE.out]
   refine wp_region_lin (fun w' => w'.cell? ⟨w.heap.size, 0, none⟩ = some (.int .i64 o)) (Put2S w W base v o xs v) (fun k => k == 7 || k == 11) (fun _ => false) (fun _ => false) (by kernel_rfl) (by kernel_rfl) (Put2S.start HBX.out HOW.out) (fun _ h => h.box.cell 0) ?_
   repeat ((first
    | (refine wpL_read (v := ?_) (by rfl) (by rfl) (fun w6 hSw => ?_) ?_; rotate_left; (· (have y0 := hSw; go_simp; try with_reducible rfl)))
    | (refine wpL_free (v := ?_) (by rfl) (fun w6 => ?_) ?_; rotate_left; (· (go_simp; try with_reducible rfl)))
    | refine wpL_not (by rfl) ?_); (try simp only [Act.put, pA, pB, pC]))
   refine wpL_call (f := ?_) (args := ?_) (Put2S w W base v o (xs ++ half16 o u1)) (by rfl) (by rfl) (fun w6 hSw => ?_) (fun w6 hSw => ?_) (.inr (fun v6 w6 hT6 => ?_)) (fun v6 hv6 => ?_)
   rotate_left 2
   ·(skip; go_simp; first | done | (constructor <;> with_reducible rfl) | with_reducible rfl)
   ·(exact hSw.step h0 (Nat.le_trans hb HW.out.size) (by omega) b1)
   ·(exact hT6.box.cell 0)
   obtain ⟨v7, hv7⟩ : ∃ x, x = v6 := ⟨_, rfl⟩; subst hv7
   (try simp only [Act.put, pA, pB, pC])
   repeat ((first
    | (refine wpL_read (v := ?_) (by rfl) (by rfl) (fun w6 hSw => ?_) ?_; rotate_left; (· (have y0 := hSw; go_simp; try with_reducible rfl)))
    | (refine wpL_free (v := ?_) (by rfl) (fun w6 => ?_) ?_; rotate_left; (· (go_simp; try with_reducible rfl)))
    | refine wpL_not (by rfl) ?_); (try simp only [Act.put, pA, pB, pC]))
   refine wpL_call (f := ?_) (args := ?_) (Put2S w W base v o (xs ++ half16 o u1 ++ half16 o u2)) (by rfl) (by rfl) (fun w6 hSw => ?_) (fun w6 hSw => ?_) (.inr (fun v6 w6 hT6 => ?_)) (fun v6 hv6 => ?_)
   rotate_left 2
   ·(skip; go_simp; first | done | (constructor <;> with_reducible rfl) | with_reducible rfl)
   ·(exact hSw.step h0 (Nat.le_trans hb HW.out.size) (by rw [List.length_append, (half16_len o u1).1]; omega) b2)
   ·(exact hT6.box.cell 0)
   skip
   (try simp only [Act.put, pA, pB, pC])
   repeat ((first
    | (refine wpL_read (v := ?_) (by rfl) (by rfl) (fun w6 hSw => ?_) ?_; rotate_left; (· (have y0 := hSw; go_simp; try with_reducible rfl)))
    | (refine wpL_free (v := ?_) (by rfl) (fun w6 => ?_) ?_; rotate_left; (· (go_simp; try with_reducible rfl)))
    | refine wpL_not (by rfl) ?_); (try simp only [Act.put, pA, pB, pC]))
   refine wpL_nil ?_
   intro w3 hw3
   go_wp2_with fail
   go_ret
   refine ⟨v6, rfl, ?_, ?_, ?_⟩
   ·have := hw3.own
    rw [List.append_assoc, List.length_append] at this
    exact this
   ·exact (Fr.of_below HW.out).call hw3.fr (fun _ _ h => h)
   ·exact fun b hb => (hw3.blk b hb).imp id (fun h => by have := HW.out.size; omega)
theorem own_bel {w w' : World} {B e size n : Nat} {v : Value} {xs : List Value} (h : w.ownsRow B e size v n xs) (hb : Below w.heap.size w w') : w'.ownsRow B e size v n xs := by
 refine ⟨h.1, ?_⟩
 rcases h.2 with hn | ⟨g, cap, cur, rfl, hg, hgg, rest⟩
 ·exact .inl hn
 ·exact .inr ⟨g, cap, cur, rfl, hg, (hb.block g (Array.getElem?_eq_some_iff.1 hgg).1).trans hgg, rest⟩
structure AppS (w : World) (base : Nat) (v : Value) (ys : List Int) (n : Nat) (v1 : Value) (w1 : World) : Prop where
 own : w1.ownsRow base 5 1 v1 n (ys.map (Value.int .u8))
 fr : Fr (OwnB v) w w1
 blk : ∀ b, v1.ownBlock = some b -> v.ownBlock = some b \/ w.heap.size <= b
theorem AppS.start {w w1 : World} {base : Nat} {v : Value} {ys : List Int} {n : Nat} (h : w1.ownsRow base 5 1 v n (ys.map (Value.int .u8))) (hb : Below w.heap.size w w1) : AppS w base v ys n v w1 := ⟨h, Fr.of_below hb, fun _ h => .inl h⟩
theorem AppS.below {w w1 w2 : World} {base : Nat} {v v1 : Value} {ys : List Int} {n : Nat} (h : AppS w base v ys n v1 w1) (hb : Below w1.heap.size w1 w2) : AppS w base v ys n v1 w2 := ⟨own_bel h.own hb, h.fr.bel hb, h.blk⟩
theorem AppS.drew {w w1 : World} {base : Nat} {v v1 : Value} {ys : List Int} {n : Nat} (h : AppS w base v ys n v1 w1) : AppS w base v ys n v1 w1.drew := ⟨h.own, h.fr.drew, h.blk⟩
theorem AppS.step {w w1 w2 : World} {base n H : Nat} {v v1 v2 : Value} {ys : List Int} {b : Int} {o : Obj} (h : AppS w base v ys n v1 w1) {zs : List Value} (ho : w2.ownsRow base 5 1 v2 (n + 1) zs) (hg : (w1.alloc o).grownBy w2 v1.ownBlock) (hat : v2.ownBlock = v1.ownBlock \/ v2.ownBlock = some H) (hH : H = w1.heap.size + 1) (hz : zs = (ys ++ [b]).map (Value.int .u8)) : AppS w base v (ys ++ [b]) (n + 1) v2 w2 := by
 refine ⟨hz ▸ ho, (h.fr.alloc o).grown hg (fun k hk hlt => (h.blk k hk).resolve_right (by omega)), fun b hb => ?_⟩
 rcases hat with hat | hat
 ·exact h.blk b (by rw [<- hat]; exact hb)
 ·rw [hat] at hb
  injection hb with hb
  have := h.fr.size
  exact .inr (by omega)
theorem AppS.out {w w1 : World} {base n : Nat} {v v1 : Value} {xs bs : List Int} (h : AppS w base v (xs ++ bs) n v1 w1) (hn : n = xs.length + bs.length) : PutPost v base xs bs w (.returned v1) w1 := ⟨v1, rfl, hn ▸ h.own, h.fr, h.blk⟩
def LeadS (w : World) (base : Nat) (v : Value) (ys : List Int) (n lb : Nat) (v1 : Value) (w1 : World) : Prop := AppS w base v ys n v1 w1 /\ Blk w1 lb 257 #[.int .u8 0, .int .u8 0, .int .u8 192, .int .u8 224, .int .u8 240]
theorem LeadS.drew {w w1 : World} {base n lb : Nat} {v v1 : Value} {ys : List Int} (h : LeadS w base v ys n lb v1 w1) : LeadS w base v ys n lb v1 w1.drew := ⟨h.1.drew, h.2⟩
theorem LeadS.step {w w1 w2 : World} {base n H lb : Nat} {v v1 v2 : Value} {ys : List Int} {b : Int} {o : Obj} {zs : List Value} (h : LeadS w base v ys n lb v1 w1) (ho : w2.ownsRow base 5 1 v2 (n + 1) zs) (hg : (w1.alloc o).grownBy w2 v1.ownBlock) (hat : v2.ownBlock = v1.ownBlock \/ v2.ownBlock = some H) (hH : H = w1.heap.size + 1) (hz : zs = (ys ++ [b]).map (Value.int .u8)) : LeadS w base v (ys ++ [b]) (n + 1) lb v2 w2 :=
 ⟨h.1.step ho hg hat hH hz, (h.2.alloc o).grown hg (fun e => own_blk_ne h.1.own h.2 (by decide) e.symm)⟩
theorem put8_any (base : Nat) (v : Value) (xs : List Int) (a : Int) (w : World) (ho : w.ownsRow base 5 1 v xs.length (xs.map (Value.int .u8))) (hb : base <= w.heap.size) (hx : xs.length <= 1073741820) (ha : 0 < sz8 a) :
  Calls Tryz.prog 179 #[.agg #[], v, .int .i64 a] w fun e w' => PutPost v base xs (put8 a) w e w' := by
 have hW : Below w.heap.size w (w.alloc (.cells #[] 126)) := balloc (Below.refl _ _)
 have hoW := ho.alloc (.cells #[] 126)
 have ksz := sz8_any a (w.alloc (.cells #[] 126))
 obtain ⟨ib, hib, hb0, hb1, hb2⟩ := info_parts byte_info8
 have hr : -256 <= a /\ a <= 1114111 := by unfold sz8 at ha; split at ha <;> omega
 have hS := AppS.start hoW hW
 have HS := Lib.hid hS
 clear ho hoW hS
 by_cases h1 : a < 0
 ·skip
  have hz : sz8 a = 1 := by
   unfold sz8 at ha ⊢
   split at ha
   ·omega
   ·rename_i h
    rw [if_neg h, if_pos (by omega)]
  have hp : put8 a = [-1 - a] := by unfold put8; rw [if_pos h1]
  rw [hp]
  rw [hz] at ksz
  obtain ⟨b, hbe⟩ : ∃ b, -1 - a = b := ⟨_, rfl⟩
  have hk : IntKind.u8.wrap b = b := by rw [wrap_u8]; omega
  have hkk : IntKind.i64.wrap b = b := IntWalk.i64_in _ (by omega)
  have hbe' : -1 - a = b := hbe
  rw [hbe]
  have q1 : (a < 0) = True := by simp; omega
  have KS := Lib.hid ksz
  clear hp ksz hz ha hr h1
  go_enter Tryz.func179, Tryz.ntmps179
  go_wp2_with fail
  refine (KS.out).mono ?_
  rintro e w1 ⟨rfl, hb1'⟩
  have hS1 := HS.out.below hb1'
  have hsz1 := hS1.fr.size
  go_wp2_with (at_builtin; refine wpList_append_own_at _ rfl (.tmp 15) (.tmp 19) 22 rfl base 5 ib (.int .u8 0) 1 1 Tryz.underlying22 hib hb0 hb1 hb2 rfl (by decide) v xs.length _ rfl (hS1.own.alloc _) ⟨w1.heap.size, 0, none⟩ 1 1 [.int .u8 (b)] rfl rfl (cell_one_new _ _ _) (by simp [Value.oneCell']) (by unfold maxLen; omega) (by omega) (by simp; omega) ?_)
  intro v1 w2 hown1 hgr _ hat
  have HP := Lib.hid ((hS1.step (b := b) hown1 hgr hat (by simp) (by simp)).out rfl)
  clear hown1 hgr hat hib hb0 hb1 hb2 hS1 hb1'
  go_wp2_with fail
  go_ret
  exact HP.out
 ·by_cases h2 : a < 128
  ·skip
   have hz : sz8 a = 1 := by
    unfold sz8 at ha ⊢
    split at ha
    ·omega
    ·rename_i h
     rw [if_neg h, if_pos h2]
   have hp : put8 a = [a] := by unfold put8; rw [if_neg h1, if_pos h2]
   rw [hp]
   rw [hz] at ksz
   have hk : IntKind.u8.wrap a = a := by rw [wrap_u8]; omega
   have q1 : (a < 0) = False := by simp; omega
   have KS := Lib.hid ksz
   clear hp ksz hz ha hr h1 h2
   go_enter Tryz.func179, Tryz.ntmps179
   go_wp2_with fail
   refine (KS.out).mono ?_
   rintro e w1 ⟨rfl, hb1'⟩
   have hS1 := HS.out.below hb1'
   have hsz1 := hS1.fr.size
   go_wp2_with (at_builtin; refine wpList_append_own_at _ rfl (.tmp 23) (.tmp 26) 22 rfl base 5 ib (.int .u8 0) 1 1 Tryz.underlying22 hib hb0 hb1 hb2 rfl (by decide) v xs.length _ rfl (hS1.own.alloc _) ⟨w1.heap.size, 0, none⟩ 1 1 [.int .u8 (a)] rfl rfl (cell_one_new _ _ _) (by simp [Value.oneCell']) (by unfold maxLen; omega) (by omega) (by simp; omega) ?_)
   intro v1 w2 hown1 hgr _ hat
   have HP := Lib.hid ((hS1.step (b := a) hown1 hgr hat (by simp) (by simp)).out rfl)
   clear hown1 hgr hat hib hb0 hb1 hb2 hS1 hb1'
   go_wp2_with fail
   go_ret
   exact HP.out
  ·by_cases h3 : a < 2048
   ·skip
    have hz : sz8 a = 2 := by
     unfold sz8 at ha ⊢
     split at ha
     ·omega
     ·rename_i h
      rw [if_neg h, if_neg h2, if_pos h3]
    have hp : put8 a = [192 + a / 64, 128 + a % 64] := by unfold put8; rw [if_neg h1, if_neg h2, if_pos h3]
    rw [hp]
    rw [hz] at ksz
    have e1 : IntKind.u8.wrap (a / 64) = a / 64 := by rw [wrap_u8]; omega
    have e2 : bits .or .u8 192 (a / 64) = 192 + a / 64 := u8_or192 _ (by omega) (by omega)
    have e3 : IntKind.u8.wrap a = a % 256 := wrap_u8 a
    have e4 : bits .and .u8 (a % 256) 63 = a % 64 := by rw [u8_and63 _ (by omega) (by omega)]; omega
    have e5 : bits .or .u8 128 (a % 64) = 128 + a % 64 := u8_or128 _ (by omega) (by omega)
    have q1 : (a < 0) = False := by simp; omega
    have KS := Lib.hid ksz
    clear hp ksz hz ha hr h1 h2
    go_enter Tryz.func179, Tryz.ntmps179
    go_wp2_with fail
    refine (KS.out).mono ?_
    rintro e w1 ⟨rfl, hb1'⟩
    have hS1 := (HS.out.below hb1').below (balloc (Below.refl _ w1) (o := .cells #[.int .u8 0, .int .u8 0, .int .u8 192, .int .u8 224, .int .u8 240] 257))
    have hsz1 := hS1.fr.size
    clear hb1'
    go_wp2_with fail
    have hLd : LeadS w base v xs xs.length w1.heap.size v (w1.alloc (.cells #[.int .u8 0, .int .u8 0, .int .u8 192, .int .u8 224, .int .u8 240] 257)) := ⟨hS1, Blk.new w1 _ _⟩
    obtain ⟨W1, hW1⟩ : ∃ W1, w1.alloc (.cells #[.int .u8 0, .int .u8 0, .int .u8 192, .int .u8 224, .int .u8 240] 257) = W1 := ⟨_, rfl⟩
    rw [hW1] at hsz1 hLd ⊢
    clear hW1 HS hS1
    have kwa : IntKind.i64.wrap 1 = 1 := by decide
    have kwb : IntKind.i64.wrap (6 * 1) = 6 := by decide
    have kwc : IntKind.i64.wrap 6 = 6 := by decide
    refine wp_region_lin (fun w' => w'.cell? ⟨w1.heap.size, 2, none⟩ = some (.int .u8 192)) (LeadS w base v xs xs.length w1.heap.size v) (fun k => k == 11 || k == 12) (fun _ => false) (fun _ => false) (by kernel_rfl) (by kernel_rfl) (hLd.drew) (fun _ h => h.2.cell 2) ?_
    repeat ((first
     | (refine wpL_read (v := ?_) (by rfl) (by rfl) (fun w6 hSw => ?_) ?_; rotate_left; (· (have y0 := hSw; go_simp; try with_reducible rfl)))
     | (refine wpL_free (v := ?_) (by rfl) (fun w6 => ?_) ?_; rotate_left; (· (go_simp; try with_reducible rfl)))
     | refine wpL_not (by rfl) ?_); (try simp only [Act.put, pA, pB, pC]))
    refine wpL_heavy (fun u w' => ∃ w0, LeadS w base v xs xs.length w1.heap.size v w0 /\ u = .slice (some ⟨w0.heap.size, 0, none⟩) 1 1 /\ w' = w0.alloc (.cells #[.int .u8 (192 + a / 64)] 5)) (by rfl) (by rfl) (fun w6 hSw => ?_) (.inr (fun v6 w6 hT6 => ?_)) (fun v6 hv6 => ?_)
    ·(go_simp; exact ⟨w6, hSw, rfl, rfl⟩)
    ·(obtain ⟨w0, h0, -, rfl⟩ := hT6; exact (h0.2.alloc _).cell 2)
    skip
    (try simp only [Act.put, pA, pB, pC])
    repeat ((first
     | (refine wpL_read (v := ?_) (by rfl) (by rfl) (fun w6 hSw => ?_) ?_; rotate_left; (· (have y0 := hSw; go_simp; try with_reducible rfl)))
     | (refine wpL_free (v := ?_) (by rfl) (fun w6 => ?_) ?_; rotate_left; (· (go_simp; try with_reducible rfl)))
     | refine wpL_not (by rfl) ?_); (try simp only [Act.put, pA, pB, pC]))
    refine wpL_heavy (fun u w' => LeadS w base v (xs ++ [192 + a / 64]) (xs.length + 1) w1.heap.size u w') (by rfl) (by rfl) (fun w6 hSw => ?_) (.inr (fun v6 w6 hT6 => ?_)) (fun v6 hv6 => ?_)
    ·(obtain ⟨w0, h0, rfl, rfl⟩ := hSw; exact hrun_append_own 22 rfl base 5 ib (.int .u8 0) 1 1 Tryz.underlying22 hib hb0 hb1 hb2 rfl (by decide) v xs.length _ rfl (h0.1.own.alloc _) ⟨w0.heap.size, 0, none⟩ 1 1 [.int .u8 (192 + a / 64)] rfl rfl (cell_one_new _ _ _) (by simp [Value.oneCell']) (by unfold maxLen; omega) (by omega) (by have := h0.1.fr.size; simp; omega) (fun v' w' ho' hg' _ hat' => h0.step (b := 192 + a / 64) ho' hg' hat' (by simp) (by simp)))
    ·(exact hT6.2.cell 2)
    skip
    (try simp only [Act.put, pA, pB, pC])
    repeat ((first
     | (refine wpL_read (v := ?_) (by rfl) (by rfl) (fun w6 hSw => ?_) ?_; rotate_left; (· (have y0 := hSw; go_simp; try with_reducible rfl)))
     | (refine wpL_free (v := ?_) (by rfl) (fun w6 => ?_) ?_; rotate_left; (· (go_simp; try with_reducible rfl)))
     | refine wpL_not (by rfl) ?_); (try simp only [Act.put, pA, pB, pC]))
    refine wpL_nil ?_
    rintro w2 ⟨hS2, -⟩
    obtain ⟨v1, hv1⟩ : ∃ x, x = v6 := ⟨_, rfl⟩
    subst hv1
    have hsz2 := hS2.fr.size
    clear hLd
    go_wp2_with fail
    refine wp_loop_rounds 2 ?_
    rw [rounds_succ]
    go_wp2_with (at_builtin; refine wpList_append_own_at _ rfl (.tmp 48) (.tmp 56) 22 rfl base 5 ib (.int .u8 0) 1 1 Tryz.underlying22 hib hb0 hb1 hb2 rfl (by decide) v1 (xs.length + 1) _ rfl (hS2.own.alloc _) ⟨w2.heap.size, 0, none⟩ 1 1 [.int .u8 (128 + a % 64)] rfl rfl (cell_one_new _ _ _) (by simp [Value.oneCell']) (by unfold maxLen; omega) (by omega) (by simp; omega) ?_)
    intro v2 w3 hown1 hgr _ hat
    have hS3 := hS2.step (b := 128 + a % 64) hown1 hgr hat (by simp) (by simp)
    have hsz3 := hS3.fr.size
    clear hown1 hgr hat hS2
    go_wp2_with fail
    rw [rounds_succ]
    have HP := Lib.hid (hS3)
    clear hS3
    go_wp2_with fail
    go_ret
    refine AppS.out (n := xs.length + 1 + 1) (bs := [192 + a / 64, 128 + a % 64]) ?_ rfl
    have := HP.out
    simp only [List.append_assoc, List.cons_append, List.nil_append] at this ⊢
    exact this
   ·by_cases h4 : a < 65536
    ·skip
     have hz : sz8 a = 3 := by
      unfold sz8 at ha ⊢
      split at ha
      ·omega
      ·rename_i h
       rw [if_neg h, if_neg h2, if_neg h3, if_pos h4]
     have hp : put8 a = [224 + a / 4096, 128 + a / 64 % 64, 128 + a % 64] := by unfold put8; rw [if_neg h1, if_neg h2, if_neg h3, if_pos h4]
     rw [hp]
     rw [hz] at ksz
     have e1 : IntKind.u8.wrap (a / 4096) = a / 4096 := by rw [wrap_u8]; omega
     have e2 : bits .or .u8 224 (a / 4096) = 224 + a / 4096 := u8_or224 _ (by omega) (by omega)
     have e6 : IntKind.u8.wrap (a / 64) = a / 64 % 256 := wrap_u8 _
     have e7 : bits .and .u8 (a / 64 % 256) 63 = a / 64 % 64 := by rw [u8_and63 _ (by omega) (by omega)]; omega
     have e8 : bits .or .u8 128 (a / 64 % 64) = 128 + a / 64 % 64 := u8_or128 _ (by omega) (by omega)
     have e3 : IntKind.u8.wrap a = a % 256 := wrap_u8 a
     have e4 : bits .and .u8 (a % 256) 63 = a % 64 := by rw [u8_and63 _ (by omega) (by omega)]; omega
     have e5 : bits .or .u8 128 (a % 64) = 128 + a % 64 := u8_or128 _ (by omega) (by omega)
     have q1 : (a < 0) = False := by simp; omega
     have KS := Lib.hid ksz
     clear hp ksz hz ha hr h1 h2
     go_enter Tryz.func179, Tryz.ntmps179
     go_wp2_with fail
     refine (KS.out).mono ?_
     rintro e w1 ⟨rfl, hb1'⟩
     have hS1 := (HS.out.below hb1').below (balloc (Below.refl _ w1) (o := .cells #[.int .u8 0, .int .u8 0, .int .u8 192, .int .u8 224, .int .u8 240] 257))
     have hsz1 := hS1.fr.size
     clear hb1'
     go_wp2_with fail
     have hLd : LeadS w base v xs xs.length w1.heap.size v (w1.alloc (.cells #[.int .u8 0, .int .u8 0, .int .u8 192, .int .u8 224, .int .u8 240] 257)) := ⟨hS1, Blk.new w1 _ _⟩
     obtain ⟨W1, hW1⟩ : ∃ W1, w1.alloc (.cells #[.int .u8 0, .int .u8 0, .int .u8 192, .int .u8 224, .int .u8 240] 257) = W1 := ⟨_, rfl⟩
     rw [hW1] at hsz1 hLd ⊢
     clear hW1 HS hS1
     have kwa : IntKind.i64.wrap 2 = 2 := by decide
     have kwb : IntKind.i64.wrap (6 * 2) = 12 := by decide
     have kwc : IntKind.i64.wrap 12 = 12 := by decide
     refine wp_region_lin (fun w' => w'.cell? ⟨w1.heap.size, 3, none⟩ = some (.int .u8 224)) (LeadS w base v xs xs.length w1.heap.size v) (fun k => k == 11 || k == 12) (fun _ => false) (fun _ => false) (by kernel_rfl) (by kernel_rfl) (hLd.drew) (fun _ h => h.2.cell 3) ?_
     repeat ((first
      | (refine wpL_read (v := ?_) (by rfl) (by rfl) (fun w6 hSw => ?_) ?_; rotate_left; (· (have y0 := hSw; go_simp; try with_reducible rfl)))
      | (refine wpL_free (v := ?_) (by rfl) (fun w6 => ?_) ?_; rotate_left; (· (go_simp; try with_reducible rfl)))
      | refine wpL_not (by rfl) ?_); (try simp only [Act.put, pA, pB, pC]))
     refine wpL_heavy (fun u w' => ∃ w0, LeadS w base v xs xs.length w1.heap.size v w0 /\ u = .slice (some ⟨w0.heap.size, 0, none⟩) 1 1 /\ w' = w0.alloc (.cells #[.int .u8 (224 + a / 4096)] 5)) (by rfl) (by rfl) (fun w6 hSw => ?_) (.inr (fun v6 w6 hT6 => ?_)) (fun v6 hv6 => ?_)
     ·(go_simp; exact ⟨w6, hSw, rfl, rfl⟩)
     ·(obtain ⟨w0, h0, -, rfl⟩ := hT6; exact (h0.2.alloc _).cell 3)
     skip
     (try simp only [Act.put, pA, pB, pC])
     repeat ((first
      | (refine wpL_read (v := ?_) (by rfl) (by rfl) (fun w6 hSw => ?_) ?_; rotate_left; (· (have y0 := hSw; go_simp; try with_reducible rfl)))
      | (refine wpL_free (v := ?_) (by rfl) (fun w6 => ?_) ?_; rotate_left; (· (go_simp; try with_reducible rfl)))
      | refine wpL_not (by rfl) ?_); (try simp only [Act.put, pA, pB, pC]))
     refine wpL_heavy (fun u w' => LeadS w base v (xs ++ [224 + a / 4096]) (xs.length + 1) w1.heap.size u w') (by rfl) (by rfl) (fun w6 hSw => ?_) (.inr (fun v6 w6 hT6 => ?_)) (fun v6 hv6 => ?_)
     ·(obtain ⟨w0, h0, rfl, rfl⟩ := hSw; exact hrun_append_own 22 rfl base 5 ib (.int .u8 0) 1 1 Tryz.underlying22 hib hb0 hb1 hb2 rfl (by decide) v xs.length _ rfl (h0.1.own.alloc _) ⟨w0.heap.size, 0, none⟩ 1 1 [.int .u8 (224 + a / 4096)] rfl rfl (cell_one_new _ _ _) (by simp [Value.oneCell']) (by unfold maxLen; omega) (by omega) (by have := h0.1.fr.size; simp; omega) (fun v' w' ho' hg' _ hat' => h0.step (b := 224 + a / 4096) ho' hg' hat' (by simp) (by simp)))
     ·(exact hT6.2.cell 3)
     skip
     (try simp only [Act.put, pA, pB, pC])
     repeat ((first
      | (refine wpL_read (v := ?_) (by rfl) (by rfl) (fun w6 hSw => ?_) ?_; rotate_left; (· (have y0 := hSw; go_simp; try with_reducible rfl)))
      | (refine wpL_free (v := ?_) (by rfl) (fun w6 => ?_) ?_; rotate_left; (· (go_simp; try with_reducible rfl)))
      | refine wpL_not (by rfl) ?_); (try simp only [Act.put, pA, pB, pC]))
     refine wpL_nil ?_
     rintro w2 ⟨hS2, -⟩
     obtain ⟨v1, hv1⟩ : ∃ x, x = v6 := ⟨_, rfl⟩
     subst hv1
     have hsz2 := hS2.fr.size
     clear hLd
     go_wp2_with fail
     refine wp_loop_rounds 3 ?_
     rw [rounds_succ]
     go_wp2_with (at_builtin; refine wpList_append_own_at _ rfl (.tmp 48) (.tmp 56) 22 rfl base 5 ib (.int .u8 0) 1 1 Tryz.underlying22 hib hb0 hb1 hb2 rfl (by decide) v1 (xs.length + 1) _ rfl (hS2.own.alloc _) ⟨w2.heap.size, 0, none⟩ 1 1 [.int .u8 (128 + a / 64 % 64)] rfl rfl (cell_one_new _ _ _) (by simp [Value.oneCell']) (by unfold maxLen; omega) (by omega) (by simp; omega) ?_)
     intro v2 w3 hown1 hgr _ hat
     have hS3 := hS2.step (b := 128 + a / 64 % 64) hown1 hgr hat (by simp) (by simp)
     have hsz3 := hS3.fr.size
     clear hown1 hgr hat hS2
     go_wp2_with fail
     rw [rounds_succ]
     go_wp2_with (at_builtin; refine wpList_append_own_at _ rfl (.tmp 48) (.tmp 56) 22 rfl base 5 ib (.int .u8 0) 1 1 Tryz.underlying22 hib hb0 hb1 hb2 rfl (by decide) v2 (xs.length + 1 + 1) _ rfl (hS3.own.alloc _) ⟨w3.heap.size, 0, none⟩ 1 1 [.int .u8 (128 + a % 64)] rfl rfl (cell_one_new _ _ _) (by simp [Value.oneCell']) (by unfold maxLen; omega) (by omega) (by simp; omega) ?_)
     intro v3 w4 hown1 hgr _ hat
     have hS4 := hS3.step (b := 128 + a % 64) hown1 hgr hat (by simp) (by simp)
     have hsz4 := hS4.fr.size
     clear hown1 hgr hat hS3
     go_wp2_with fail
     rw [rounds_succ]
     have HP := Lib.hid (hS4)
     clear hS4
     go_wp2_with fail
     go_ret
     refine AppS.out (n := xs.length + 1 + 1 + 1) (bs := [224 + a / 4096, 128 + a / 64 % 64, 128 + a % 64]) ?_ rfl
     have := HP.out
     simp only [List.append_assoc, List.cons_append, List.nil_append] at this ⊢
     exact this
    ·skip
     have hz : sz8 a = 4 := by
      unfold sz8 at ha ⊢
      split at ha
      ·omega
      ·rename_i h
       rw [if_neg h, if_neg h2, if_neg h3, if_neg h4]
     have hp : put8 a = [240 + a / 262144, 128 + a / 4096 % 64, 128 + a / 64 % 64, 128 + a % 64] := by unfold put8; rw [if_neg h1, if_neg h2, if_neg h3, if_neg h4]
     rw [hp]
     rw [hz] at ksz
     have e1 : IntKind.u8.wrap (a / 262144) = a / 262144 := by rw [wrap_u8]; omega
     have e2 : bits .or .u8 240 (a / 262144) = 240 + a / 262144 := u8_or240 _ (by omega) (by omega)
     have e9 : IntKind.u8.wrap (a / 4096) = a / 4096 % 256 := wrap_u8 _
     have e10 : bits .and .u8 (a / 4096 % 256) 63 = a / 4096 % 64 := by rw [u8_and63 _ (by omega) (by omega)]; omega
     have e11 : bits .or .u8 128 (a / 4096 % 64) = 128 + a / 4096 % 64 := u8_or128 _ (by omega) (by omega)
     have e6 : IntKind.u8.wrap (a / 64) = a / 64 % 256 := wrap_u8 _
     have e7 : bits .and .u8 (a / 64 % 256) 63 = a / 64 % 64 := by rw [u8_and63 _ (by omega) (by omega)]; omega
     have e8 : bits .or .u8 128 (a / 64 % 64) = 128 + a / 64 % 64 := u8_or128 _ (by omega) (by omega)
     have e3 : IntKind.u8.wrap a = a % 256 := wrap_u8 a
     have e4 : bits .and .u8 (a % 256) 63 = a % 64 := by rw [u8_and63 _ (by omega) (by omega)]; omega
     have e5 : bits .or .u8 128 (a % 64) = 128 + a % 64 := u8_or128 _ (by omega) (by omega)
     have q1 : (a < 0) = False := by simp; omega
     have KS := Lib.hid ksz
     clear hp ksz hz ha hr h1 h2
     go_enter Tryz.func179, Tryz.ntmps179
     go_wp2_with fail
     refine (KS.out).mono ?_
     rintro e w1 ⟨rfl, hb1'⟩
     have hS1 := (HS.out.below hb1').below (balloc (Below.refl _ w1) (o := .cells #[.int .u8 0, .int .u8 0, .int .u8 192, .int .u8 224, .int .u8 240] 257))
     have hsz1 := hS1.fr.size
     clear hb1'
     go_wp2_with fail
     have hLd : LeadS w base v xs xs.length w1.heap.size v (w1.alloc (.cells #[.int .u8 0, .int .u8 0, .int .u8 192, .int .u8 224, .int .u8 240] 257)) := ⟨hS1, Blk.new w1 _ _⟩
     obtain ⟨W1, hW1⟩ : ∃ W1, w1.alloc (.cells #[.int .u8 0, .int .u8 0, .int .u8 192, .int .u8 224, .int .u8 240] 257) = W1 := ⟨_, rfl⟩
     rw [hW1] at hsz1 hLd ⊢
     clear hW1 HS hS1
     have kwa : IntKind.i64.wrap 3 = 3 := by decide
     have kwb : IntKind.i64.wrap (6 * 3) = 18 := by decide
     have kwc : IntKind.i64.wrap 18 = 18 := by decide
     refine wp_region_lin (fun w' => w'.cell? ⟨w1.heap.size, 4, none⟩ = some (.int .u8 240)) (LeadS w base v xs xs.length w1.heap.size v) (fun k => k == 11 || k == 12) (fun _ => false) (fun _ => false) (by kernel_rfl) (by kernel_rfl) (hLd.drew) (fun _ h => h.2.cell 4) ?_
     repeat ((first
      | (refine wpL_read (v := ?_) (by rfl) (by rfl) (fun w6 hSw => ?_) ?_; rotate_left; (· (have y0 := hSw; go_simp; try with_reducible rfl)))
      | (refine wpL_free (v := ?_) (by rfl) (fun w6 => ?_) ?_; rotate_left; (· (go_simp; try with_reducible rfl)))
      | refine wpL_not (by rfl) ?_); (try simp only [Act.put, pA, pB, pC]))
     refine wpL_heavy (fun u w' => ∃ w0, LeadS w base v xs xs.length w1.heap.size v w0 /\ u = .slice (some ⟨w0.heap.size, 0, none⟩) 1 1 /\ w' = w0.alloc (.cells #[.int .u8 (240 + a / 262144)] 5)) (by rfl) (by rfl) (fun w6 hSw => ?_) (.inr (fun v6 w6 hT6 => ?_)) (fun v6 hv6 => ?_)
     ·(go_simp; exact ⟨w6, hSw, rfl, rfl⟩)
     ·(obtain ⟨w0, h0, -, rfl⟩ := hT6; exact (h0.2.alloc _).cell 4)
     skip
     (try simp only [Act.put, pA, pB, pC])
     repeat ((first
      | (refine wpL_read (v := ?_) (by rfl) (by rfl) (fun w6 hSw => ?_) ?_; rotate_left; (· (have y0 := hSw; go_simp; try with_reducible rfl)))
      | (refine wpL_free (v := ?_) (by rfl) (fun w6 => ?_) ?_; rotate_left; (· (go_simp; try with_reducible rfl)))
      | refine wpL_not (by rfl) ?_); (try simp only [Act.put, pA, pB, pC]))
     refine wpL_heavy (fun u w' => LeadS w base v (xs ++ [240 + a / 262144]) (xs.length + 1) w1.heap.size u w') (by rfl) (by rfl) (fun w6 hSw => ?_) (.inr (fun v6 w6 hT6 => ?_)) (fun v6 hv6 => ?_)
     ·(obtain ⟨w0, h0, rfl, rfl⟩ := hSw; exact hrun_append_own 22 rfl base 5 ib (.int .u8 0) 1 1 Tryz.underlying22 hib hb0 hb1 hb2 rfl (by decide) v xs.length _ rfl (h0.1.own.alloc _) ⟨w0.heap.size, 0, none⟩ 1 1 [.int .u8 (240 + a / 262144)] rfl rfl (cell_one_new _ _ _) (by simp [Value.oneCell']) (by unfold maxLen; omega) (by omega) (by have := h0.1.fr.size; simp; omega) (fun v' w' ho' hg' _ hat' => h0.step (b := 240 + a / 262144) ho' hg' hat' (by simp) (by simp)))
     ·(exact hT6.2.cell 4)
     skip
     (try simp only [Act.put, pA, pB, pC])
     repeat ((first
      | (refine wpL_read (v := ?_) (by rfl) (by rfl) (fun w6 hSw => ?_) ?_; rotate_left; (· (have y0 := hSw; go_simp; try with_reducible rfl)))
      | (refine wpL_free (v := ?_) (by rfl) (fun w6 => ?_) ?_; rotate_left; (· (go_simp; try with_reducible rfl)))
      | refine wpL_not (by rfl) ?_); (try simp only [Act.put, pA, pB, pC]))
     refine wpL_nil ?_
     rintro w2 ⟨hS2, -⟩
     obtain ⟨v1, hv1⟩ : ∃ x, x = v6 := ⟨_, rfl⟩
     subst hv1
     have hsz2 := hS2.fr.size
     clear hLd
     go_wp2_with fail
     refine wp_loop_rounds 4 ?_
     rw [rounds_succ]
     go_wp2_with (at_builtin; refine wpList_append_own_at _ rfl (.tmp 48) (.tmp 56) 22 rfl base 5 ib (.int .u8 0) 1 1 Tryz.underlying22 hib hb0 hb1 hb2 rfl (by decide) v1 (xs.length + 1) _ rfl (hS2.own.alloc _) ⟨w2.heap.size, 0, none⟩ 1 1 [.int .u8 (128 + a / 4096 % 64)] rfl rfl (cell_one_new _ _ _) (by simp [Value.oneCell']) (by unfold maxLen; omega) (by omega) (by simp; omega) ?_)
     intro v2 w3 hown1 hgr _ hat
     have hS3 := hS2.step (b := 128 + a / 4096 % 64) hown1 hgr hat (by simp) (by simp)
     have hsz3 := hS3.fr.size
     clear hown1 hgr hat hS2
     go_wp2_with fail
     rw [rounds_succ]
     go_wp2_with (at_builtin; refine wpList_append_own_at _ rfl (.tmp 48) (.tmp 56) 22 rfl base 5 ib (.int .u8 0) 1 1 Tryz.underlying22 hib hb0 hb1 hb2 rfl (by decide) v2 (xs.length + 1 + 1) _ rfl (hS3.own.alloc _) ⟨w3.heap.size, 0, none⟩ 1 1 [.int .u8 (128 + a / 64 % 64)] rfl rfl (cell_one_new _ _ _) (by simp [Value.oneCell']) (by unfold maxLen; omega) (by omega) (by simp; omega) ?_)
     intro v3 w4 hown1 hgr _ hat
     have hS4 := hS3.step (b := 128 + a / 64 % 64) hown1 hgr hat (by simp) (by simp)
     have hsz4 := hS4.fr.size
     clear hown1 hgr hat hS3
     go_wp2_with fail
     rw [rounds_succ]
     go_wp2_with (at_builtin; refine wpList_append_own_at _ rfl (.tmp 48) (.tmp 56) 22 rfl base 5 ib (.int .u8 0) 1 1 Tryz.underlying22 hib hb0 hb1 hb2 rfl (by decide) v3 (xs.length + 1 + 1 + 1) _ rfl (hS4.own.alloc _) ⟨w4.heap.size, 0, none⟩ 1 1 [.int .u8 (128 + a % 64)] rfl rfl (cell_one_new _ _ _) (by simp [Value.oneCell']) (by unfold maxLen; omega) (by omega) (by simp; omega) ?_)
     intro v4 w5 hown1 hgr _ hat
     have hS5 := hS4.step (b := 128 + a % 64) hown1 hgr hat (by simp) (by simp)
     have hsz5 := hS5.fr.size
     clear hown1 hgr hat hS4
     go_wp2_with fail
     rw [rounds_succ]
     have HP := Lib.hid (hS5)
     clear hS5
     go_wp2_with fail
     go_ret
     refine AppS.out (n := xs.length + 1 + 1 + 1 + 1) (bs := [240 + a / 262144, 128 + a / 4096 % 64, 128 + a / 64 % 64, 128 + a % 64]) ?_ rfl
     have := HP.out
     simp only [List.append_assoc, List.cons_append, List.nil_append] at this ⊢
     exact this
theorem nas_eight (w : World) : (nilAhead 373 126 (.agg #[]) "copyist/codec.size").run Tryz.prog w = .ok (some false) w := by kernel_rfl
theorem nas_sixteen (o : Int) (w : World) : (nilAhead 373 179 (.agg #[.int .i64 o]) "copyist/codec.size").run Tryz.prog w = .ok (some false) w := by kernel_rfl
theorem nas_latin (w : World) : (nilAhead 373 180 (.agg #[]) "copyist/codec.size").run Tryz.prog w = .ok (some false) w := by kernel_rfl
theorem mes_eight (w : World) : (method 373 126 (.agg #[]) "copyist/codec.size").run Tryz.prog w = .ok (180, .agg #[]) w := by kernel_rfl
theorem mes_sixteen (o : Int) (w : World) : (method 373 179 (.agg #[.int .i64 o]) "copyist/codec.size").run Tryz.prog w = .ok (200, .agg #[.int .i64 o]) w := by kernel_rfl
theorem mes_latin (w : World) : (method 373 180 (.agg #[]) "copyist/codec.size").run Tryz.prog w = .ok (209, .agg #[]) w := by kernel_rfl
theorem nap_eight (w : World) : (nilAhead 373 126 (.agg #[]) "copyist/codec.put").run Tryz.prog w = .ok (some false) w := by kernel_rfl
theorem nap_sixteen (o : Int) (w : World) : (nilAhead 373 179 (.agg #[.int .i64 o]) "copyist/codec.put").run Tryz.prog w = .ok (some false) w := by kernel_rfl
theorem nap_latin (w : World) : (nilAhead 373 180 (.agg #[]) "copyist/codec.put").run Tryz.prog w = .ok (some false) w := by kernel_rfl
theorem mep_eight (w : World) : (method 373 126 (.agg #[]) "copyist/codec.put").run Tryz.prog w = .ok (179, .agg #[]) w := by kernel_rfl
theorem mep_sixteen (o : Int) (w : World) : (method 373 179 (.agg #[.int .i64 o]) "copyist/codec.put").run Tryz.prog w = .ok (199, .agg #[.int .i64 o]) w := by kernel_rfl
theorem mep_latin (w : World) : (method 373 180 (.agg #[]) "copyist/codec.put").run Tryz.prog w = .ok (208, .agg #[]) w := by kernel_rfl
theorem csize_any (enc a : Int) (w : World) (he : enc = 1 \/ enc = 2 \/ enc = 3 \/ enc = 4) : Calls Tryz.prog 62 #[.int .i64 enc, .int .i64 a] w fun e w' => e = .returned (.int .i64 (szA enc a)) /\ Below w.heap.size w w' := by
 rcases he with rfl | rfl | rfl | rfl
 ·go_enter Tryz.func62, Tryz.ntmps62
  go_wp2_with fail
  refine (of_any _ _ (by omega)).mono ?_
  rintro e w1 ⟨rfl, rfl⟩
  simp only [coderV, if_true, Int.reduceEq, if_false]
  have f1 := nas_eight
  have f2 := mes_eight
  go_wp2_with fail
  refine (sz8_any a _).mono ?_
  rintro e w3 ⟨rfl, hb3⟩
  go_wp2_with fail
  go_ret
  exact ⟨rfl, hb3⟩
 ·go_enter Tryz.func62, Tryz.ntmps62
  go_wp2_with fail
  refine (of_any _ _ (by omega)).mono ?_
  rintro e w1 ⟨rfl, rfl⟩
  simp only [coderV, if_true, Int.reduceEq, if_false]
  have f1 := nas_sixteen 0
  have f2 := mes_sixteen 0
  go_wp2_with fail
  refine (sz16_any 0 a _).mono ?_
  rintro e w3 ⟨rfl, hb3⟩
  go_wp2_with fail
  go_ret
  exact ⟨rfl, hb3⟩
 ·go_enter Tryz.func62, Tryz.ntmps62
  go_wp2_with fail
  refine (of_any _ _ (by omega)).mono ?_
  rintro e w1 ⟨rfl, rfl⟩
  simp only [coderV, if_true, Int.reduceEq, if_false]
  have f1 := nas_sixteen 1
  have f2 := mes_sixteen 1
  go_wp2_with fail
  refine (sz16_any 1 a _).mono ?_
  rintro e w3 ⟨rfl, hb3⟩
  go_wp2_with fail
  go_ret
  exact ⟨rfl, hb3⟩
 ·go_enter Tryz.func62, Tryz.ntmps62
  go_wp2_with fail
  refine (of_any _ _ (by omega)).mono ?_
  rintro e w1 ⟨rfl, rfl⟩
  simp only [coderV, if_true, Int.reduceEq, if_false]
  have f1 := nas_latin
  have f2 := mes_latin
  go_wp2_with fail
  refine (szL_any a _).mono ?_
  rintro e w3 ⟨rfl, hb3⟩
  go_wp2_with fail
  go_ret
  exact ⟨rfl, hb3⟩
def Enc1Post (enc a : Int) (w : World) (e : Ending) (w' : World) : Prop :=
 ∃ v, e = .returned (.tuple #[v, .int .i64 0, .int .i64 0]) /\ w'.ownsRow w.heap.size 5 1 v (putA enc a).length ((putA enc a).map (Value.int .u8)) /\ Below w.heap.size w w'
theorem encode1_any (enc a : Int) (D : Nat -> Prop) (A : Option Addr) (c : Nat) (w : World) (he : enc = 1 \/ enc = 2 \/ enc = 3 \/ enc = 4) (hl : Ints w D A 1 [a]) (ha : 0 < szA enc a) :
  Calls Tryz.prog 89 #[.int .i64 enc, .slice A 1 c] w fun e w' => Enc1Post enc a w e w' := by
 obtain ⟨ad, rfl, hD, c0⟩ := hl.at_ (show 0 < 1 by omega)
 rw [add_zero] at c0
 simp at c0
 rcases he with rfl | rfl | rfl | rfl
 ·have hz0 : 0 < sz8 a := ha
  have q0 : (sz8 a == 0) = false := by rw [beq_eq_false_iff_ne]; omega
  have ks := fun (w' : World) => sz8_any a w'
  have hpost : putA 1 a = putA 1 a := rfl
  obtain ⟨z, hz⟩ : ∃ z, sz8 a = z := ⟨_, rfl⟩
  rw [hz] at ks q0
  have KS := Lib.hid ks
  clear ks ha hz
  go_enter Tryz.func89, Tryz.ntmps89
  go_wp2_with fail
  refine (of_any _ _ (by omega)).mono ?_
  rintro e w1 ⟨rfl, rfl⟩
  simp only [coderV, if_true, Int.reduceEq, if_false]
  have f1 := nas_eight
  have f2 := mes_eight
  have f3 := nap_eight
  have f4 := mep_eight
  go_wp2_with fail
  refine wp_loop_rounds 2 ?_
  rw [rounds_succ]
  go_wp2_with fail
  refine (KS.out _).mono ?_
  rintro e w3 ⟨rfl, hb3⟩
  have c3 := cell_keep hb3 c0
  go_wp2_with fail
  refine (put8_any w.heap.size (.slice none 0 0) [] a w3 (World.ownsRow_nil _ _ _ _) hb3.size (by simp) hz0).mono ?_
  rintro e w4 ⟨v, rfl, h1, h2, h3⟩
  have hb4 : Below w.heap.size w w4 := bseq hb3 (h2.below (fun k _ hk => by simp [OwnB, Value.ownBlock] at hk))
  have HO := Lib.hid h1
  clear c0 c3 h1 h2 h3
  go_wp2_with fail
  rw [rounds_succ]
  go_wp2_with fail
  go_ret3
  refine ⟨v, rfl, ?_, hb4⟩
  have := HO.out
  simp only [List.length_nil, Nat.zero_add, List.nil_append] at this
  exact this
 ·have hz0 : 0 < sz16 a := ha
  have q0 : (sz16 a == 0) = false := by rw [beq_eq_false_iff_ne]; omega
  have ks := fun (w' : World) => sz16_any 0 a w'
  have hpost : putA 2 a = putA 2 a := rfl
  obtain ⟨z, hz⟩ : ∃ z, sz16 a = z := ⟨_, rfl⟩
  rw [hz] at ks q0
  have KS := Lib.hid ks
  clear ks ha hz
  go_enter Tryz.func89, Tryz.ntmps89
  go_wp2_with fail
  refine (of_any _ _ (by omega)).mono ?_
  rintro e w1 ⟨rfl, rfl⟩
  simp only [coderV, if_true, Int.reduceEq, if_false]
  have f1 := nas_sixteen 0
  have f2 := mes_sixteen 0
  have f3 := nap_sixteen 0
  have f4 := mep_sixteen 0
  go_wp2_with fail
  refine wp_loop_rounds 2 ?_
  rw [rounds_succ]
  go_wp2_with fail
  refine (KS.out _).mono ?_
  rintro e w3 ⟨rfl, hb3⟩
  have c3 := cell_keep hb3 c0
  go_wp2_with fail
  refine (put16_any w.heap.size 0 (.slice none 0 0) [] a w3 (.inl rfl) (World.ownsRow_nil _ _ _ _) hb3.size (by simp) hz0).mono ?_
  rintro e w4 ⟨v, rfl, h1, h2, h3⟩
  have hb4 : Below w.heap.size w w4 := bseq hb3 (h2.below (fun k _ hk => by simp [OwnB, Value.ownBlock] at hk))
  have HO := Lib.hid h1
  clear c0 c3 h1 h2 h3
  go_wp2_with fail
  rw [rounds_succ]
  go_wp2_with fail
  go_ret3
  refine ⟨v, rfl, ?_, hb4⟩
  have := HO.out
  simp only [List.length_nil, Nat.zero_add, List.nil_append] at this
  exact this
 ·have hz0 : 0 < sz16 a := ha
  have q0 : (sz16 a == 0) = false := by rw [beq_eq_false_iff_ne]; omega
  have ks := fun (w' : World) => sz16_any 1 a w'
  have hpost : putA 3 a = putA 3 a := rfl
  obtain ⟨z, hz⟩ : ∃ z, sz16 a = z := ⟨_, rfl⟩
  rw [hz] at ks q0
  have KS := Lib.hid ks
  clear ks ha hz
  go_enter Tryz.func89, Tryz.ntmps89
  go_wp2_with fail
  refine (of_any _ _ (by omega)).mono ?_
  rintro e w1 ⟨rfl, rfl⟩
  simp only [coderV, if_true, Int.reduceEq, if_false]
  have f1 := nas_sixteen 1
  have f2 := mes_sixteen 1
  have f3 := nap_sixteen 1
  have f4 := mep_sixteen 1
  go_wp2_with fail
  refine wp_loop_rounds 2 ?_
  rw [rounds_succ]
  go_wp2_with fail
  refine (KS.out _).mono ?_
  rintro e w3 ⟨rfl, hb3⟩
  have c3 := cell_keep hb3 c0
  go_wp2_with fail
  refine (put16_any w.heap.size 1 (.slice none 0 0) [] a w3 (.inr rfl) (World.ownsRow_nil _ _ _ _) hb3.size (by simp) hz0).mono ?_
  rintro e w4 ⟨v, rfl, h1, h2, h3⟩
  have hb4 : Below w.heap.size w w4 := bseq hb3 (h2.below (fun k _ hk => by simp [OwnB, Value.ownBlock] at hk))
  have HO := Lib.hid h1
  clear c0 c3 h1 h2 h3
  go_wp2_with fail
  rw [rounds_succ]
  go_wp2_with fail
  go_ret3
  refine ⟨v, rfl, ?_, hb4⟩
  have := HO.out
  simp only [List.length_nil, Nat.zero_add, List.nil_append] at this
  exact this
 ·have hz0 : 0 < szL a := ha
  have q0 : (szL a == 0) = false := by rw [beq_eq_false_iff_ne]; omega
  have ks := fun (w' : World) => szL_any a w'
  have hpost : putA 4 a = putA 4 a := rfl
  obtain ⟨z, hz⟩ : ∃ z, szL a = z := ⟨_, rfl⟩
  rw [hz] at ks q0
  have KS := Lib.hid ks
  clear ks ha hz
  go_enter Tryz.func89, Tryz.ntmps89
  go_wp2_with fail
  refine (of_any _ _ (by omega)).mono ?_
  rintro e w1 ⟨rfl, rfl⟩
  simp only [coderV, if_true, Int.reduceEq, if_false]
  have f1 := nas_latin
  have f2 := mes_latin
  have f3 := nap_latin
  have f4 := mep_latin
  go_wp2_with fail
  refine wp_loop_rounds 2 ?_
  rw [rounds_succ]
  go_wp2_with fail
  refine (KS.out _).mono ?_
  rintro e w3 ⟨rfl, hb3⟩
  have c3 := cell_keep hb3 c0
  go_wp2_with fail
  refine (putL_any w.heap.size (.slice none 0 0) [] a w3 (World.ownsRow_nil _ _ _ _) hb3.size (by simp) hz0).mono ?_
  rintro e w4 ⟨v, rfl, h1, h2, h3⟩
  have hb4 : Below w.heap.size w w4 := bseq hb3 (h2.below (fun k _ hk => by simp [OwnB, Value.ownBlock] at hk))
  have HO := Lib.hid h1
  clear c0 c3 h1 h2 h3
  go_wp2_with fail
  rw [rounds_succ]
  go_wp2_with fail
  go_ret3
  refine ⟨v, rfl, ?_, hb4⟩
  have := HO.out
  simp only [List.length_nil, Nat.zero_add, List.nil_append] at this
  exact this
end Go.Proofs.YtflhiohjikgedaaGreatDoor
