/-
  Package register: store (not appending), keep. Package register: keep, Yank. Package register: Get; slices.Contains. slices.Contains; package register: Delete.
-/
import Derived.Test.YtgiihhikdoikgaaGreatLReg4
set_option linter.unusedSimpArgs false
set_option linter.unusedVariables false
set_option maxRecDepth 100000
set_option maxHeartbeats 32000000
namespace Go.Proofs.YtgiihhikdoikgaaGreat
open Go.RowKit
theorem RegAt.val {w : World} {o : Option Value} {r : Option (Int × List Int)} (h : RegAt w o r) : ∃ kd A n c, o.getD (.agg #[.int .i64 0, .slice none 0 0]) = .agg #[.int .i64 kd, .slice A n c] := by
 cases r with
 | none =>
  have : o = none := h
  subst this
  exact ⟨0, none, 0, 0, rfl⟩
 | some p =>
  obtain ⟨A, n, c, rfl, _⟩ := h
  exact ⟨p.1, A, n, c, rfl⟩
theorem hrun_delete {P : Program} {T : Value -> World -> Prop} {o : Oper} {a : Act} {s x : Operand} {t t2 : TypeId} {v k : Value} {w w' : World}
  (ho : o.op = .call { callee := .builtin .delete, args := #[s, x], argTypes := #[t, t2] }) (hs : a.eval s = v) (hx : a.eval x = k) (hr : (Builtin.delete_ #[t, t2] o.type #[v, k]).run P w = .ok (.tuple #[]) w') (hT : T (.tuple #[]) w') : HRun P T ((execOp a.eval o).run P w) := by
 unfold execOp
 simp only [ho, resolve, invoke, builtin, Sem.run_bind, Sem.run_pure, Result.andThen_ok, List.map_toArray, List.map_cons, List.map_nil, hs, hx, hr]
 exact hT
theorem mk_no_blk {w : World} {B gk mk : Nat} {R : Int -> Option (Int × List Int)} {tu : Int} (h : BankIs w B gk mk R tu) : mk < w.heap.size /\ ∀ T cs, ¬ Blk w mk T cs := by
 obtain ⟨l, h1, _⟩ := h.map
 exact ⟨h1.lt, fun T cs hb => h1.ne_blk hb rfl⟩
theorem store_any (B gk mk : Nat) (R : Int -> Option (Int × List Int)) (tu k kd : Int) (A : Option Addr) (n c : Nat) (xs : List Int) (w : World) (h : BankIs w B gk mk R tu) (hx : IntsI w A n xs) (hc : n <= c) (hn : n <= 140000) :
  Calls Tryz.prog 123 #[.pointer (some ⟨gk, 0, none⟩), .agg #[.int .i64 k, .bool false], .agg #[.int .i64 kd, .slice A n c]] w fun e w' => e = .returned (.int .i64 0) /\ BankIs w' B gk mk (putR R k kd xs) tu /\ Fr (· = mk) w w' := by
 have hb0 : Below w.heap.size w ((w.alloc (.cells #[.int .i64 k, .bool false] 120)).alloc (.cells #[.int .i64 kd, .slice A n c] 66)) := balloc (balloc (Below.refl _ _))
 have k1 : Blk ((w.alloc (.cells #[.int .i64 k, .bool false] 120)).alloc (.cells #[.int .i64 kd, .slice A n c] 66)) w.heap.size 120 #[.int .i64 k, .bool false] := (Blk.new w _ _).alloc _
 have k2 : Blk ((w.alloc (.cells #[.int .i64 k, .bool false] 120)).alloc (.cells #[.int .i64 kd, .slice A n c] 66)) (w.heap.size + 1) 66 #[.int .i64 kd, .slice A n c] := Blk.new' (by simp)
 obtain ⟨l, hl1, hl2, hl3⟩ := h.map
 obtain ⟨kd0, A0, n0, c0, hv0⟩ := (hl3 k).val
 obtain ⟨ok, hok⟩ : ∃ b, (getM l k).isSome = b := ⟨_, rfl⟩
 obtain ⟨hmlt, hmnb⟩ := mk_no_blk h
 have hxl := hx.any.len
 have HL1 := Lib.hid hl1
 have HL2 := Lib.hid hl2
 have HL3 := Lib.hid hl3
 have HH := Lib.hid h
 have HX := Lib.hid hx
 have HNB := Lib.hid hmnb
 have HXL := Lib.hid hxl
 have hlk : ∀ w', Below w.heap.size w w' -> (Instr.lookup 123 (.map (some mk)) (.int .i64 k) true).run Tryz.prog w' = .ok (.tuple #[.agg #[.int .i64 kd0, .slice A0 n0 c0], .bool ok]) w' := fun w' hb => by
  have := (hl1.below hb).lookup Tryz.underlying123 Tryz.underlying3 k (regZero w')
  rw [hv0, hok] at this
  exact this
 have HLK := Lib.hid hlk
 clear h hl1 hl2 hl3 hv0 hok hlk hx hmnb hxl
 go_enter Tryz.func123, Tryz.ntmps123
 go_upto_region 1 with fail
 obtain ⟨w0, hw0⟩ : ∃ x, (w.alloc (.cells #[.int .i64 k, .bool false] 120)).alloc (.cells #[.int .i64 kd, .slice A n c] 66) = x := ⟨_, rfl⟩
 rw [hw0] at hb0 k1 k2 ⊢
 clear hw0
 have hF : ∀ w', Below w0.heap.size w0 w' -> w'.cell? ⟨gk, 0, none⟩ = some (.map (some mk)) /\ w'.cell? ⟨w.heap.size, 0, none⟩ = some (.int .i64 k) /\ w'.cell? ⟨w.heap.size, 1, none⟩ = some (.bool false) /\ w'.cell? ⟨w.heap.size + 1, 0, none⟩ = some (.int .i64 kd) /\ w'.cell? ⟨w.heap.size + 1, 1, none⟩ = some (.slice A n c) := fun w' hb =>
  ⟨(HH.out.blk.below (bseq hb0 hb)).cell 0, (k1.below hb).cell 0, (k1.below hb).cell 1, (k2.below hb).cell 0, (k2.below hb).cell 1⟩
 have HF := Lib.hid hF
 clear hF k1 k2
 refine wp_region_lin (fun w' => Below w0.heap.size w0 w') (fun w' => Below w0.heap.size w0 w') (fun k => k == 10 || k == 11) (fun k => k == 11) (fun k => k == 9 || k == 12) (by kernel_rfl) (by kernel_rfl) (Below.drew (Below.refl _ _)) (fun _ h => h) ?_
 repeat ((first
  | (refine wpL_read (v := ?_) (by rfl) (by rfl) (fun w6 hSw => ?_) ?_; rotate_left; (· (obtain ⟨y0, y1, y2, y3, y4⟩ := HF.out _ hSw; have y5 := HLK.out _ (bseq hb0 hSw); go_simp; try with_reducible rfl)))
  | (refine wpL_free (v := ?_) (by rfl) (fun w6 => ?_) ?_; rotate_left; (· (go_simp; try with_reducible rfl)))
  | refine wpL_not (by rfl) ?_); (try simp only [Act.put, pA, pB, pC]))
 refine wpL_heavy (fun u w' => ∃ wq, Below w0.heap.size w0 wq /\ u = .pointer (some ⟨wq.heap.size, 0, none⟩) /\ w' = wq.alloc (.cells #[.int .i64 0, .slice none 0 0] 66)) (by rfl) (by rfl) (fun w6 hSw => ?_) (.inr (fun v6 w6 hT6 => ?_)) (fun v6 hv6 => ?_)
 ·(go_simp; exact ⟨w6, hSw, rfl, rfl⟩)
 ·(obtain ⟨wq, hq, -, rfl⟩ := hT6; exact balloc hq)
 skip
 (try simp only [Act.put, pA, pB, pC])
 refine wpL_heavy (fun _ w' => Below w0.heap.size w0 w') (by rfl) (by rfl) (fun w6 hSw => ?_) (.inl (by rfl)) (fun v6 hv6 => ?_)
 ·(obtain ⟨wq, hq, rfl, rfl⟩ := hSw; go_simp; exact balloc hq)
 skip
 (try simp only [Act.put, pA, pB, pC])
 repeat ((first
  | (refine wpL_read (v := ?_) (by rfl) (by rfl) (fun w6 hSw => ?_) ?_; rotate_left; (· (obtain ⟨y0, y1, y2, y3, y4⟩ := HF.out _ hSw; have y5 := HLK.out _ (bseq hb0 hSw); go_simp; try with_reducible rfl)))
  | (refine wpL_free (v := ?_) (by rfl) (fun w6 => ?_) ?_; rotate_left; (· (go_simp; try with_reducible rfl)))
  | refine wpL_not (by rfl) ?_); (try simp only [Act.put, pA, pB, pC]))
 refine wpL_nil ?_
 intro w1 hb1
 obtain ⟨y0, y1, y2, y3, y4⟩ := HF.out _ hb1
 have hbw1 := bseq hb0 hb1
 have p0 : (140000 < (n : Int)) = False := by simp; omega
 have hfinP : ∀ wq w3, Below w1.heap.size w1 wq -> xs ≠ [] -> MapIs w3 mk (putM k (.agg #[.int .i64 kd, .slice A n c]) l) -> Fr (· = mk) wq w3 -> BankIs w3 B gk mk (putR R k kd xs) tu /\ Fr (· = mk) w w3 := fun wq w3 hq h0 hm hf => by
  have hbq := bseq hbw1 hq
  exact ⟨(HH.out.below hbq).put HL2.out (fun q => (HL3.out q).fr (S := fun _ => False) (Fr.of_below hbq) (fun _ _ h => h.elim)) hm hf (mk_no_blk (HH.out.below hbq)).2 (HX.out.bel hbq) hc h0 hn, (Fr.of_below hbq).call hf (fun i hi h => h)⟩
 have hfinD : ∀ wq w3, Below w1.heap.size w1 wq -> xs = [] -> MapIs w3 mk (delM k l) -> Fr (· = mk) wq w3 -> BankIs w3 B gk mk (putR R k kd xs) tu /\ Fr (· = mk) w w3 := fun wq w3 hq h0 hm hf => by
  have hbq := bseq hbw1 hq
  subst h0
  exact ⟨(HH.out.below hbq).del HL2.out (fun q => (HL3.out q).fr (S := fun _ => False) (Fr.of_below hbq) (fun _ _ h => h.elim)) hm hf (mk_no_blk (HH.out.below hbq)).2, (Fr.of_below hbq).call hf (fun i hi h => h)⟩
 have HP := Lib.hid hfinP
 have HD := Lib.hid hfinD
 clear hfinP hfinD
 rcases Nat.eq_zero_or_pos n with h0 | h0
 ·have q0 : ((n : Int) == 0) = true := by simp; exact h0
  have hx0 : xs = [] := List.eq_nil_of_length_eq_zero (by rw [HXL.out]; exact h0)
  have HX0 := Lib.hid hx0
  clear h0 hx0
  cases ok
  all_goals
   go_upto_region 9 with fail
   refine wp_region_lin (fun w' => Below w1.heap.size w1 w') (fun w' => Below w1.heap.size w1 w') (fun k => k == 6) (fun k => k == 6) (fun _ => false) (by kernel_rfl) (by kernel_rfl) (Below.drew (Below.refl _ _)) (fun _ h => h) ?_
   repeat ((first
    | (refine wpL_read (v := ?_) (by rfl) (by rfl) (fun w6 hSw => ?_) ?_; rotate_left; (· (obtain ⟨y0, y1, y2, y3, y4⟩ := HF.out _ (bseq hb1 hSw); go_simp; try with_reducible rfl)))
    | (refine wpL_free (v := ?_) (by rfl) (fun w6 => ?_) ?_; rotate_left; (· (go_simp; try with_reducible rfl)))
    | refine wpL_not (by rfl) ?_); (try simp only [Act.put, pA, pB, pC]))
   refine wpL_heavy (fun _ w' => ∃ wq, Below w1.heap.size w1 wq /\ MapIs w' mk (delM k l) /\ Fr (· = mk) wq w') (by rfl) (by rfl) (fun w6 hSw => ?_) (.inl (by rfl)) (fun v6 hv6 => ?_)
   ·(obtain ⟨w7, hr, hm, hf⟩ := MapIs.delete (P := Tryz.prog) (HL1.out.below (bseq hbw1 hSw)) Tryz.underlying123 Tryz.underlying3 k 3 0; exact hrun_delete rfl rfl rfl hr ⟨w6, hSw, hm, hf⟩)
   skip
   (try simp only [Act.put, pA, pB, pC])
   refine wpL_nil ?_
   rintro w3 ⟨wq, hq, hm, hf⟩
   have HFIN := Lib.hid (HD.out wq w3 hq HX0.out hm hf)
   clear hm hf
   go_wp2_with fail
   go_ret
   exact ⟨rfl, HFIN.out⟩
 ·have q0 : ((n : Int) == 0) = false := by rw [beq_eq_false_iff_ne]; omega
  have hx0 : xs ≠ [] := fun e => by
   have := HXL.out
   rw [e] at this
   simp at this
   omega
  have HX0 := Lib.hid hx0
  clear hx0
  cases ok
  all_goals
   go_upto_region 10 with fail
   refine wp_region_lin (fun w' => Below w1.heap.size w1 w') (fun w' => Below w1.heap.size w1 w') (fun k => k == 7) (fun k => k == 7) (fun _ => false) (by kernel_rfl) (by kernel_rfl) (Below.drew (Below.refl _ _)) (fun _ h => h) ?_
   repeat ((first
    | (refine wpL_read (v := ?_) (by rfl) (by rfl) (fun w6 hSw => ?_) ?_; rotate_left; (· (obtain ⟨y0, y1, y2, y3, y4⟩ := HF.out _ (bseq hb1 hSw); go_simp; try with_reducible rfl)))
    | (refine wpL_free (v := ?_) (by rfl) (fun w6 => ?_) ?_; rotate_left; (· (go_simp; try with_reducible rfl)))
    | refine wpL_not (by rfl) ?_); (try simp only [Act.put, pA, pB, pC]))
   refine wpL_heavy (fun _ w' => ∃ wq, Below w1.heap.size w1 wq /\ MapIs w' mk (putM k (.agg #[.int .i64 kd, .slice A n c]) l) /\ Fr (· = mk) wq w') (by rfl) (by rfl) (fun w6 hSw => ?_) (.inl (by rfl)) (fun v6 hv6 => ?_)
   ·(obtain ⟨w7, hr, hm, hf⟩ := MapIs.update (P := Tryz.prog) (HL1.out.below (bseq hbw1 hSw)) Tryz.underlying123 Tryz.underlying3 k (.agg #[.int .i64 kd, .slice A n c]); go_simp; exact ⟨w6, hSw, hm, hf⟩)
   skip
   (try simp only [Act.put, pA, pB, pC])
   refine wpL_nil ?_
   rintro w3 ⟨wq, hq, hm, hf⟩
   have HFIN := Lib.hid (HP.out wq w3 hq HX0.out hm hf)
   clear hm hf
   go_wp2_with fail
   go_ret
   exact ⟨rfl, HFIN.out⟩
theorem BankIs.setTo {w : World} {B gk mk : Nat} {R : Int -> Option (Int × List Int)} {tu : Int} (h : BankIs w B gk mk R tu) (k : Int) : BankIs (w.setCell ⟨gk, 1, none⟩ (.int .i64 k)) B gk mk R k := by
 have hF : Fr (· = gk) w (w.setCell ⟨gk, 1, none⟩ (.int .i64 k)) := (Fr.refl _ _).set1 1 _
 obtain ⟨l, h1, h2, h3⟩ := h.map
 refine ⟨(h.blk.set_ 1 (.int .i64 k)).eq_ (by simp), h.low, l, h1.fr hF (fun e => h1.ne_blk h.blk e), h2, fun q => (h3 q).fr hF (fun b _ hs ⟨cs, hc⟩ => Blk.ne_ hc h.blk (by decide) hs)⟩
theorem bkeep_any (B gk mk : Nat) (R : Int -> Option (Int × List Int)) (tu k kd : Int) (A : Option Addr) (n c : Nat) (xs : List Int) (w : World) (h : BankIs w B gk mk R tu) (hx : IntsI w A n xs) (hc : n <= c) (hn : n <= 140000) :
  Calls Tryz.prog 79 #[.pointer (some ⟨gk, 0, none⟩), .agg #[.int .i64 k, .bool false], .agg #[.int .i64 kd, .slice A n c]] w fun e w' => e = .returned (.int .i64 0) /\ BankIs w' B gk mk (putR R k kd xs) k /\ Fr (fun b => b = mk \/ b = gk) w w' := by
 have hb0 : Below w.heap.size w ((w.alloc (.cells #[.int .i64 k, .bool false] 120)).alloc (.cells #[.int .i64 kd, .slice A n c] 66)) := balloc (balloc (Below.refl _ _))
 have k1 : Blk ((w.alloc (.cells #[.int .i64 k, .bool false] 120)).alloc (.cells #[.int .i64 kd, .slice A n c] 66)) w.heap.size 120 #[.int .i64 k, .bool false] := (Blk.new w _ _).alloc _
 have k2 : Blk ((w.alloc (.cells #[.int .i64 k, .bool false] 120)).alloc (.cells #[.int .i64 kd, .slice A n c] 66)) (w.heap.size + 1) 66 #[.int .i64 kd, .slice A n c] := Blk.new' (by simp)
 have hst := store_any B gk mk R tu k kd A n c xs _ (h.below hb0) (hx.bel hb0) hc hn
 have HST := Lib.hid hst
 have hnm := (mk_no_blk (h.below hb0)).2
 clear hst h hx
 go_enter Tryz.func79, Tryz.ntmps79
 go_upto_region 1 with fail
 obtain ⟨w0, hw0⟩ : ∃ x, (w.alloc (.cells #[.int .i64 k, .bool false] 120)).alloc (.cells #[.int .i64 kd, .slice A n c] 66) = x := ⟨_, rfl⟩
 rw [hw0] at hb0 k1 k2 HST hnm ⊢
 clear hw0
 obtain ⟨⟨c0, c1⟩, -⟩ := cells2_of k1
 obtain ⟨⟨d0, d1⟩, -⟩ := cells2_of k2
 have HNM := Lib.hid hnm
 clear hnm
 go_wp2_with fail
 refine (HST.out).mono ?_
 rintro e w1 ⟨rfl, hB, hf⟩
 have k11 := k1.fr hf (fun e => HNM.out _ _ (e ▸ k1))
 clear c0 c1 d0 d1
 obtain ⟨⟨c0, c1⟩, -⟩ := cells2_of k11
 have g0 := hB.blk.cell 0
 have g1 := hB.blk.cell 1
 have g2 := hB.blk.frozen 1
 simp at g0 g1
 have hfin := hB.setTo k
 have hF : Fr (fun b => b = mk \/ b = gk) w (w1.setCell ⟨gk, 1, none⟩ (.int .i64 k)) := ((Fr.of_below hb0).call hf (fun i hi h => .inl h)).setCell (p := ⟨gk, 1, none⟩) (.inl (.inr rfl)) _
 have HFIN := Lib.hid (And.intro hfin hF)
 clear hfin hF hB hf
 go_wp2_with fail
 go_ret
 exact ⟨rfl, HFIN.out.1, HFIN.out.2⟩
def ykF (k : Int) : Int := if k = 34 then 48 else k
theorem byank_any (B gk mk : Nat) (R : Int -> Option (Int × List Int)) (tu nm k kd : Int) (A : Option Addr) (n c : Nat) (xs : List Int) (w : World) (h : BankIs w B gk mk R tu) (hx : IntsI w A n xs) (hn : n <= 139999) (hnm : findR nm = ((k, false), true)) (hk : k ≠ 46 /\ k ≠ 58 /\ k ≠ 47 /\ k ≠ 95) (hkd : kd = 0 \/ kd = 1) (h0 : 0 < n) :
  Calls Tryz.prog 29 #[.pointer (some ⟨gk, 0, none⟩), .int .i64 nm, .agg #[.int .i64 kd, .slice A n c]] w fun e w' => e = .returned (.int .i64 0) /\ BankIs w' B gk mk (putR R (ykF k) kd (wrF kd xs)) (ykF k) /\ Fr (fun b => b = mk \/ b = gk) w w' := by
 have hb0 : Below w.heap.size w (w.alloc (.cells #[.int .i64 kd, .slice A n c] 66)) := balloc (Below.refl _ _)
 have k1 : Blk (w.alloc (.cells #[.int .i64 kd, .slice A n c] 66)) w.heap.size 66 #[.int .i64 kd, .slice A n c] := Blk.new w _ _
 have hrf := fun w' => rrefuse_ok nm kd A n c w' (by rw [hnm]) (by rw [hnm]; exact ⟨hk.1, hk.2.1, hk.2.2.1⟩) hkd
 rw [hnm] at hrf
 unfold slotV at hrf
 dsimp only at hrf
 have HRF := Lib.hid hrf
 have HWR := Lib.hid (fun (w' : World) (hb : Below w.heap.size w w') => written_any kd A n c xs w' (hx.bel hb) (by omega))
 have hxl := hx.any.len
 obtain ⟨ys, hys⟩ : ∃ ys, wrF kd xs = ys := ⟨_, rfl⟩
 have hyl : 0 < ys.length /\ ys.length <= 140000 := by
  rw [<- hys]
  unfold wrF
  split
  ·rw [List.length_append]; simp; omega
  ·omega
 rw [hys] at HWR ⊢
 have HH := Lib.hid h
 have q95 : (k == 95) = false := by rw [beq_eq_false_iff_ne]; exact hk.2.2.2
 obtain ⟨M, hM⟩ : ∃ M, ys.length = M := ⟨_, rfl⟩
 have HM := Lib.hid hM
 rw [hM] at hyl
 have HKP := Lib.hid (fun (w' : World) (hb : Below w.heap.size w w') (A' : Option Addr) (c' : Nat) (hy : IntsI w' A' M ys) (hc : M <= c') => bkeep_any B gk mk R tu (ykF k) kd A' M c' ys w' (h.below hb) hy hc hyl.2)
 clear h hx hrf hys hxl hM hnm hk
 go_enter Tryz.func29, Tryz.ntmps29
 go_upto_region 1 with fail
 obtain ⟨w0, hw0⟩ : ∃ x, w.alloc (.cells #[.int .i64 kd, .slice A n c] 66) = x := ⟨_, rfl⟩
 rw [hw0] at hb0 k1 ⊢
 clear hw0
 obtain ⟨⟨c0, c1⟩, -⟩ := cells2_of k1
 go_wp2_with fail
 refine (HRF.out _).mono ?_
 rintro e w1 ⟨rfl, hb1⟩
 go_upto_region 2 with fail
 have k3 := Blk.new w1 120 #[.int .i64 k, .bool false]
 have k12 := (k1.below hb1).alloc (.cells #[.int .i64 k, .bool false] 120)
 have hb2 : Below w.heap.size w (w1.alloc (.cells #[.int .i64 k, .bool false] 120)) := balloc (bseq hb0 hb1)
 have hz7 : w.heap.size <= w1.heap.size := (bseq hb0 hb1).size
 obtain ⟨b7, hb7⟩ : ∃ x, w1.heap.size = x := ⟨_, rfl⟩
 obtain ⟨w2, hw2⟩ : ∃ x, w1.alloc (.cells #[.int .i64 k, .bool false] 120) = x := ⟨_, rfl⟩
 rw [hb7] at k3 hz7 ⊢
 rw [hw2] at k3 k12 hb2 ⊢
 clear hb7 hw2 k1 c0 c1
 obtain ⟨⟨c0, c1⟩, -⟩ := cells2_of k12
 have HW2 := Lib.hid (HWR.out w2 hb2)
 go_wp2_with fail
 refine (HW2.out).mono ?_
 rintro e w3 ⟨v, rfl, ho, hb3⟩
 rw [HM.out] at ho
 obtain ⟨A3, c3, rfl, hc3⟩ := own_slice ho
 have hI3 := IntsI.of_own ho
 go_upto_region 5 with fail
 have hb4 : Below w.heap.size w (w3.alloc (.cells #[.int .i64 kd, .slice A3 M c3] 66)) := balloc (bseq hb2 hb3)
 have k9 := Blk.new w3 66 #[.int .i64 kd, .slice A3 M c3]
 have k34 := (k3.below hb3).alloc (.cells #[.int .i64 kd, .slice A3 M c3] 66)
 have hI4 := hI3.bel (balloc (o := .cells #[.int .i64 kd, .slice A3 M c3] 66) (Below.refl _ _))
 obtain ⟨b9, hb9⟩ : ∃ x, w3.heap.size = x := ⟨_, rfl⟩
 obtain ⟨w4, hw4⟩ : ∃ x, w3.alloc (.cells #[.int .i64 kd, .slice A3 M c3] 66) = x := ⟨_, rfl⟩
 rw [hb9] at k9 ⊢
 rw [hw4] at hb4 k9 k34 hI4 ⊢
 clear hb9 hw4 hI3 ho c0 c1 k3 k12
 obtain ⟨⟨c0, c1⟩, f0, f1⟩ := cells2_of k34
 obtain ⟨⟨d0, d1⟩, -⟩ := cells2_of k9
 have qM : ((M : Int) == 0) = false := by rw [beq_eq_false_iff_ne]; omega
 by_cases h34 : k = 34
 ·subst h34
  have hF5 : Fr (· = b7) w4 (w4.setCell ⟨b7, 0, none⟩ (.int .i64 48)) := (Fr.refl _ _).set1 0 _
  have k35 := (k34.set_ 0 (.int .i64 48)).eq_ (show _ = #[.int .i64 48, .bool false] by simp)
  have k95 := k9.fr hF5 (fun e => Blk.ne_ k9 k34 (by decide) e)
  have hI5 := hI4.fr hF5 (fun b _ hs ⟨cs, hc⟩ => Blk.ne_ hc k34 (by decide) hs)
  have hb5 : Below w.heap.size w (w4.setCell ⟨b7, 0, none⟩ (.int .i64 48)) := bfr hb4 hF5 (fun i h => by omega)
  obtain ⟨⟨e0, e1⟩, -⟩ := cells2_of k35
  obtain ⟨⟨g0, g1⟩, -⟩ := cells2_of k95
  have HKX := Lib.hid (HKP.out _ hb5 A3 c3 hI5 hc3)
  have HB5 := Lib.hid hb5
  clear hF5 k35 k95 hI5 hb5 hI4 k34 k9
  go_upto_region 9 with fail
  obtain ⟨w5, hw5⟩ : ∃ x, w4.setCell ⟨b7, 0, none⟩ (.int .i64 48) = x := ⟨_, rfl⟩
  rw [hw5] at e0 e1 g0 g1 HKX HB5 ⊢
  clear hw5 c0 c1 f0 f1 d0 d1
  go_wp2_with fail
  refine (HKX.out).mono ?_
  rintro e w6 ⟨rfl, hB, hf⟩
  have HFIN := Lib.hid (And.intro hB ((Fr.of_below HB5.out).call hf (fun i hi h => h)))
  clear hB hf
  go_wp2_with fail
  go_ret
  exact ⟨rfl, HFIN.out.1, HFIN.out.2⟩
 ·have q34 : (k == 34) = false := by rw [beq_eq_false_iff_ne]; exact h34
  have hyk : ykF k = k := by unfold ykF; rw [if_neg h34]
  rw [hyk] at HKP
  have HKX := Lib.hid (HKP.out _ hb4 A3 c3 hI4 hc3)
  have HYK := Lib.hid hyk
  clear hI4 k34 k9 hyk
  go_wp2_with fail
  refine (HKX.out).mono ?_
  rintro e w6 ⟨rfl, hB, hf⟩
  have HFIN := Lib.hid (And.intro hB ((Fr.of_below hb4).call hf (fun i hi h => h)))
  clear hB hf
  go_wp2_with fail
  go_ret
  rw [HYK.out]
  exact ⟨rfl, HFIN.out.1, HFIN.out.2⟩
def gkF (k tu : Int) : Int := if k = 34 then tu else k
def GetPost (r : Option (Int × List Int)) (w : World) (e : Ending) (w' : World) : Prop :=
 match r with
 | none => e = .returned (.tuple #[.agg #[.int .i64 0, .slice none 0 0], .int .i64 112]) /\ Below w.heap.size w w'
 | some p => ∃ v, e = .returned (.tuple #[.agg #[.int .i64 p.1, v], .int .i64 0]) /\ w'.ownsRow w.heap.size 3 1 v p.2.length (p.2.map (Value.int .i64)) /\ Below w.heap.size w w'
theorem bget_any (B gk mk : Nat) (R : Int -> Option (Int × List Int)) (tu nm k : Int) (F : Bool) (w : World) (h : BankIs w B gk mk R tu) (hnm : findR nm = ((k, F), true)) :
  Calls Tryz.prog 23 #[.pointer (some ⟨gk, 0, none⟩), .int .i64 nm] w (GetPost (R (gkF k tu)) w) := by
 have hb0 : Below w.heap.size w (w.alloc (.cells #[.int .i64 0, .slice none 0 0] 66)) := balloc (Below.refl _ _)
 have k4 : Blk (w.alloc (.cells #[.int .i64 0, .slice none 0 0] 66)) w.heap.size 66 #[.int .i64 0, .slice none 0 0] := Blk.new w _ _
 have hfi := fun w' => rfind_any nm w'
 rw [hnm] at hfi
 unfold slotV at hfi
 dsimp only at hfi
 have HFI := Lib.hid hfi
 obtain ⟨K, hK⟩ : ∃ K, gkF k tu = K := ⟨_, rfl⟩
 rw [hK]
 obtain ⟨l, hl1, hl2, hl3⟩ := h.map
 have hat := hl3 K
 obtain ⟨kd0, A0, n0, c0, hv0⟩ := hat.val
 obtain ⟨ok, hok⟩ : ∃ b, (getM l K).isSome = b := ⟨_, rfl⟩
 have hlk : ∀ w', Below w.heap.size w w' -> (Instr.lookup 123 (.map (some mk)) (.int .i64 K) true).run Tryz.prog w' = .ok (.tuple #[.agg #[.int .i64 kd0, .slice A0 n0 c0], .bool ok]) w' := fun w' hb => by
  have := (hl1.below hb).lookup Tryz.underlying123 Tryz.underlying3 K (regZero w')
  rw [hv0, hok] at this
  exact this
 have hcase : (R K = none /\ ok = false) \/ ∃ xs, R K = some (kd0, xs) /\ ok = true /\ IntsI w A0 n0 xs /\ n0 <= c0 /\ n0 <= 140000 := by
  cases hR : R K with
  | none =>
   rw [hR] at hat
   have : getM l K = none := hat
   rw [this] at hok
   exact .inl ⟨rfl, hok.symm⟩
  | some p =>
   rw [hR] at hat
   obtain ⟨A, n, c, h1, h2, h3, h4⟩ := hat
   rw [h1] at hok hv0
   have e : (Value.agg #[.int .i64 p.1, .slice A n c]) = .agg #[.int .i64 kd0, .slice A0 n0 c0] := hv0
   injection e with e
   have e' : [Value.int .i64 p.1, .slice A n c] = [Value.int .i64 kd0, .slice A0 n0 c0] := congrArg Array.toList e
   injection e' with e1 e2
   injection e2 with e2 e3
   injection e1 with _ e1
   injection e2 with e4 e5 e6
   subst e1 e4 e5 e6
   exact .inr ⟨p.2, rfl, hok.symm, h2, h3, h4⟩
 have HLK := Lib.hid hlk
 have HH := Lib.hid h
 have HKK := Lib.hid hK
 have HCS := Lib.hid hcase
 clear h hfi hK hl1 hl2 hl3 hat hv0 hok hlk hcase hnm
 go_enter Tryz.func23, Tryz.ntmps23
 go_upto_region 1 with fail
 obtain ⟨w0, hw0⟩ : ∃ x, w.alloc (.cells #[.int .i64 0, .slice none 0 0] 66) = x := ⟨_, rfl⟩
 rw [hw0] at hb0 k4 ⊢
 clear hw0
 go_wp2_with fail
 refine (HFI.out _).mono ?_
 rintro e w1 ⟨rfl, hb1⟩
 go_upto_region 2 with fail
 have k6 := Blk.new w1 120 #[.int .i64 k, .bool F]
 have k42 := (k4.below hb1).alloc (.cells #[.int .i64 k, .bool F] 120)
 have hb2 : Below w.heap.size w (w1.alloc (.cells #[.int .i64 k, .bool F] 120)) := balloc (bseq hb0 hb1)
 have hz6 : w.heap.size <= w1.heap.size := (bseq hb0 hb1).size
 obtain ⟨b6, hb6⟩ : ∃ x, w1.heap.size = x := ⟨_, rfl⟩
 obtain ⟨w2, hw2⟩ : ∃ x, w1.alloc (.cells #[.int .i64 k, .bool F] 120) = x := ⟨_, rfl⟩
 rw [hb6] at k6 hz6 ⊢
 rw [hw2] at k6 k42 hb2 ⊢
 clear hb6 hw2 k4
 obtain ⟨⟨c0', c1'⟩, f0', f1'⟩ := cells2_of k6
 have g1 := (HH.out.below hb2).blk.cell 1
 simp at g1
 go_upto_if 19 with fail
 go_cut [] (fun wx => Hid (Blk wx b6 120 #[.int .i64 K, .bool F]) /\ Hid (Blk wx w.heap.size 66 #[.int .i64 0, .slice none 0 0]) /\ Below w.heap.size w wx)
 case first =>
  by_cases h34 : k = 34
  ·have hKt : K = tu := by rw [<- HKK.out]; unfold gkF; rw [if_pos h34]
   subst h34
   have hF : Fr (· = b6) w2 (w2.setCell ⟨b6, 0, none⟩ (.int .i64 tu)) := (Fr.refl _ _).set1 0 _
   have r6 := (k6.set_ 0 (.int .i64 tu)).eq_ (show _ = #[.int .i64 tu, .bool F] by simp)
   have r4 := k42.fr hF (fun e => Blk.ne_ k42 k6 (by decide) e)
   have hbx := bfr hb2 hF (fun i hi => by omega)
   have HX := Lib.hid (And.intro r6 (And.intro r4 hbx))
   have HKT := Lib.hid hKt
   clear hF r6 r4 hbx hKt
   go_wp2_with fail
   go_meet
   rw [HKT.out]
   exact ⟨Lib.hid HX.out.1, Lib.hid HX.out.2.1, HX.out.2.2⟩
  ·have q34 : (k == 34) = false := by rw [beq_eq_false_iff_ne]; exact h34
   have hKt : K = k := by rw [<- HKK.out]; unfold gkF; rw [if_neg h34]
   have HKT := Lib.hid hKt
   have HX := Lib.hid (And.intro k6 (And.intro k42 hb2))
   clear hKt
   go_wp2_with fail
   go_meet
   rw [HKT.out]
   exact ⟨Lib.hid HX.out.1, Lib.hid HX.out.2.1, HX.out.2.2⟩
 case rest =>
  obtain ⟨hk6, hk4, hbc⟩ := hcut
  have hFc : ∀ w', Below wc.heap.size wc w' -> w'.cell? ⟨gk, 0, none⟩ = some (.map (some mk)) /\ w'.cell? ⟨b6, 0, none⟩ = some (.int .i64 K) := fun w' hb =>
   ⟨(HH.out.blk.below (bseq hbc hb)).cell 0, (hk6.out.below hb).cell 0⟩
  have HF := Lib.hid hFc
  clear hFc k6 k42 c0' c1' f0' f1' g1
  go_upto_region 6 with fail
  refine wp_region_lin (fun w' => Below wc.heap.size wc w') (fun w' => Below wc.heap.size wc w') (fun k => k == 10 || k == 11) (fun k => k == 11) (fun k => k == 9 || k == 12) (by kernel_rfl) (by kernel_rfl) (Below.drew (Below.refl _ _)) (fun _ h => h) ?_
  repeat ((first
   | (refine wpL_read (v := ?_) (by rfl) (by rfl) (fun w6 hSw => ?_) ?_; rotate_left; (· (obtain ⟨y0, y1⟩ := HF.out _ hSw; have y5 := HLK.out _ (bseq hbc hSw); go_simp; try with_reducible rfl)))
   | (refine wpL_free (v := ?_) (by rfl) (fun w6 => ?_) ?_; rotate_left; (· (go_simp; try with_reducible rfl)))
   | refine wpL_not (by rfl) ?_); (try simp only [Act.put, pA, pB, pC]))
  refine wpL_heavy (fun u w' => ∃ wq, Below wc.heap.size wc wq /\ u = .pointer (some ⟨wq.heap.size, 0, none⟩) /\ w' = wq.alloc (.cells #[.int .i64 0, .slice none 0 0] 66)) (by rfl) (by rfl) (fun w6 hSw => ?_) (.inr (fun v6 w6 hT6 => ?_)) (fun v6 hv6 => ?_)
  ·(go_simp; exact ⟨w6, hSw, rfl, rfl⟩)
  ·(obtain ⟨wq, hq, -, rfl⟩ := hT6; exact balloc hq)
  skip
  (try simp only [Act.put, pA, pB, pC])
  refine wpL_heavy (fun _ w' => ∃ b8, v6 = .pointer (some ⟨b8, 0, none⟩) /\ Blk w' b8 66 #[.int .i64 kd0, .slice A0 n0 c0] /\ Below wc.heap.size wc w') (by rfl) (by rfl) (fun w6 hSw => ?_) (.inl (by rfl)) (fun v6 hv6 => ?_)
  ·(obtain ⟨wq, hq, rfl, rfl⟩ := hSw; go_simp; exact ⟨Blk.new wq _ _, balloc hq⟩)
  skip
  (try simp only [Act.put, pA, pB, pC])
  repeat ((first
   | (refine wpL_read (v := ?_) (by rfl) (by rfl) (fun w6 hSw => ?_) ?_; rotate_left; (· (obtain ⟨y0, y1⟩ := HF.out _ hSw; have y5 := HLK.out _ (bseq hbc hSw); go_simp; try with_reducible rfl)))
   | (refine wpL_free (v := ?_) (by rfl) (fun w6 => ?_) ?_; rotate_left; (· (go_simp; try with_reducible rfl)))
   | refine wpL_not (by rfl) ?_); (try simp only [Act.put, pA, pB, pC]))
  refine wpL_nil ?_
  rintro w3 ⟨b8, rfl, k8, hb3⟩
  have hbw3 := bseq hbc hb3
  have k43 := hk4.out.below hb3
  obtain ⟨⟨d0, d1⟩, f0, f1⟩ := cells2_of k43
  rcases HCS.out with ⟨hR, rfl⟩ | ⟨xs, hR, rfl, hI, hnc, hn14⟩
  ·have hr := (cells2_of (((k43.set_ 0 (.int .i64 0)).set_ 1 (.slice none 0 0)).eq_ (show _ = #[.int .i64 0, .slice none 0 0] by simp))).1
   have hfin : Below w.heap.size w ((w3.setCell ⟨w.heap.size, 0, none⟩ (.int .i64 0)).setCell ⟨w.heap.size, 1, none⟩ (.slice none 0 0)) := (hbw3.setCell (p := ⟨w.heap.size, 0, none⟩) (Nat.le_refl _) _).setCell (p := ⟨w.heap.size, 1, none⟩) (Nat.le_refl _) _
   have HR := Lib.hid hr
   have HFIN := Lib.hid hfin
   have HRR := Lib.hid hR
   clear hr hfin hR k8
   go_wp2_with fail
   refine bodyPost_ret (v := .tuple #[.agg #[.int .i64 0, .slice none 0 0], .int .i64 112]) (by simp [results, Tryz.results23, go_sem, HR.out.1, HR.out.2]) rfl ?_
   unfold GetPost
   rw [HRR.out]
   exact ⟨rfl, HFIN.out⟩
  ·have hCL := fun (w' : World) (hb : Below w3.heap.size w3 w') => clone_any A0 n0 c0 xs w' (hI.bel (bseq hbw3 hb)) (by omega)
   have HCL := Lib.hid hCL
   have hF3 : ∀ w', Below w3.heap.size w3 w' -> w'.cell? ⟨b8, 0, none⟩ = some (.int .i64 kd0) /\ w'.cell? ⟨b8, 1, none⟩ = some (.slice A0 n0 c0) := fun w' hb => ⟨(k8.below hb).cell 0, (k8.below hb).cell 1⟩
   have HF3 := Lib.hid hF3
   have hR4 := fun (w' : World) (hb : Below w3.heap.size w3 w') => cells2_of (k43.below hb)
   have HR4 := Lib.hid hR4
   have HK43 := Lib.hid k43
   have HRR := Lib.hid hR
   have hzz : w.heap.size < w3.heap.size := k43.lt
   clear hCL hF3 hR4 k8 k43 hR d0 d1 f0 f1 hI
   go_upto_region 9 with fail
   refine wp_region_lin (fun w' => Below w3.heap.size w3 w') (fun w' => Below w3.heap.size w3 w') (fun k => k == 4 || k == 6) (fun k => k == 6) (fun k => k == 7) (by kernel_rfl) (by kernel_rfl) (Below.drew (Below.refl _ _)) (fun _ h => h) ?_
   repeat ((first
    | (refine wpL_read (v := ?_) (by rfl) (by rfl) (fun w6 hSw => ?_) ?_; rotate_left; (· (obtain ⟨y0, y1⟩ := HF3.out _ hSw; go_simp; try with_reducible rfl)))
    | (refine wpL_free (v := ?_) (by rfl) (fun w6 => ?_) ?_; rotate_left; (· (go_simp; try with_reducible rfl)))
    | refine wpL_not (by rfl) ?_); (try simp only [Act.put, pA, pB, pC]))
   refine wpL_call (f := ?_) (args := ?_) (fun v w' => w'.ownsRow w3.heap.size 3 1 v xs.length (xs.map (Value.int .i64)) /\ Below w3.heap.size w3 w') (by rfl) (by rfl) (fun w6 hSw => ?_) (fun w6 hSw => ?_) (.inr (fun v6 w6 hT6 => ?_)) (fun v6 hv6 => ?_)
   rotate_left 2
   ·(skip; go_simp; first | done | (constructor <;> with_reducible rfl) | with_reducible rfl)
   ·(refine (HCL.out _ hSw).mono ?_; rintro e w' ⟨v, rfl, ho, hb⟩; exact ⟨_, rfl, own_base ho hSw.size, bseq hSw hb⟩)
   ·(exact hT6.2)
   obtain ⟨wz, hz7, -⟩ := hv6; obtain ⟨A7, c7, rfl, -⟩ := own_slice hz7
   (try simp only [Act.put, pA, pB, pC])
   repeat ((first
    | (refine wpL_read (v := ?_) (by rfl) (by rfl) (fun w6 hSw => ?_) ?_; rotate_left; (· (obtain ⟨y0, y1⟩ := HF3.out _ hSw; go_simp; try with_reducible rfl)))
    | (refine wpL_free (v := ?_) (by rfl) (fun w6 => ?_) ?_; rotate_left; (· (go_simp; try with_reducible rfl)))
    | refine wpL_not (by rfl) ?_); (try simp only [Act.put, pA, pB, pC]))
   refine wpL_heavy (fun _ w' => ∃ wq, (wq.ownsRow w3.heap.size 3 1 (.slice A7 xs.length c7) xs.length (xs.map (Value.int .i64)) /\ Below w3.heap.size w3 wq) /\ w' = (wq.setCell ⟨w.heap.size, 0, none⟩ (.int .i64 kd0)).setCell ⟨w.heap.size, 1, none⟩ (.slice A7 xs.length c7)) (by rfl) (by rfl) (fun w6 hSw => ?_) (.inl (by rfl)) (fun v6 hv6 => ?_)
   ·(obtain ⟨⟨d0, d1⟩, f0, f1⟩ := HR4.out _ hSw.2; go_simp; exact ⟨w6, hSw, rfl⟩)
   skip
   (try simp only [Act.put, pA, pB, pC])
   repeat ((first
    | (refine wpL_read (v := ?_) (by rfl) (by rfl) (fun w6 hSw => ?_) ?_; rotate_left; (· (obtain ⟨y0, y1⟩ := HF3.out _ hSw; go_simp; try with_reducible rfl)))
    | (refine wpL_free (v := ?_) (by rfl) (fun w6 => ?_) ?_; rotate_left; (· (go_simp; try with_reducible rfl)))
    | refine wpL_not (by rfl) ?_); (try simp only [Act.put, pA, pB, pC]))
   refine wpL_nil ?_
   rintro w5 ⟨wq, ⟨ho, hbq⟩, rfl⟩
   have hr := (cells2_of ((((HK43.out.below hbq).set_ 0 (.int .i64 kd0)).set_ 1 (.slice A7 xs.length c7)).eq_ (show _ = #[.int .i64 kd0, .slice A7 xs.length c7] by simp))).1
   have hfr : Fr (· = w.heap.size) wq ((wq.setCell ⟨w.heap.size, 0, none⟩ (.int .i64 kd0)).setCell ⟨w.heap.size, 1, none⟩ (.slice A7 xs.length c7)) := ((Fr.refl _ _).set1 0 _).set1 1 _
   have hfb := bfr (bseq hbw3 hbq) hfr (fun i hi => by omega)
   have hfo := own_fr (own_base ho (Nat.le_of_lt hzz)) hfr (fun q hq hs => by
    have := own_ge ho hq
    omega)
   have HR := Lib.hid hr
   have HFIN := Lib.hid (And.intro hfo hfb)
   clear hr hfr hfb hfo ho
   go_wp2_with fail
   refine bodyPost_ret (v := .tuple #[.agg #[.int .i64 kd0, .slice A7 xs.length c7], .int .i64 0]) (by simp [results, Tryz.results23, go_sem, HR.out.1, HR.out.2]) rfl ?_
   unfold GetPost
   rw [HRR.out]
   exact ⟨_, rfl, HFIN.out.1, HFIN.out.2⟩
end Go.Proofs.YtgiihhikdoikgaaGreat
