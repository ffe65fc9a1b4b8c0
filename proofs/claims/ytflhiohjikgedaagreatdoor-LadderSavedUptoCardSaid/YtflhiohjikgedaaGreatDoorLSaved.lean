import Derived.Test.YtflhiohjikgedaaGreatDoorLFillS
import Derived.Defers
import Derived.Laws.StructEq
import Derived.ChangeKeysEq
set_option linter.unusedSimpArgs false
set_option linter.unusedVariables false
namespace Go.Proofs.YtflhiohjikgedaaGreatDoor
open Go.RowKit
attribute [local go_sem] Oper.semAt_some

theorem wpListIn_append_at {F : Fence} {n : Nat} {P : Program} (w : World) {ops : Array Oper} {rest : List Oper} {o : Oper} {a : Act} {Q : Exit → Act → World → Prop}
    (hg : o.guard = none) (s x : Operand) (t : TypeId) (hop : o.op = Op.call { callee := Callee.builtin Builtin.append, args := #[s, x], argTypes := #[t, t] })
    (base : Nat) (e : TypeId) (i : TypeInfo) (z : Value) (size bytes : Nat) (h1 : P.underlying t = some (.slice e)) (h2 : P.info? e = some i) (h3 : i.zero = some z) (h4 : i.size = size) (h5 : i.bytes = bytes) (h6 : z.cells.size = size) (h7 : 0 < size)
    (v : Value) (k : Nat) (xs : List Value) (hs : a.eval s = v) (hown : w.ownsRow base e size v k xs) (ad : Addr) (m c : Nat) (news : List Value) (hx : a.eval x = .slice (some ad) m c) (hn : news.length = m * size)
    (hc : ∀ j u, news[j]? = some u → w.cell? (ad.add j) = some u) (h1c : ∀ u ∈ news, u.oneCell' = true) (b1 : k + m ≤ maxLen) (b2 : (k + m) * bytes ≤ 140737488355328) (b3 : base ≤ w.heap.size)
    (hK : ∀ v' w', w'.ownsRow base e size v' (k + m) (xs ++ news) → w.grownBy w' v.ownBlock → (v'.ownBlock = v.ownBlock ∨ v'.ownBlock = some w.heap.size) → wpListIn F n P ops Q rest (a.put o.dst v') w') :
    wpListIn F n P ops Q (o :: rest) a w := by
  refine wpListIn_plain hg fun K hK' => ?_
  obtain ⟨v', w', hrun, r1, r2, r3, r4⟩ := run_append_own_at (P := P) w base t o.type e i z size bytes h1 h2 h3 h4 h5 h6 h7 v k xs hown ad m c news hn hc h1c b1 b2 b3
  unfold Oper.wpIn
  refine ⟨?_, ?_⟩
  · simp [Oper.about, hop, resolve, Target.leads, Sem.run_pure]
  · rw [Oper.semAt_plain F _ _ (by rw [hop]; intro c hc'; cases hc')]
    simp [execOp, hop, resolve, invoke, builtin, hs, hx, hrun, Result.andThen]
    exact hK' _ _ (hK v' w' r1 r2 r4)
set_option maxRecDepth 100000 in
theorem tchunks_any (D : Nat → Prop) (g : Nat) (enc lim : Int) (t : Tr) (a : Option Addr) (add : Value) (w : World) (h : TextIn w D g enc lim t a add) :
    Calls Tryz.prog 113 #[.pointer (some ⟨g, 0, none⟩), .int .i64 1024] w fun e w' =>
      e = .returned (.func (.func 124) #[] #[.pointer (some ⟨w.heap.size, 0, none⟩), .pointer (some ⟨w.heap.size + 1, 0, none⟩)]) ∧
      (w.alloc (.cells #[.int .i64 1024] 3)).alloc (.cells #[.pointer a] 86) = w' := by
  obtain ⟨_, c2⟩ := h.cells
  have hl := h.blk.lt
  go_enter Tryz.func113, Tryz.ntmps113
  go_wp2_with fail
  go_ret
  exact ⟨rfl, rfl⟩
/-- between two rounds -/
def FiI (x : Fx) (L mk : List Int) (st0 : Int) (s : List (List Int)) (X : Nat → Prop) (W : World) : Prop :=
  ∃ st ct A0 c0 fby A c rdy, FiS x W X st ct A0 c0 fby A c rdy ∧ fby ++ rdy = mk ++ s.flatten ∧ rdy.length < 1024 ∧ st0 ≤ st ∧ st ≤ st0 + fby.length ∧ 0 ≤ ct ∧ ct ≤ fby.length ∧ s.flatten <+: L
theorem fiI_ok {x : Fx} {L mk : List Int} {st0 : Int} {B : Nat} (hB : x.q3 < B ∧ x.q4 < B ∧ x.fb < B ∧ x.sb < B ∧ x.fA < B) : FpOk B (FiI x L mk st0) := by
  refine ⟨?_, ?_, ?_⟩
  · rintro s X W W' ⟨st, ct, A0, c0, fby, A, c, rdy, h, h2⟩ hf
    exact ⟨st, ct, A0, c0, fby, A, c, rdy, h.keep hB hf, h2⟩
  · rintro s X W b ⟨st, ct, A0, c0, fby, A, c, rdy, h, h2⟩ hb
    exact h.kind b hb
  · rintro s X W b ⟨st, ct, A0, c0, fby, A, c, rdy, h, h2⟩ hb
    exact h.lt b hb
/-- a block of bytes -/
def U8 (w : World) (b : Nat) : Prop := ∃ cs, Blk w b 5 cs
/-- what a fill has done -/
def FillQ (d sb f b0 : Nat) (ls ac : Value) (last st0 num sy : Int) (bs : List Int) (w w' : World) : Prop :=
  ∃ st ct A c, DkAt w' d sb ls ac last st ∧ st0 ≤ st ∧ st ≤ st0 + bs.length + 1 ∧ FlAt w' f num (.slice A bs.length c) sy ct ∧ 0 ≤ ct ∧ ct ≤ bs.length + 1 ∧ w'.ownsRow b0 5 1 (.slice A bs.length c) bs.length (bs.map (Value.int .u8)) ∧ Fr (fun b => b = d ∨ b = f) w w'
set_option maxRecDepth 100000 in
set_option maxHeartbeats 8000000 in
theorem fill_any (fb d sb f fA nA cA : Nat) (ls ac : Value) (last st0 num sy numA syA ctA : Int) (AA : Option Addr) (fc : Array Value) (Am : Option Addr) (nm cm : Nat) (Dm : Nat → Prop) (mk : List Int)
    (g : Nat) (enc lim : Int) (t : Tr) (a : Option Addr) (add : Value) (w : World) (hbf : Blk w fb 75 fc) (hf0 : fc[0]? = some (.pointer (some ⟨d, 0, none⟩))) (hf2 : fc[2]? = some (.slice Am nm cm)) (hmk : Bts w Dm Am nm mk) (hnm : nm ≤ 3)
    (hd : DkAt w d sb ls ac last st0) (hst : 0 ≤ st0 ∧ st0 ≤ 1000000000) (hm : MapS w sb [(sA, .pointer (some ⟨fA, 0, none⟩)), (sT, .pointer (some ⟨f, 0, none⟩))]) (hfA : FlAt w fA numA (.slice AA nA cA) syA ctA) (hfT : FlAt w f num (.slice none 0 0) sy 0) (hff : f ≠ fA)
    (h : TextIn w (U8 w) g enc lim t a add) (hlen : (bytesL t.list).length ≤ 65536) (hnA : nA ≤ 65539) :
    Calls Tryz.prog 95 #[.pointer (some ⟨fb, 0, none⟩), .string sT, .pointer (some ⟨g, 0, none⟩)] w fun e w' => e = .returned .nilIface ∧ FillQ d sb f w.heap.size ls ac last st0 num sy (mk ++ bytesL t.list) w w' := by
  obtain rfl : mk.length = nm := hmk.len
  have hbl := hbf.lt
  have hdl := Blk.lt hd
  have e2 := hbf.cell 2
  rw [hf2] at e2
  refine (callsIn_wide (n := 9)).1 ?_
  refine callsIn_of_wp_marks Tryz.func95 rfl trivial ?_ rfl
  simp only [Tryz.ntmps95, List.size_toArray, List.length_cons, List.length_nil, Nat.reduceAdd, Nat.reduceSub, Array.replicate_succ, Array.replicate_zero, List.push_toArray, List.append_toArray, List.nil_append, List.cons_append]
  obtain ⟨w1, hw1⟩ : ∃ w1, ((w.alloc (.cells #[.pointer (some ⟨fb, 0, none⟩)] 32)).alloc (.cells #[.string sT] 9)).alloc (.cells #[.nilIface] 27) = w1 := ⟨_, rfl⟩
  have hb1 : Below w.heap.size w w1 := by rw [← hw1]; exact balloc (balloc (balloc (Below.refl _ _)))
  have hz1 : w1.heap.size = w.heap.size + 1 + 1 + 1 := by rw [← hw1]; simp
  obtain ⟨q3, hq3⟩ : ∃ q, w.heap.size = q := ⟨_, rfl⟩
  have k3 : Blk w1 q3 32 #[.pointer (some ⟨fb, 0, none⟩)] := by rw [← hw1, ← hq3]; exact ((Blk.new w _ _).alloc _).alloc _
  have k4 : Blk w1 (q3 + 1) 9 #[.string sT] := by
    have := Blk.new (w.alloc (.cells #[.pointer (some ⟨fb, 0, none⟩)] 32)) 9 #[.string sT]
    rw [World.size_alloc, hq3] at this
    rw [← hw1]
    exact this.alloc _
  have k6 : Blk w1 (q3 + 1 + 1) 27 #[.nilIface] := by
    have := Blk.new ((w.alloc (.cells #[.pointer (some ⟨fb, 0, none⟩)] 32)).alloc (.cells #[.string sT] 9)) 27 #[.nilIface]
    rw [World.size_alloc, World.size_alloc, hq3, hw1] at this
    exact this
  have HCL := Lib.hid (bclone_any Dm Am mk.length cm mk w1 (Reads.below hmk hb1) (by omega))
  have HCH := Lib.hid (fun w' (hb : Below w.heap.size w w') => tchunks_any (U8 w) g enc lim t a add w' (h.below hb))
  have HW1 := Lib.hid hw1
  have y3 := k3.cell 0
  have y2 : w1.cell? ⟨fb, 2, none⟩ = some (.slice Am mk.length cm) := (hb1.cell hbl).trans e2
  simp at y3
  gi_upto_region 1 with fail
  rw [hq3] at hz1 hbl hdl
  clear hw1 e2
  gi_wp2_with fail
  refine ⟨trivial, CallsIn.mono (callsIn_wide.2 HCL.out) ?_⟩
  rintro e w2 ⟨v, rfl, ho2, hb2⟩
  obtain ⟨Ar, cr, rfl, -⟩ := own_slice ho2
  have hb2w : Below w.heap.size w w2 := bseq hb1 hb2
  obtain ⟨q7, hq7⟩ : ∃ q, w2.heap.size = q := ⟨_, rfl⟩
  have hz2 : q3 + 1 + 1 + 1 ≤ q7 := by rw [← hz1, ← hq7]; exact hb2.size
  obtain ⟨w3, hw3⟩ : ∃ w3, w2.alloc (.cells #[.slice Ar mk.length cr] 22) = w3 := ⟨_, rfl⟩
  have hb3w : Below w.heap.size w w3 := by rw [← hw3]; exact balloc hb2w
  have k7 : Blk w3 q7 22 #[.slice Ar mk.length cr] := by rw [← hw3, ← hq7]; exact Blk.new _ _ _
  have ho3 : w3.ownsRow w1.heap.size 5 1 (.slice Ar mk.length cr) mk.length (mk.map (Value.int .u8)) := by rw [← hw3]; exact ho2.alloc _
  have hb13 : Below w1.heap.size w1 w3 := by rw [← hw3]; exact balloc hb2
  have HC3 := Lib.hid (HCH.out w3 hb3w)
  have HW3 := Lib.hid hw3
  clear y3 y2 HCL hw3
  gi_upto_region 2 with fail
  have e3 := HW3.out
  rw [e3]
  clear e3
  gi_wp2_with fail
  refine ⟨trivial, CallsIn.mono (callsIn_wide.2 HC3.out) ?_⟩
  rintro e w4 ⟨rfl, hw4⟩
  obtain ⟨bS, hbS⟩ : ∃ q, w3.heap.size = q := ⟨_, rfl⟩
  have hb4 : Below w3.heap.size w3 w4 := by rw [← hw4]; exact balloc (balloc (Below.refl _ _))
  have hb4w : Below w.heap.size w w4 := bseq hb3w hb4
  have s1 : Blk w4 bS 3 #[.int .i64 1024] := by rw [← hw4, ← hbS]; exact (Blk.new w3 _ _).alloc _
  have s2 : Blk w4 (bS + 1) 86 #[.pointer a] := by
    have := Blk.new (w3.alloc (.cells #[.int .i64 1024] 3)) 86 #[.pointer a]
    rw [World.size_alloc, hbS, hw4] at this
    exact this
  have h7S : q7 < bS := by rw [← hbS]; exact k7.lt
  have hz4 : w4.heap.size = bS + 1 + 1 := by rw [← hw4, ← hbS]; simp
  have hw2s : w2.heap.size = q7 := hq7
  have hoS : ∀ b, (Value.slice Ar mk.length cr).ownBlock = some b → q3 + 1 + 1 + 1 ≤ b ∧ b < bS := fun b hb => by
    have h1 := (ho3.lt b hb).1
    have h2 := (ho3.lt b hb).2
    omega
  obtain ⟨x, hx⟩ : ∃ x : Fx, x = ⟨q3, fb, d, sb, f, fA, q3, q3 + 1, q7, nA, cA, ls, ac, last, num, sy, numA, syA, ctA, AA, fc⟩ := ⟨_, rfl⟩
  have hml := hm.lt
  have hfl := Blk.lt hfT
  have hAl := Blk.lt hfA
  have h0 : FiI x (bytesL t.list) mk st0 [] (fun b => b = d ∨ b = f ∨ b = q7 ∨ (Value.slice none 0 0).ownBlock = some b ∨ (Value.slice Ar mk.length cr).ownBlock = some b) w4 := by
    subst hx
    refine ⟨st0, 0, none, 0, [], Ar, cr, mk, ⟨k3.below (bseq hb13 hb4), k4.below (bseq hb13 hb4), hbf.below hb4w, hf0, hm.below hb4w, Blk.below hfA hb4w, Blk.below hd hb4w, Blk.below hfT hb4w, World.ownsRow_nil _ _ _ _, k7.below hb4, own_lower (ownsRow_below ho3 hb4) (show q3 ≤ w1.heap.size by omega), (fun b hb => by cases hb), hff, fun _ => Iff.rfl⟩, by simp, by omega, Int.le_refl _, by simp, Int.le_refl _, by simp, List.nil_prefix⟩
  have hX0 : ∀ b, (b = d ∨ b = f ∨ b = q7 ∨ (Value.slice none 0 0).ownBlock = some b ∨ (Value.slice Ar mk.length cr).ownBlock = some b) → b < bS ∧ ¬ U8 w b := by
    rintro b (rfl | rfl | rfl | hb | hb)
    · exact ⟨by omega, fun ⟨cs, hu⟩ => Blk.ne_ hu hd (by decide) rfl⟩
    · exact ⟨by omega, fun ⟨cs, hu⟩ => Blk.ne_ hu hfT (by decide) rfl⟩
    · exact ⟨h7S, fun ⟨cs, hu⟩ => by have := hu.lt; omega⟩
    · cases hb
    · exact ⟨(hoS b hb).2, fun ⟨cs, hu⟩ => by have := hu.lt; have := (hoS b hb).1; omega⟩
  have hIok : FpOk w4.heap.size (FiI x (bytesL t.list) mk st0) := fiI_ok (by subst hx; exact ⟨by show q3 < _; omega, by show q3 + 1 < _; omega, by show fb < _; omega, by show sb < _; omega, by show fA < _; omega⟩)
  have hseq : ∀ (l : Nat) (J : List (List Int) → (Nat → Prop) → World → Prop) (X : Nat → Prop) (W : World), Below w4.heap.size w4 W → (∀ b, X b → (b = d ∨ b = f ∨ b = q7 ∨ (Value.slice none 0 0).ownBlock = some b ∨ (Value.slice Ar mk.length cr).ownBlock = some b) ∨ w4.heap.size ≤ b) → Takes (ckOk (bytesL t.list)) l W.heap.size J → J [] X W →
      CallsIn Fence.wide (9 - 1) Tryz.prog 124 (#[.func (.yield l) #[] #[]] ++ #[.pointer (some ⟨bS, 0, none⟩), .pointer (some ⟨bS + 1, 0, none⟩)]) W fun e W' => (∃ v, e = .returned v) ∧ ∃ ys : List (List Int), ys.flatten = bytesL t.list ∧ FpPost J ys X W W' := by
    intro l J X W hW hX hT hj
    have hbW : Below w.heap.size w W := bseq hb4w hW
    refine chunks1_any _ (U8 w) enc t a bS (bS + 1) l J X W (s1.below hW) (s2.below hW) (NodeAt.below hbW t a h.node) (fun p hp => ⟨h.ok p hp, Reads.below (h.bts p hp) hbW⟩) h.len hT hj (fun hb => ?_) (fun b hb hx => ?_) (fun b hb => ?_)
    · rcases hX bS hb with h' | h'
      · have := (hX0 bS h').1
        omega
      · omega
    · rcases hX b hx with h' | h'
      · exact (hX0 b h').2 hb
      · obtain ⟨cs, hu⟩ := hb
        have := hu.lt
        omega
    · obtain ⟨cs, hu⟩ := hb
      have h1 := hu.lt
      have h2 := hbW.size
      exact ⟨by omega, by omega⟩
  have HIok := Lib.hid hIok
  have HSEQ := Lib.hid hseq
  have H0 := Lib.hid h0
  have HXX := Lib.hid hx
  have HX0 := Lib.hid hX0
  have HB4 := Lib.hid hb4w
  have hz4' := hz4
  have HZ4 := Lib.hid hz4
  have HK6 := Lib.hid (show Blk w4 (q3 + 1 + 1) 27 #[.nilIface] from k6.below (bseq hb13 hb4))
  have hord : q3 + 1 + 1 + 1 ≤ q7 ∧ q7 < bS := ⟨hz2, h7S⟩
  rw [hbS]
  clear hIok hseq h0 hx hX0 hz4 hz4' hw4 HC3 HW3 HCH HW1 s1 s2 k7 ho3 hb13 hb4 hb3w hb2w ho2 hb2 hb1 k3 k4 k6 hbS hq7 hw2s hz1 hz2 h7S
  gi_wp2_with fail
  refine wpIn_rangeFunc_fp rfl Tryz.call124 (ckOk (bytesL t.list)) (ckOk_keeps _) (FiI x (bytesL t.list) mk st0) (fun b => b = d ∨ b = f ∨ b = q7 ∨ (Value.slice none 0 0).ownBlock = some b ∨ (Value.slice Ar mk.length cr).ownBlock = some b) (fun ys => ys.flatten = bytesL t.list) HIok.out H0.out HSEQ.out
    (fun v a' _ => a' = { tmps := #[.pointer (some ⟨fb, 0, none⟩), .string sT, .pointer (some ⟨g, 0, none⟩), .pointer (some ⟨q3, 0, none⟩), .pointer (some ⟨q3 + 1, 0, none⟩), undef, .pointer (some ⟨q3 + 1 + 1, 0, none⟩), .pointer (some ⟨q7, 0, none⟩), v, undef, undef, undef, undef, .pointer (some ⟨fb, 0, none⟩), .pointer (some ⟨fb, 0, none⟩), .pointer (some ⟨fb, 2, none⟩), .slice Am mk.length cm, .slice Ar mk.length cr, .pointer (some ⟨g, 0, none⟩), .func (.func 124) #[] #[.pointer (some ⟨bS, 0, none⟩), .pointer (some ⟨bS + 1, 0, none⟩)], v, undef, undef, undef, undef, undef, undef, undef, undef, undef, undef, undef, undef, undef, undef, undef, undef, undef, undef, undef, undef, undef, undef, undef, undef, undef, undef, undef, undef, undef, undef, undef, undef, undef, undef, undef, undef, undef], defers := [] }) (fun _ _ _ _ _ h _ _ _ => h) ?hassign ?hbody ?hdone
  case hassign =>
    rintro l2 s X' W' xs v hI hy
    gi_wp2
    exact ⟨Below.refl _ _, trivial⟩
  case hbody =>
    rintro l2 s X' a' W' xs v ⟨st, ct, A0, c0, fby, A, c, rdy, hF, heq, hrl, hst1, hst2, hct1, hct2, hpre⟩ ⟨Ac, cc, Dc, rfl, hbt, hDX, hk0, hk1, hkc, hby, hpx⟩ rfl
    obtain ⟨k, hkk⟩ : ∃ k, xs.length = k := ⟨_, rfl⟩
    obtain ⟨n0, hn0⟩ : ∃ n0, rdy.length = n0 := ⟨_, rfl⟩
    obtain ⟨ad, rfl, -, -⟩ := hbt.at_ hk0
    have e7 := hF.b7.cell 0
    have f7 := hF.b7.frozen 0
    have hrow2 := hF.row2
    have hcells := bts_cells hbt
    have hx7 : x.q7 = q7 := by rw [HXX.out]
    have hxb : x.b0 = q3 := by rw [HXX.out]
    have hWq : q3 ≤ W'.heap.size := by
      have h1 := hF.b7.lt
      rw [hx7] at h1
      omega
    have h7b := hF.b7
    have hfls : (s ++ [xs]).flatten = s.flatten ++ xs := by rw [List.flatten_append]; simp
    rw [hx7] at e7 f7 h7b
    rw [hxb] at hrow2
    rw [hn0] at e7 hrl hrow2 h7b
    rw [hkk] at hk0 hk1 hkc hbt ⊢
    simp at e7
    obtain ⟨ib, hib, hb0, hb1, hb2⟩ := info_parts byte_info
    have HF := Lib.hid hF
    have HEQ := Lib.hid heq
    have HKK := Lib.hid hkk
    have HN0 := Lib.hid hn0
    have HPX := Lib.hid hpx
    have HFL := Lib.hid hfls
    have HST := Lib.hid (show st0 ≤ st ∧ st ≤ st0 + fby.length ∧ 0 ≤ ct ∧ ct ≤ fby.length from ⟨hst1, hst2, hct1, hct2⟩)
    clear heq hF hkk hn0 hpx hpre hst1 hst2 hct1 hct2 hfls hx7 hxb
    gi_wp2_with (gi_at_builtin; refine wpListIn_append_at _ rfl _ _ 22 rfl q3 5 ib (.int .u8 0) 1 1 Tryz.underlying22 hib hb0 hb1 hb2 rfl (by decide) (.slice A n0 c) n0 (rdy.map (Value.int .u8)) rfl hrow2 ad k cc (xs.map (Value.int .u8)) rfl (by rw [List.length_map, HKK.out, Nat.mul_one]) hcells (by intro u hu; obtain ⟨x, _, rfl⟩ := List.mem_map.1 hu; rfl) (by unfold maxLen; omega) (by omega) hWq ?_)
    intro v2 w2' ho2 hg2 hat2
    obtain ⟨A2, c2, rfl, hnc2⟩ := own_slice ho2
    have hf2' : Fr (fun b => (Value.slice A n0 c).ownBlock = some b) W' w2' := (Fr.refl _ W').grown hg2 (fun r hr _ => hr)
    have h7c := h7b.fr hf2' (fun e => own_blk_ne hrow2 h7b (by decide) e)
    have g7 := h7c.frozen 0
    have g7c := h7c.cell 0
    simp at g7c
    have hlen2 : (rdy ++ xs).length = n0 + k := by rw [List.length_append, HN0.out, HKK.out]
    have hF2 := HF.out.ready (A' := A2) (c' := c2) (rdy' := rdy ++ xs) (W1 := w2') (by rw [HN0.out]; exact hf2') (by
      rw [hlen2, List.map_append, show x.b0 = q3 by rw [HXX.out]]
      exact ho2) (by
      rw [hlen2, HN0.out]
      rcases hat2 with h1 | h1
      · exact .inl h1
      · refine .inr (fun b hb => ?_)
        rw [h1] at hb
        injection hb with hb
        omega)
    rw [hlen2, show x.q7 = q7 by rw [HXX.out]] at hF2
    obtain ⟨X2, hF2, hx2, hfr2⟩ := hF2
    obtain ⟨N, hN⟩ : ∃ N, n0 + k = N := ⟨_, rfl⟩
    rw [hN] at hF2 hfr2 hlen2 hnc2 ⊢
    have e7' := hF2.b7.cell 0
    rw [hlen2, show x.q7 = q7 by rw [HXX.out]] at e7'
    simp at e7'
    have HF2 := Lib.hid hF2
    have HFR2 := Lib.hid (show (∀ b, X2 b → X' b ∨ W'.heap.size ≤ b) ∧ Fr X' W' (w2'.setCell ⟨q7, 0, none⟩ (.slice A2 N c2)) from ⟨hx2, hfr2⟩)
    have HL2 := Lib.hid hlen2
    have HNN := Lib.hid hN
    have hN2 : N < 2048 := by omega
    obtain ⟨w5, hw5⟩ : ∃ w5, w2'.setCell ⟨q7, 0, none⟩ (.slice A2 N c2) = w5 := ⟨_, rfl⟩
    rw [hw5] at HF2 HFR2 e7'
    clear hF2 hx2 hfr2 ho2 hg2 hat2 hf2' h7c h7b hrow2 hcells e7 f7 hlen2 hN hib
    gi_upto_region 5 with fail
    have hsum : fby.length + N = mk.length + (s ++ [xs]).flatten.length := by
      have h1 := congrArg List.length HEQ.out
      have h2 := HFL.out
      rw [List.length_append, List.length_append] at h1
      rw [h2, List.length_append]
      have := HN0.out
      have := HKK.out
      have := HNN.out
      omega
    have hfb : fby.length + N ≤ 65539 := by
      have := HPX.out.length_le
      omega
    have hby2 : (fby ++ (rdy ++ xs)) = mk ++ (s ++ [xs]).flatten := by rw [HFL.out, ← List.append_assoc, HEQ.out, List.append_assoc]
    have HBY2 := Lib.hid hby2
    clear hby2 hsum hbt
    rcases Nat.lt_or_ge N 1024 with hlt | hge
    · have z1 : ((1024 : Int) ≤ (N : Int)) = False := by simp; omega
      have HEND : Hid (FpPost (FiI x (bytesL t.list) mk st0) (s ++ [xs]) X' W' w5) := Lib.hid ⟨⟨X2, ⟨st, ct, A0, c0, fby, A2, c2, rdy ++ xs, HF2.out, HBY2.out, by rw [HL2.out]; exact hlt, HST.out.1, HST.out.2.1, HST.out.2.2.1, HST.out.2.2.2, HPX.out⟩, HFR2.out.1⟩, HFR2.out.2⟩
      gi_wp2
      exact HEND.out
    · have z1 : ((1024 : Int) ≤ (N : Int)) = True := by simp; omega
      have hAA : ∃ ad2, A2 = some ad2 := by
        have h1 := HF2.out.row2
        rw [HL2.out] at h1
        rcases h1.2 with ⟨e, h0⟩ | ⟨g', cap, cur, e, _⟩
        · omega
        · injection e with e
          exact ⟨_, e⟩
      obtain ⟨ad2, rfl⟩ := hAA
      have j0 : 1024 ≤ c2 := Nat.le_trans hge hnc2
      have j1 : ((1024 : Nat) : Int) ≤ (c2 : Int) := by omega
      have j2 : (1024 : Int) ≤ (c2 : Int) := by omega
      have hxq : x.q3 = q3 ∧ x.q4 = q3 + 1 ∧ x.q7 = q7 ∧ x.fb = fb ∧ x.d = d ∧ x.f = f ∧ x.b0 = q3 ∧ x.nA = nA := by rw [HXX.out]; exact ⟨rfl, rfl, rfl, rfl, rfl, rfl, rfl, rfl⟩
      obtain ⟨x1, x2, x3, x4, x5, x6, x7, x8⟩ := hxq
      have HFA : Hid (∀ w', Fr (fun b => b = d ∨ b = x.f ∨ (Value.slice A0 fby.length c0).ownBlock = some b) w5 w' → w'.cell? ⟨q3, 0, none⟩ = some (.pointer (some ⟨fb, 0, none⟩)) ∧ w'.cell? ⟨q3 + 1, 0, none⟩ = some (.string sT) ∧ w'.cell? ⟨fb, 0, none⟩ = some (.pointer (some ⟨d, 0, none⟩)) ∧ w'.cell? ⟨q7, 0, none⟩ = some (.slice (some ad2) N c2)) := Lib.hid (fun w' hw => by
        have := HF2.out.facts (by rw [x5]; exact hw)
        rw [HL2.out, x1, x2, x3, x4, x5] at this
        exact this)
      have hap := HF2.out.drew.append (by have := HST.out; omega) (by have := HST.out; omega) (by rw [HL2.out, x8]; omega) (by
        have h1 := HF2.out.b7.lt
        rw [x3] at h1
        rw [x7]
        show q3 ≤ w5.heap.size
        omega) 1024 ad2 rfl (by omega) (by rw [HL2.out]; exact hge) j0
      rw [x5] at hap
      have HAP := Lib.hid hap
      have HXQ := Lib.hid (show x.d = d ∧ x.q7 = q7 ∧ x.b0 = q3 from ⟨x5, x3, x7⟩)
      clear hap x1 x2 x3 x4 x5 x6 x7 x8 g7 g7c hw5
      gi_upto_region 6 with fail
      refine wpIn_round_lin (fun w' => Fr (fun b => b = d ∨ b = x.f ∨ (Value.slice A0 fby.length c0).ownBlock = some b) w5 w') (fun w' => w' = w5.drew) (fun k => k == 7) (fun _ => false) (fun _ => false) (by kernel_rfl) (by kernel_rfl) (fun ⟨_, _, h⟩ => h) (by kernel_rfl) rfl (fun w' h => by subst h; exact (Fr.refl _ _).drew) ?_
      repeat ((first
        | (refine wpL_read (v := ?_) (by rfl) (by rfl) (fun w6 hSw => ?_) ?_; rotate_left; (· (obtain ⟨y0, y1, y2, y3⟩ := HFA.out _ hSw; go_simp; try with_reducible rfl)))
        | (refine wpL_free (v := ?_) (by rfl) (fun w6 => ?_) ?_; rotate_left; (· (go_simp; try with_reducible rfl)))
        | refine wpL_not (by rfl) ?_); (try simp only [Act.put, List.setIfInBounds_toArray, List.set_cons_zero, List.set_cons_succ]))
      refine wpL_call (f := ?_) (args := ?_) (fun v w' => v = .tuple #[.int .i64 1024, .nilIface] ∧ ApdQ d x.sb x.f x.b0 x.ls x.ac x.last (st + 1) x.num x.sy (ct + 1) (.slice A0 fby.length c0) (fby ++ (rdy ++ xs).take 1024) w5.drew w') (by rfl) (by rfl) (fun w6 hSw => ?_) (fun w6 hSw => ?_) (.inr (fun v6 w6 hT6 => ?_)) (fun v6 hv6 => ?_)
      rotate_left 2
      · (subst hSw; skip; go_simp; first | done | (constructor <;> with_reducible rfl) | with_reducible rfl)
      · (subst hSw; refine HAP.out.mono ?_; rintro e w6 ⟨rfl, hq⟩; exact ⟨_, rfl, rfl, hq⟩)
      · (obtain ⟨-, -, _, -, -, hq, -⟩ := hT6; exact ((Fr.refl _ w5).drew).trans hq)
      obtain ⟨wz, rfl, -⟩ := hv6
      (try simp only [Act.put, List.setIfInBounds_toArray, List.set_cons_zero, List.set_cons_succ])
      repeat ((first
        | (refine wpL_read (v := ?_) (by rfl) (by rfl) (fun w6 hSw => ?_) ?_; rotate_left; (· (obtain ⟨y0, y1, y2, y3⟩ := HFA.out _ hSw; go_simp; try with_reducible rfl)))
        | (refine wpL_free (v := ?_) (by rfl) (fun w6 => ?_) ?_; rotate_left; (· (go_simp; try with_reducible rfl)))
        | refine wpL_not (by rfl) ?_); (try simp only [Act.put, List.setIfInBounds_toArray, List.set_cons_zero, List.set_cons_succ]))
      refine wpL_nil ?_
      rintro w9 ⟨-, hq9⟩
      rw [← HXQ.out.1] at hq9
      obtain ⟨A9, c9, X9, hF9, hx9, hfr9⟩ := HF2.out.drew.put hq9
      have e7 := hF9.b7.cell 0
      rw [HL2.out, HXQ.out.2.1] at e7
      simp at e7
      obtain ⟨Ar9, hAr9⟩ : ∃ Ar9, (if c2 = 1024 then some ad2 else some (ad2.add 1024)) = Ar9 := ⟨_, rfl⟩
      have hbt9 : Bts w9 (fun b => (Value.slice (some ad2) N c2).ownBlock = some b) Ar9 (N - 1024) ((rdy ++ xs).drop 1024) := by
        have h1 := hF9.row2
        rw [HL2.out] at h1
        have h2 := bts_own h1
        rcases Nat.eq_zero_or_pos (N - 1024) with hz | hz
        · rw [hz, List.drop_eq_nil_of_le (by have := HL2.out; omega)]
          exact ⟨by simp, fun h => absurd h (by omega)⟩
        · rw [← hAr9, if_neg (by omega), add_pos ad2 1024 (by omega)]
          exact h2.cut_ (by omega) hge
      have hc9 := bclone_any _ Ar9 (N - 1024) (c2 - 1024) _ w9 hbt9 (by omega)
      have HCA : Hid (c2 = 1024 → Calls Tryz.prog 32 #[.slice (some ad2) (N - 1024) 0] w9 (NewB ((rdy ++ xs).drop 1024) w9)) := Lib.hid (fun e => by
        rw [if_pos e] at hAr9
        rw [← hAr9, e] at hc9
        exact hc9)
      have HCB : Hid (c2 ≠ 1024 → Calls Tryz.prog 32 #[.slice (some (ad2.add 1024)) (N - 1024) (c2 - 1024)] w9 (NewB ((rdy ++ xs).drop 1024) w9)) := Lib.hid (fun e => by
        rw [if_neg e] at hAr9
        rw [← hAr9] at hc9
        exact hc9)
      have HF9 := Lib.hid hF9
      have HFR9 := Lib.hid (show (∀ b, X9 b → X2 b ∨ w5.heap.size ≤ b) ∧ Fr X2 w5 w9 from ⟨hx9, ((Fr.refl _ w5).drew).trans hfr9⟩)
      clear hq9 hF9 hx9 hfr9 hbt9 HFA HAP e7' hc9 hAr9
      gi_wp2_with fail
      all_goals
        refine ⟨trivial, CallsIn.inRound l2 (CallsIn.mono (callsIn_wide.2 (by first | exact HCA.out (by omega) | exact HCB.out (by omega))) ?_)⟩
        rintro e w10 ⟨v, rfl, ho10, hb10⟩
        obtain ⟨A10, c10, rfl, -⟩ := own_slice ho10
        have b79 := HF9.out.b7
        rw [HL2.out, HXQ.out.2.1] at b79
        have b710 := b79.below hb10
        have g10 := b710.frozen 0
        have y10 := b710.cell 0
        simp at y10
        have hF10 := HF9.out.ready (A' := A10) (c' := c10) (rdy' := (rdy ++ xs).drop 1024) (W1 := w10) (Fr.of_below hb10) (own_lower ho10 (by
          have := b79.lt
          rw [HXQ.out.2.2]
          omega)) (.inr (fun b hb => (ho10.lt b hb).1))
        rw [HXQ.out.2.1] at hF10
        obtain ⟨X10, hF10, hx10, hfr10⟩ := hF10
        have hlt10 : ((rdy ++ xs).drop 1024).length < 1024 := by
          rw [List.length_drop, HL2.out]
          omega
        have heq10 : fby ++ (rdy ++ xs).take 1024 ++ (rdy ++ xs).drop 1024 = mk ++ (s ++ [xs]).flatten := by rw [List.append_assoc, List.take_append_drop, HBY2.out]
        have hfl10 : (fby ++ (rdy ++ xs).take 1024).length = fby.length + 1024 := by
          rw [List.length_append, List.length_take, HL2.out]
          omega
        have HEND : Hid (FpPost (FiI x (bytesL t.list) mk st0) (s ++ [xs]) X' W' (w10.setCell ⟨q7, 0, none⟩ (.slice A10 ((rdy ++ xs).drop 1024).length c10))) := Lib.hid (by
          obtain ⟨r1, r2⟩ := HFR2.out
          obtain ⟨r3, r4⟩ := HFR9.out
          have hsz5 := r2.size
          refine ⟨⟨X10, ⟨st + 1, ct + 1, A9, c9, _, A10, c10, _, hF10, heq10, hlt10, by have := HST.out; omega, by have := HST.out; rw [hfl10]; omega, by have := HST.out; omega, by have := HST.out; rw [hfl10]; omega, HPX.out⟩, fun b hb => ?_⟩, (r2.call r4 (fun b hb h => ?_)).call hfr10 (fun b hb h => ?_)⟩
          · rcases hx10 b hb with h | h
            · rcases r3 b h with h | h
              · exact r1 b h
              · exact .inr (by omega)
            · exact .inr (by have := r4.size; omega)
          · rcases r1 b h with h | h
            · exact h
            · omega
          · rcases r3 b h with h | h
            · rcases r1 b h with h | h
              · exact h
              · omega
            · omega)
        obtain ⟨nd, hnd⟩ : ∃ nd, ((rdy ++ xs).drop 1024).length = nd := ⟨_, rfl⟩
        rw [hnd] at HEND ⊢
        clear ho10 hb10 b79 b710 hF10 hx10 hfr10 hlt10 heq10 hfl10 hnd
        gi_wp2
        exact HEND.out
  case hdone =>
    rintro D2 W5 ys hD2 hys ⟨⟨X5, hI5, hx5⟩, hf5⟩ hK hnD
    have hnD5 := hnD _ hI5
    obtain ⟨st, ct, A0, c0, fby, A, c, rdy, hF, heq, hrl, hst1, hst2, hct1, hct2, hpre⟩ := hI5
    rw [hys] at heq
    have hxq : x.q3 = q3 ∧ x.q4 = q3 + 1 ∧ x.q7 = q7 ∧ x.fb = fb ∧ x.d = d ∧ x.f = f ∧ x.b0 = q3 ∧ x.nA = nA ∧ x.sb = sb ∧ x.fA = fA ∧ x.ls = ls ∧ x.ac = ac ∧ x.last = last ∧ x.num = num ∧ x.sy = sy := by rw [HXX.out]; exact ⟨rfl, rfl, rfl, rfl, rfl, rfl, rfl, rfl, rfl, rfl, rfl, rfl, rfl, rfl, rfl⟩
    obtain ⟨x1, x2, x3, x4, x5, x6, x7, x8, x9, x10, x11, x12, x13, x14, x15⟩ := hxq
    have hX5 : ∀ b, X5 b → b < w.heap.size → b = d ∨ b = f := fun b hb hlt => by
      rcases hx5 b hb with (h | h | h | h | h) | h
      · exact .inl h
      · exact .inr h
      · omega
      · cases h
      · have := (hoS b h).1
        omega
      · have := HB4.out.size
        omega
    have hn6 : ¬ X5 (q3 + 1 + 1) := fun hb => by
      rcases hx5 _ hb with (h | h | h | h | h) | h
      · omega
      · omega
      · omega
      · cases h
      · have := (hoS _ h).1
        omega
      · have := HZ4.out
        omega
    have hf05 : Fr (fun b => b = d ∨ b = f) w W5 := (Fr.of_below HB4.out : Fr (fun b => b = d ∨ b = f) w w4).call hf5 (fun b hb h => by
      rcases h with h | h | h | h | h
      · exact .inl h
      · exact .inr h
      · omega
      · cases h
      · have := (hoS b h).1
        omega)
    have h65 : Blk W5 (q3 + 1 + 1) 27 #[.nilIface] := HK6.out.fr hf5 (by
      rintro (h | h | h | h | h)
      · omega
      · omega
      · omega
      · cases h
      · have := (hoS _ h).1
        omega)
    have hfin : ∀ (W6 : World) (X6 : Nat → Prop) (st' ct' : Int) (A' : Option Addr) (c' : Nat), FiS x W6 X6 st' ct' A' c' (mk ++ bytesL t.list) A c rdy → ¬ X6 (q3 + 1 + 1) → ¬ X6 D2 → Fr (fun b => b = d ∨ b = f) w W6 → W6.heap[D2]? = some (.deferred (some [])) → w4.heap.size ≤ D2 → st0 ≤ st' → st' ≤ st0 + (mk ++ bytesL t.list).length + 1 → 0 ≤ ct' → ct' ≤ (mk ++ bytesL t.list).length + 1 →
        FillQ d sb f w.heap.size ls ac last st0 num sy (mk ++ bytesL t.list) w ((W6.setCell ⟨q3 + 1 + 1, 0, none⟩ .nilIface).putObj D2 (.deferred none)) := by
      intro W6 X6 st' ct' A' c' hF6 hn6' hnD6 hf6 hK6 hD6 p1 p2 p3 p4
      have hz := HZ4.out
      have hfa : Fr (fun b => b = q3 + 1 + 1) W6 (W6.setCell ⟨q3 + 1 + 1, 0, none⟩ .nilIface) := (Fr.refl _ _).set1 0 _
      have hF7 := hF6.keep (B := q3 + 1 + 1) (by rw [x1, x2, x4, x9, x10]; omega) (hfa.more (fun b _ e => ⟨by rw [e]; exact hn6', by rw [e]; exact Nat.le_refl _⟩))
      have hF8 := hF7.keep (B := q3 + 1 + 1) (by rw [x1, x2, x4, x9, x10]; omega) ((fr_putObj _ D2 (.deferred none)).more (fun b _ e => ⟨by rw [e]; exact hnD6, by rw [e]; omega⟩))
      have r1 := hF8.dk
      have r2 := hF8.fT
      have r3 := hF8.row
      rw [x5, x9, x11, x12, x13] at r1
      rw [x6, x14, x15] at r2
      rw [x7] at r3
      refine ⟨st', ct', A', c', r1, p1, p2, r2, p3, p4, by rw [hq3]; exact r3, (hf6.call hfa (fun b hb h => by omega)).call (fr_putObj _ D2 _) (fun b hb h => by omega)⟩
    have HFIN := Lib.hid hfin
    have HFS := Lib.hid hF
    have HEQ := Lib.hid heq
    have HST := Lib.hid (show st0 ≤ st ∧ st ≤ st0 + fby.length ∧ 0 ≤ ct ∧ ct ≤ fby.length from ⟨hst1, hst2, hct1, hct2⟩)
    have e7 := hF.b7.cell 0
    rw [x3] at e7
    simp at e7
    have g6 := h65.frozen 0
    have y6 := h65.cell 0
    simp at y6
    obtain ⟨n0, hn0⟩ : ∃ n0, rdy.length = n0 := ⟨_, rfl⟩
    rw [hn0] at e7
    have HN0 := Lib.hid hn0
    have hq6l := h65.lt
    have H65 := Lib.hid h65
    clear hfin hF heq hst1 hst2 hct1 hct2 hn0 hys hpre h65 hf5 hx5 H0 HIok HSEQ HX0
    rcases Nat.eq_zero_or_pos n0 with rfl | hpos
    · have hK6 : (W5.setCell ⟨q3 + 1 + 1, 0, none⟩ .nilIface).heap[D2]? = some (.deferred (some [])) := (Below.heap_setCell W5 _ _ D2 (show D2 ≠ q3 + 1 + 1 by have := HZ4.out; omega)).trans hK
      have hr0 : rdy = [] := List.eq_nil_of_length_eq_zero HN0.out
      have hfb : fby = mk ++ bytesL t.list := by
        have := HEQ.out
        rwa [hr0, List.append_nil] at this
      have hq := HFIN.out W5 X5 st ct A0 c0 (by rw [← hfb]; exact HFS.out) hn6 hnD5 hf05 hK hD2 HST.out.1 (by have := HST.out; rw [← hfb]; omega) HST.out.2.2.1 (by have := HST.out; rw [← hfb]; omega)
      have b6 : ((W5.setCell ⟨q3 + 1 + 1, 0, none⟩ .nilIface).putObj D2 (.deferred none)).cell? ⟨q3 + 1 + 1, 0, none⟩ = some .nilIface := by
        have h1 := H65.out.set_ 0 .nilIface
        have h2 := h1.fr (fr_putObj _ D2 (.deferred none)) (fun e => by have := HZ4.out; omega)
        exact h2.cell 0
      have HQ := Lib.hid hq
      clear hq hfb hr0
      gi_wp2_with fail
      refine ⟨by simp, .inl ⟨_, _, rfl, run_takeDeferred hK6, ?_⟩⟩
      exact ⟨.nilIface, by simp [results, Tryz.results95, go_sem, b6], rfl, HQ.out⟩
    · have z1 : (((n0 : Nat) : Int) == 0) = false := by rw [beq_eq_false_iff_ne]; omega
      gi_upto_region 12 with fail
      have hAA : ∃ ad2, A = some ad2 := by
        have h1 := HFS.out.row2
        rw [HN0.out] at h1
        rcases h1.2 with ⟨e, h0⟩ | ⟨g', cap, cur, e, _⟩
        · omega
        · injection e with e
          exact ⟨_, e⟩
      obtain ⟨ad2, rfl⟩ := hAA
      have hnc : n0 ≤ c := by
        have h1 := HFS.out.row2
        rw [HN0.out] at h1
        obtain ⟨A0', c0', e, h2⟩ := own_slice h1
        injection e with _ _ e
        omega
      have hsum : fby.length + n0 = mk.length + (bytesL t.list).length := by
        have h1 := congrArg List.length HEQ.out
        rw [List.length_append, List.length_append, HN0.out] at h1
        exact h1
      have HFA : Hid (∀ w', Fr (fun b => b = d ∨ b = x.f ∨ (Value.slice A0 fby.length c0).ownBlock = some b) W5 w' → w'.cell? ⟨q3, 0, none⟩ = some (.pointer (some ⟨fb, 0, none⟩)) ∧ w'.cell? ⟨q3 + 1, 0, none⟩ = some (.string sT) ∧ w'.cell? ⟨fb, 0, none⟩ = some (.pointer (some ⟨d, 0, none⟩)) ∧ w'.cell? ⟨q7, 0, none⟩ = some (.slice (some ad2) n0 c)) := Lib.hid (fun w' hw => by
        have := HFS.out.facts (by rw [x5]; exact hw)
        rw [HN0.out, x1, x2, x3, x4, x5] at this
        exact this)
      have hap := HFS.out.drew.append (by have := HST.out; omega) (by have := HST.out; omega) (by rw [HN0.out, x8]; omega) (by
        rw [x7]
        show q3 ≤ W5.heap.size
        omega) n0 ad2 rfl (by omega) (by rw [HN0.out]; exact Nat.le_refl _) hnc
      rw [x5] at hap
      have HAP := Lib.hid hap
      clear hap x1 x2 x3 x4 x6 x7 x8 x9 x10 x11 x12 x13 x14 x15
      refine wpIn_wide.2 ?_
      refine wp_region_lin (fun w' => Fr (fun b => b = d ∨ b = x.f ∨ (Value.slice A0 fby.length c0).ownBlock = some b) W5 w') (fun w' => w' = W5.drew) (fun k => k == 6) (fun _ => false) (fun _ => false) (by kernel_rfl) (by kernel_rfl) (rfl) (fun w' h => by subst h; exact (Fr.refl _ _).drew) ?_
      repeat ((first
        | (refine wpL_read (v := ?_) (by rfl) (by rfl) (fun w6 hSw => ?_) ?_; rotate_left; (· (obtain ⟨y0, y1, y2, y3⟩ := HFA.out _ hSw; go_simp; try with_reducible rfl)))
        | (refine wpL_free (v := ?_) (by rfl) (fun w6 => ?_) ?_; rotate_left; (· (go_simp; try with_reducible rfl)))
        | refine wpL_not (by rfl) ?_); (try simp only [Act.put, List.setIfInBounds_toArray, List.set_cons_zero, List.set_cons_succ]))
      refine wpL_call (f := ?_) (args := ?_) (fun v w' => v = .tuple #[.int .i64 (n0 : Int), .nilIface] ∧ ApdQ d x.sb x.f x.b0 x.ls x.ac x.last (st + 1) x.num x.sy (ct + 1) (.slice A0 fby.length c0) (fby ++ rdy.take n0) W5.drew w') (by rfl) (by rfl) (fun w6 hSw => ?_) (fun w6 hSw => ?_) (.inr (fun v6 w6 hT6 => ?_)) (fun v6 hv6 => ?_)
      rotate_left 2
      · (subst hSw; skip; go_simp; first | done | (constructor <;> with_reducible rfl) | with_reducible rfl)
      · (subst hSw; refine HAP.out.mono ?_; rintro e w6 ⟨rfl, hq⟩; exact ⟨_, rfl, rfl, hq⟩)
      · (obtain ⟨-, -, _, -, -, hq, -⟩ := hT6; exact ((Fr.refl _ W5).drew).trans hq)
      obtain ⟨wz, rfl, -⟩ := hv6
      (try simp only [Act.put, List.setIfInBounds_toArray, List.set_cons_zero, List.set_cons_succ])
      repeat ((first
        | (refine wpL_read (v := ?_) (by rfl) (by rfl) (fun w6 hSw => ?_) ?_; rotate_left; (· (obtain ⟨y0, y1, y2, y3⟩ := HFA.out _ hSw; go_simp; try with_reducible rfl)))
        | (refine wpL_free (v := ?_) (by rfl) (fun w6 => ?_) ?_; rotate_left; (· (go_simp; try with_reducible rfl)))
        | refine wpL_not (by rfl) ?_); (try simp only [Act.put, List.setIfInBounds_toArray, List.set_cons_zero, List.set_cons_succ]))
      refine wpL_nil ?_
      rintro w9 ⟨-, hq9⟩
      rw [← x5] at hq9
      obtain ⟨A9, c9, X9, hF9, hx9, hfr9⟩ := HFS.out.drew.put hq9
      have hfb : fby ++ rdy.take n0 = mk ++ bytesL t.list := by rw [List.take_of_length_le (by rw [HN0.out]; exact Nat.le_refl _), HEQ.out]
      rw [hfb] at hF9
      have hfr9' : Fr X5 W5 w9 := ((Fr.refl _ W5).drew).trans hfr9
      have hlD := (Array.getElem?_eq_some_iff.1 hK).1
      have hn6' : ¬ X9 (q3 + 1 + 1) := fun hb => by
        rcases hx9 _ hb with h | h
        · exact hn6 h
        · have h' : W5.heap.size ≤ q3 + 1 + 1 := h
          omega
      have hnD' : ¬ X9 D2 := fun hb => by
        rcases hx9 _ hb with h | h
        · exact hnD5 h
        · have h' : W5.heap.size ≤ D2 := h
          omega
      have hK9 : w9.heap[D2]? = some (.deferred (some [])) := (hfr9'.block _ hlD hnD5).trans hK
      have h69 : Blk w9 (q3 + 1 + 1) 27 #[.nilIface] := H65.out.fr hfr9' hn6
      have hf9 : Fr (fun b => b = d ∨ b = f) w w9 := hf05.call hfr9' (fun b hb h => hX5 b h hb)
      have hll : (mk ++ bytesL t.list).length = fby.length + n0 := by rw [List.length_append]; omega
      have hq := HFIN.out w9 X9 (st + 1) (ct + 1) A9 c9 hF9 hn6' hnD' hf9 hK9 hD2 (by have := HST.out; omega) (by have := HST.out; rw [hll]; omega) (by have := HST.out; omega) (by have := HST.out; rw [hll]; omega)
      have hK6 : (w9.setCell ⟨q3 + 1 + 1, 0, none⟩ .nilIface).heap[D2]? = some (.deferred (some [])) := (Below.heap_setCell w9 _ _ D2 (show D2 ≠ q3 + 1 + 1 by have := HZ4.out; omega)).trans hK9
      have b6 : ((w9.setCell ⟨q3 + 1 + 1, 0, none⟩ .nilIface).putObj D2 (.deferred none)).cell? ⟨q3 + 1 + 1, 0, none⟩ = some .nilIface := by
        have h1 := h69.set_ 0 .nilIface
        have h2 := h1.fr (fr_putObj _ D2 (.deferred none)) (fun e => by have := HZ4.out; omega)
        exact h2.cell 0
      have g9 := h69.frozen 0
      have y9 := h69.cell 0
      simp at y9
      have HQ := Lib.hid hq
      clear hq hfb hq9 hF9 hx9 hfr9 hfr9' hn6' hnD' h69 hf9 hll hK9 HFA HAP HFIN
      gi_wp2_with fail
      refine ⟨by simp, .inl ⟨_, _, rfl, run_takeDeferred hK6, ?_⟩⟩
      exact ⟨.nilIface, by simp [results, Tryz.results95, go_sem, b6], rfl, HQ.out⟩
end Go.Proofs.YtflhiohjikgedaaGreatDoor
namespace Go.Proofs.YtflhiohjikgedaaGreatDoor
open Go.RowKit

/-- a text whose bytes lie in blocks of bytes -/
def TextU (w : World) (g : Nat) (enc lim : Int) (t : Tr) (a : Option Addr) (add : Value) : Prop := TextIn w (U8 w) g enc lim t a add
/-- blocks that have nothing to do with a text -/
def NoTx (w : World) (b : Nat) : Prop := ∀ T cs, Blk w b T cs → T ≠ 88 ∧ T ≠ 134 ∧ T ≠ 5
theorem NoTx.blk {w : World} {b : Nat} {T : TypeId} {cs : Array Value} (h : Blk w b T cs) (h1 : T ≠ 88 ∧ T ≠ 134 ∧ T ≠ 5) : NoTx w b := fun T' cs' h' => by
  have e : T' = T := by
    unfold Blk at h h'
    rw [h] at h'
    injection h' with h'
    injection h' with _ h'
    exact h'.symm
  rw [e]
  exact h1
theorem NoTx.obj {w : World} {b : Nat} {o : Obj} (h : w.heap[b]? = some o) (ho : o.isCells = false) : NoTx w b := fun T cs hb => absurd hb (no_blk_obj h ho T cs)
section
variable {w w' : World} {g : Nat} {enc lim : Int} {t : Tr} {a : Option Addr} {add : Value}
theorem TextU.fr {S : Nat → Prop} (h : TextU w g enc lim t a add) (hf : Fr S w w') (hS : ∀ b, S b → b < w.heap.size → NoTx w b) : TextU w' g enc lim t a add := by
  have hn : ∀ {b : Nat} {T : TypeId} {cs : Array Value}, Blk w b T cs → (T = 88 ∨ T = 134 ∨ T = 5) → ¬ S b := fun hb hT hs => by
    obtain ⟨h1, h2, h3⟩ := hS _ hs hb.lt _ _ hb
    rcases hT with e | e | e
    · exact h1 e
    · exact h2 e
    · exact h3 e
  refine ⟨h.blk.fr hf (hn h.blk (.inl rfl)), h.enc4, NodeAt.keepS (fun b cs hb => hf.block b hb.lt (hn hb (.inr (.inl rfl)))) t a h.node, h.len, h.tot, h.ok, fun p hp => ?_⟩
  have h1 := Reads.fr (D := U8 w) (h.bts p hp) hf (fun b hb _ => by
    obtain ⟨cs, hb⟩ := hb
    exact hn hb (.inr (.inr rfl)))
  exact Reads.more h1 (fun b hb _ => by
    obtain ⟨cs, hb⟩ := hb
    exact ⟨cs, hb.fr hf (hn hb (.inr (.inr rfl)))⟩) (by decide)
theorem TextU.below (h : TextU w g enc lim t a add) (hb : Below w.heap.size w w') : TextU w' g enc lim t a add := h.fr (S := fun _ => False) (Fr.of_below hb) (fun _ h => h.elim)
end
/-- a file as package save knows it -/
def flC (d : Nat) (Am : Option Addr) (nm cm : Nat) (k0 k1 k2 t0 t1 t2 : Int) : Array Value := #[.pointer (some ⟨d, 0, none⟩), .string sA, .slice Am nm cm, .int .i64 k0, .int .i64 k1, .int .i64 k2, .int .i64 t0, .int .i64 t1, .int .i64 t2]
theorem sA_cat : sA ++ (⟨#[126]⟩ : ByteArray) = sT := by rfl
theorem rm_any (q8 b1 b2 : Nat) (u : FrameMode) (w : World) (h8 : Blk w q8 27 #[.nilIface]) :
    CallsD Tryz.prog 92 #[.pointer (some ⟨q8, 0, none⟩), .pointer (some ⟨b1, 0, none⟩), .pointer (some ⟨b2, 0, none⟩)] u w fun e u' w' => u' = u ∧ e = .returned (.tuple #[]) ∧ w' = w := by
  have c8 := h8.cell 0
  simp at c8
  go_enter_d Tryz.func92, Tryz.ntmps92
  go_wp2
  go_end0
  exact ⟨rfl, rfl⟩
/-- what stays in memory while a file is replaced -/
structure RpK (q3 fb d fA nA cA : Nat) (AA Am : Option Addr) (cm : Nat) (numA syA ctA : Int) (mk : List Int) (fc : Array Value) (g : Nat) (enc lim : Int) (t : Tr) (a : Option Addr) (add : Value) (W : World) : Prop where
  b4 : Blk W q3 32 #[.pointer (some ⟨fb, 0, none⟩)]
  b8 : Blk W (q3 + 1) 27 #[.nilIface]
  b9 : Blk W (q3 + 1 + 1) 9 #[.string sT]
  bf : Blk W fb 75 fc
  f0 : fc[0]? = some (.pointer (some ⟨d, 0, none⟩))
  f2 : fc[2]? = some (.slice Am mk.length cm)
  fl : FlAt W fA numA (.slice AA nA cA) syA ctA
  tx : TextU W g enc lim t a add
  mb : Bts W (U8 W) Am mk.length mk
theorem bu8_fr {w w' : World} {S : Nat → Prop} {A : Option Addr} {n : Nat} {l : List Int} (h : Bts w (U8 w) A n l) (hf : Fr S w w') (hS : ∀ b, U8 w b → ¬ S b) : Bts w' (U8 w') A n l := by
  have h1 := Reads.fr (D := U8 w) h hf (fun b hb _ => hS b hb)
  exact Reads.more h1 (fun b hb _ => by
    have hn := hS b hb
    obtain ⟨cs, hb⟩ := hb
    exact ⟨cs, hb.fr hf hn⟩) (by decide)
theorem bu8_below {w w' : World} {A : Option Addr} {n : Nat} {l : List Int} (h : Bts w (U8 w) A n l) (hb : Below w.heap.size w w') : Bts w' (U8 w') A n l := bu8_fr (S := fun _ => False) h (Fr.of_below hb) (fun _ _ h => h)
/-- blocks that may turn meanwhile -/
def RpN (fA : Nat) (W : World) (b : Nat) : Prop := b ≠ fA ∧ ∀ T cs, Blk W b T cs → T = 63 ∨ T = 66 ∨ T = 191
theorem RpN.no {fA : Nat} {W : World} {b : Nat} {T : TypeId} {cs : Array Value} (h : RpN fA W b) (hb : Blk W b T cs) (h1 : T ≠ 63 ∧ T ≠ 66 ∧ T ≠ 191) : False := by
  rcases h.2 T cs hb with e | e | e
  · exact h1.1 e
  · exact h1.2.1 e
  · exact h1.2.2 e
section
variable {q3 fb d fA nA cA cm g sb : Nat} {AA Am : Option Addr} {numA syA ctA enc lim last st : Int} {mk : List Int} {fc : Array Value} {t : Tr} {a : Option Addr} {add ls ac : Value} {W W' w0 : World}
theorem RpN.blk {b : Nat} {T : TypeId} {cs : Array Value} (h : Blk W b T cs) (hn : b ≠ fA) (h1 : T = 63 ∨ T = 66 ∨ T = 191) : RpN fA W b := by
  refine ⟨hn, fun T' cs' h' => ?_⟩
  have e : T' = T := by
    unfold Blk at h h'
    rw [h] at h'
    injection h' with h'
    injection h' with _ h'
    exact h'.symm
  rw [e]
  exact h1
theorem RpK.fr {S : Nat → Prop} (h : RpK q3 fb d fA nA cA AA Am cm numA syA ctA mk fc g enc lim t a add W) (hf : Fr S W W') (hS : ∀ b, S b → b < W.heap.size → RpN fA W b) : RpK q3 fb d fA nA cA AA Am cm numA syA ctA mk fc g enc lim t a add W' := by
  have hx : ∀ {b : Nat} {T : TypeId} {cs : Array Value}, Blk W b T cs → T ≠ 63 ∧ T ≠ 66 ∧ T ≠ 191 → ¬ S b := fun hb h1 hs => (hS _ hs hb.lt).no hb h1
  have h8 : ∀ b, U8 W b → ¬ S b := fun b hb => by
    obtain ⟨cs, hb⟩ := hb
    exact hx hb (by decide)
  refine ⟨h.b4.fr hf (hx h.b4 (by decide)), h.b8.fr hf (hx h.b8 (by decide)), h.b9.fr hf (hx h.b9 (by decide)), h.bf.fr hf (hx h.bf (by decide)), h.f0, h.f2, Blk.fr h.fl hf (fun hs => (hS _ hs (Blk.lt h.fl)).1 rfl), h.tx.fr hf (fun b hs hlt T cs hb => ?_), ?_⟩
  · rcases (hS b hs hlt).2 T cs hb with e | e | e <;> (rw [e]; decide)
  · exact bu8_fr h.mb hf h8
theorem RpK.set8 (h : RpK q3 fb d fA nA cA AA Am cm numA syA ctA mk fc g enc lim t a add W) : RpK q3 fb d fA nA cA AA Am cm numA syA ctA mk fc g enc lim t a add (W.setCell ⟨q3 + 1, 0, none⟩ .nilIface) := by
  have hf : Fr (fun b => b = q3 + 1) W (W.setCell ⟨q3 + 1, 0, none⟩ .nilIface) := (Fr.refl _ _).set1 0 _
  have n8 : ∀ {b : Nat} {T : TypeId} {cs : Array Value}, Blk W b T cs → T ≠ 27 → b ≠ q3 + 1 := fun hb hT => Blk.ne_ hb h.b8 hT
  refine ⟨h.b4.fr hf (n8 h.b4 (by decide)), h.b8.set_ 0 _, h.b9.fr hf (n8 h.b9 (by decide)), h.bf.fr hf (n8 h.bf (by decide)), h.f0, h.f2, Blk.fr h.fl hf (n8 h.fl (by decide)), h.tx.fr hf (fun b e _ => by rw [e]; exact NoTx.blk h.b8 (by decide)), ?_⟩
  exact bu8_fr h.mb hf (fun b hb => by
    obtain ⟨cs, hb⟩ := hb
    exact n8 hb (by decide))
/-- the disk meanwhile -/
structure RpS (q3 fb d fA nA cA : Nat) (AA Am : Option Addr) (cm : Nat) (numA syA ctA : Int) (mk : List Int) (fc : Array Value) (g : Nat) (enc lim : Int) (t : Tr) (a : Option Addr) (add : Value) (sb : Nat) (ls : Value) (w0 : World) (l : List (ByteArray × Value)) (ac : Value) (m : Nat) (last st : Int) (W : World) : Prop where
  k : RpK q3 fb d fA nA cA AA Am cm numA syA ctA mk fc g enc lim t a add W
  dk : DkAt W d sb ls ac last st
  mp : MapS W sb l
  ao : AcOk W ac m
  oa : ∀ b, ac.ownBlock = some b → q3 ≤ b
  fr : Fr (fun b => b = d ∨ b = sb ∨ b = fb) w0 W
theorem RpS.act {l : List (ByteArray × Value)} {m : Nat} (h : RpS q3 fb d fA nA cA AA Am cm numA syA ctA mk fc g enc lim t a add sb ls w0 l ac m last st W) {b : Nat} (hb : ActX d sb ac b) (hlt : b < W.heap.size) : RpN fA W b := by
  rcases hb with rfl | rfl | hb
  · exact RpN.blk h.dk (fun e => Blk.ne_ h.dk h.k.fl (by decide) e) (.inl rfl)
  · exact ⟨fun e => h.mp.ne_blk h.k.fl e, fun T cs hb => absurd rfl (h.mp.ne_blk hb)⟩
  · obtain ⟨xs, ho⟩ := h.ao
    rcases ho.2 with ⟨e, _⟩ | ⟨r, cap, cur, e, _, hr, _⟩
    · rw [e] at hb
      cases hb
    · rw [e] at hb
      injection hb with hb
      subst hb
      exact RpN.blk hr (fun e => Blk.ne_ (show Blk W r _ cur from hr) h.k.fl (by decide) e) (.inr (.inr rfl))
theorem RpS.set8 {l : List (ByteArray × Value)} {m : Nat} (h : RpS q3 fb d fA nA cA AA Am cm numA syA ctA mk fc g enc lim t a add sb ls w0 l ac m last st W) (hq : w0.heap.size ≤ q3) : RpS q3 fb d fA nA cA AA Am cm numA syA ctA mk fc g enc lim t a add sb ls w0 l ac m last st (W.setCell ⟨q3 + 1, 0, none⟩ .nilIface) := by
  have hf : Fr (fun b => b = q3 + 1) W (W.setCell ⟨q3 + 1, 0, none⟩ .nilIface) := (Fr.refl _ _).set1 0 _
  exact ⟨h.k.set8, Blk.fr h.dk hf (Blk.ne_ h.dk h.k.b8 (by decide)), h.mp.fr hf (h.mp.ne_blk h.k.b8), h.ao.fr hf (fun b hb e => h.ao.ne h.k.b8 (by decide) (e ▸ hb)), h.oa, h.fr.call hf (fun b hb e => by omega)⟩
theorem RpS.bel {l : List (ByteArray × Value)} {m : Nat} (h : RpS q3 fb d fA nA cA AA Am cm numA syA ctA mk fc g enc lim t a add sb ls w0 l ac m last st W) (hb : Below W.heap.size W W') : RpS q3 fb d fA nA cA AA Am cm numA syA ctA mk fc g enc lim t a add sb ls w0 l ac m last st W' :=
  ⟨h.k.fr (S := fun _ => False) (Fr.of_below hb) (fun _ h => h.elim), Blk.below h.dk hb, h.mp.below hb, h.ao.below hb, h.oa, h.fr.bel hb⟩
/-- behind an act on the directory -/
theorem RpS.acted {l l' : List (ByteArray × Value)} {m : Nat} {last' st' : Int} (h : RpS q3 fb d fA nA cA AA Am cm numA syA ctA mk fc g enc lim t a add sb ls w0 l ac m last st W) (hq : w0.heap.size ≤ q3) (hqW : q3 ≤ W.heap.size) (hp : ActPost d sb ls ac last' st' m l' W W') : ∃ ac', RpS q3 fb d fA nA cA AA Am cm numA syA ctA mk fc g enc lim t a add sb ls w0 l' ac' (m + 1) last' st' W' := by
  obtain ⟨ac', p1, p2, p3, p4, p5⟩ := hp
  refine ⟨ac', h.k.fr p4 (fun b hb hlt => h.act hb hlt), p1, p3, p2, fun b hb => ?_, h.fr.call p4 (fun b hb hs => ?_)⟩
  · rcases p5 with e | ⟨k, e, hk⟩
    · exact h.oa b (e ▸ hb)
    · rw [e] at hb
      injection hb with hb
      omega
  · rcases hs with hs | hs | hs
    · exact .inl hs
    · exact .inr (.inl hs)
    · have := h.oa b hs
      omega
/-- behind a step that writes the disk and a new file -/
theorem RpS.stepped {l : List (ByteArray × Value)} {m f : Nat} {cs : Array Value} {st' : Int} (h : RpS q3 fb d fA nA cA AA Am cm numA syA ctA mk fc g enc lim t a add sb ls w0 l ac m last st W) (hf : Fr (fun b => b = d ∨ b = f) W W') (hT : Blk W f 66 cs) (hn : f ≠ fA) (hfw : w0.heap.size ≤ f) (hd : DkAt W' d sb ls ac last st') : RpS q3 fb d fA nA cA AA Am cm numA syA ctA mk fc g enc lim t a add sb ls w0 l ac m last st' W' := by
  refine ⟨h.k.fr hf ?_, hd, h.mp.fr hf ?_, h.ao.fr hf ?_, h.oa, h.fr.call hf ?_⟩
  · rintro b (rfl | rfl) hlt
    · exact h.act (.inl rfl) hlt
    · exact RpN.blk hT hn (.inr (.inl rfl))
  · rintro (e | e)
    · exact h.mp.ne_blk h.dk e
    · exact h.mp.ne_blk hT e
  · rintro b hb (e | e)
    · exact h.ao.ne h.dk (by decide) (e ▸ hb)
    · exact h.ao.ne hT (by decide) (e ▸ hb)
  · rintro b hb (e | e)
    · exact .inl e
    · omega
theorem RpK.facts (h : RpK q3 fb d fA nA cA AA Am cm numA syA ctA mk fc g enc lim t a add W) : W.cell? ⟨q3, 0, none⟩ = some (.pointer (some ⟨fb, 0, none⟩)) ∧ W.cell? ⟨q3 + 1 + 1, 0, none⟩ = some (.string sT) ∧ W.cell? ⟨fb, 0, none⟩ = some (.pointer (some ⟨d, 0, none⟩)) ∧ W.cell? ⟨q3 + 1, 0, none⟩ = some .nilIface ∧ W.frozen? ⟨q3 + 1, 0, none⟩ = false :=
  ⟨h.b4.cell 0, h.b9.cell 0, (h.bf.cell 0).trans h.f0, h.b8.cell 0, h.b8.frozen 0⟩
theorem fl_set {f q : Nat} {num sy ct : Int} {v u : Value} {cs : Array Value} (h : FlAt W f num v sy ct) (h8 : Blk W q 27 cs) : FlAt (W.setCell ⟨q, 0, none⟩ u) f num v sy ct := Blk.far h (p := ⟨q, 0, none⟩) (Blk.ne_ h h8 (by decide)) u
theorem row_fr {S : Nat → Prop} {B n : Nat} {v : Value} {xs : List Value} (h : W.ownsRow B 5 1 v n xs) (hf : Fr S W W') (hS : ∀ b, S b → b < W.heap.size → RpN fA W b) : W'.ownsRow B 5 1 v n xs := by
  refine ownsRow_fr h hf (fun b hb hs => ?_)
  rcases h.2 with ⟨e, _⟩ | ⟨r, cap, cur, e, _, hr, _⟩
  · rw [e] at hb
    cases hb
  · rw [e] at hb
    injection hb with hb
    subst hb
    exact (hS _ hs (Array.getElem?_eq_some_iff.1 hr).1).no (show Blk W r 5 cur from hr) (by decide)
/-- a stamp of one's own turns -/
theorem RpS.stamp {l : List (ByteArray × Value)} {m q : Nat} {cs : Array Value} (h : RpS q3 fb d fA nA cA AA Am cm numA syA ctA mk fc g enc lim t a add sb ls w0 l ac m last st W) (hf : Fr (· = q) W W') (hb : Blk W q 70 cs) (hq : w0.heap.size ≤ q) : RpS q3 fb d fA nA cA AA Am cm numA syA ctA mk fc g enc lim t a add sb ls w0 l ac m last st W' := by
  have n8 : ∀ {b : Nat} {T : TypeId} {cs' : Array Value}, Blk W b T cs' → T ≠ 70 → b ≠ q := fun hb' hT => Blk.ne_ hb' hb hT
  have hk := h.k
  refine ⟨⟨hk.b4.fr hf (n8 hk.b4 (by decide)), hk.b8.fr hf (n8 hk.b8 (by decide)), hk.b9.fr hf (n8 hk.b9 (by decide)), hk.bf.fr hf (n8 hk.bf (by decide)), hk.f0, hk.f2, Blk.fr hk.fl hf (n8 hk.fl (by decide)), hk.tx.fr hf (fun b e _ => by rw [e]; exact NoTx.blk hb (by decide)), bu8_fr hk.mb hf (fun b hu => by
    obtain ⟨cs', hu⟩ := hu
    exact n8 hu (by decide))⟩, Blk.fr h.dk hf (n8 h.dk (by decide)), h.mp.fr hf (h.mp.ne_blk hb), h.ao.fr hf (fun b hb' e => h.ao.ne hb (by decide) (e ▸ hb')), h.oa, h.fr.call hf (fun b hlt e => by omega)⟩
theorem RpS.store {l : List (ByteArray × Value)} {m : Nat} {fc2 : Array Value} (h : RpS q3 fb d fA nA cA AA Am cm numA syA ctA mk fc g enc lim t a add sb ls w0 l ac m last st W) (hf : Fr (· = fb) W W') (hb : Blk W' fb 75 fc2) (h0 : fc2[0]? = some (.pointer (some ⟨d, 0, none⟩))) (h2 : fc2[2]? = some (.slice Am mk.length cm)) : RpS q3 fb d fA nA cA AA Am cm numA syA ctA mk fc2 g enc lim t a add sb ls w0 l ac m last st W' := by
  have hk := h.k
  have n8 : ∀ {b : Nat} {T : TypeId} {cs' : Array Value}, Blk W b T cs' → T ≠ 75 → b ≠ fb := fun hb' hT => Blk.ne_ hb' hk.bf hT
  refine ⟨⟨hk.b4.fr hf (n8 hk.b4 (by decide)), hk.b8.fr hf (n8 hk.b8 (by decide)), hk.b9.fr hf (n8 hk.b9 (by decide)), hb, h0, h2, Blk.fr hk.fl hf (n8 hk.fl (by decide)), hk.tx.fr hf (fun b e _ => by rw [e]; exact NoTx.blk hk.bf (by decide)), bu8_fr hk.mb hf (fun b hu => by
    obtain ⟨cs', hu⟩ := hu
    exact n8 hu (by decide))⟩, Blk.fr h.dk hf (n8 h.dk (by decide)), h.mp.fr hf (h.mp.ne_blk hk.bf), h.ao.fr hf (fun b hb' e => h.ao.ne hk.bf (by decide) (e ▸ hb')), h.oa, h.fr.call hf (fun b hlt e => .inr (.inr e))⟩
theorem tri_alloc {w : World} {p q r : Addr} {u v z : Value} (o : Obj) (h : w.cell? p = some u ∧ w.cell? q = some v ∧ w.cell? r = some z) : (w.alloc o).cell? p = some u ∧ (w.alloc o).cell? q = some v ∧ (w.alloc o).cell? r = some z :=
  ⟨cell_keep (balloc (Below.refl _ _)) h.1, cell_keep (balloc (Below.refl _ _)) h.2.1, cell_keep (balloc (Below.refl _ _)) h.2.2⟩
theorem tri_allocd {w : World} {p q r : Addr} {u v z : Value} (o : Obj) (h : w.drew.cell? p = some u ∧ w.drew.cell? q = some v ∧ w.drew.cell? r = some z) : (w.alloc o).drew.cell? p = some u ∧ (w.alloc o).drew.cell? q = some v ∧ (w.alloc o).drew.cell? r = some z := tri_alloc (w := w) o h
theorem tri_set {w : World} {p q r x : Addr} {u v z y : Value} (h1 : p.block ≠ x.block) (h2 : q.block ≠ x.block) (h3 : r.block ≠ x.block) (h : w.cell? p = some u ∧ w.cell? q = some v ∧ w.cell? r = some z) : (w.setCell x y).cell? p = some u ∧ (w.setCell x y).cell? q = some v ∧ (w.setCell x y).cell? r = some z :=
  ⟨(World.cell?_of_block (w := w) (Below.heap_setCell w _ _ _ h1)).trans h.1, (World.cell?_of_block (w := w) (Below.heap_setCell w _ _ _ h2)).trans h.2.1, (World.cell?_of_block (w := w) (Below.heap_setCell w _ _ _ h3)).trans h.2.2⟩
theorem stamp_at {q : Nat} {u v z : Value} (h : Blk W q 70 #[u, v, z]) : (W.cell? ⟨q, 0, none⟩ = some u ∧ W.cell? ⟨q, 1, none⟩ = some v ∧ W.cell? ⟨q, 2, none⟩ = some z) ∧ W.frozen? ⟨q, 0, none⟩ = false ∧ W.frozen? ⟨q, 1, none⟩ = false ∧ W.frozen? ⟨q, 2, none⟩ = false :=
  ⟨⟨h.cell 0, h.cell 1, h.cell 2⟩, h.frozen 0, h.frozen 1, h.frozen 2⟩
end
/-- what a replacement has done -/
def RplQ (fb d sb b0 : Nat) (fc : Array Value) (ls : Value) (last st0 : Int) (bs : List Int) (w w' : World) : Prop :=
  ∃ (f : Nat) (st ct : Int) (A : Option Addr) (c : Nat) (ac : Value), w.heap.size ≤ f ∧ DkAt w' d sb ls ac (last + 1) st ∧ st0 ≤ st ∧ st ≤ st0 + bs.length + 10 ∧ MapS w' sb [(sA, .pointer (some ⟨f, 0, none⟩))] ∧ FlAt w' f (last + 1) (.slice A bs.length c) bs.length ct ∧
    w'.ownsRow b0 5 1 (.slice A bs.length c) bs.length (bs.map (Value.int .u8)) ∧ Blk w' fb 75 (((fc.setIfInBounds 6 (.int .i64 (last + 1))).setIfInBounds 7 (.int .i64 (bs.length : Int))).setIfInBounds 8 (.int .i64 ct)) ∧ Fr (fun b => b = d ∨ b = sb ∨ b = fb) w w'
set_option maxRecDepth 100000 in
set_option maxHeartbeats 8000000 in
theorem replace_any (fb d sb fA nA cA : Nat) (ls : Value) (last st0 numA syA ctA : Int) (AA Am : Option Addr) (cm : Nat) (Dm : Nat → Prop) (mk : List Int) (k0 k1 k2 t0 t1 t2 : Int)
    (g : Nat) (enc lim : Int) (t : Tr) (a : Option Addr) (add : Value) (w : World) (hbf : Blk w fb 75 (flC d Am mk.length cm k0 k1 k2 t0 t1 t2)) (hmk : Bts w Dm Am mk.length mk) (hnm : mk.length ≤ 3) (hDm : ∀ b, Dm b → b < w.heap.size → U8 w b)
    (hd : DkAt w d sb ls (.slice none 0 0) last st0) (hst : 0 ≤ st0 ∧ st0 ≤ 900000000) (hlast : 0 ≤ last ∧ last ≤ 1000000) (hm : MapS w sb [(sA, .pointer (some ⟨fA, 0, none⟩))]) (hfA : FlAt w fA numA (.slice AA nA cA) syA ctA)
    (h : TextU w g enc lim t a add) (hlen : (bytesL t.list).length ≤ 65536) (hnA : nA ≤ 65539) :
    Calls Tryz.prog 70 #[.pointer (some ⟨fb, 0, none⟩), .string sA, .pointer (some ⟨g, 0, none⟩), .pointer (some ⟨fb, 6, none⟩)] w fun e w' => e = .returned .nilIface ∧ RplQ fb d sb w.heap.size (flC d Am mk.length cm k0 k1 k2 t0 t1 t2) ls last st0 (mk ++ bytesL t.list) w w' := by
  have hbl := hbf.lt
  have hdl := Blk.lt hd
  have hcat := sA_cat
  have hsbl : sb < w.heap.size := hm.lt
  obtain ⟨q3, hq3⟩ : ∃ q, w.heap.size = q := ⟨_, rfl⟩
  obtain ⟨w1, hw1⟩ : ∃ w1, ((w.alloc (.cells #[.pointer (some ⟨fb, 0, none⟩)] 32)).alloc (.cells #[.nilIface] 27)).alloc (.cells #[.string sT] 9) = w1 := ⟨_, rfl⟩
  have hb1 : Below w.heap.size w w1 := by rw [← hw1]; exact balloc (balloc (balloc (Below.refl _ _)))
  have k4 : Blk w1 q3 32 #[.pointer (some ⟨fb, 0, none⟩)] := by rw [← hw1, ← hq3]; exact ((Blk.new w _ _).alloc _).alloc _
  have k8 : Blk w1 (q3 + 1) 27 #[.nilIface] := by
    have := Blk.new (w.alloc (.cells #[.pointer (some ⟨fb, 0, none⟩)] 32)) 27 #[.nilIface]
    rw [World.size_alloc, hq3] at this
    rw [← hw1]
    exact this.alloc _
  have k9 : Blk w1 (q3 + 1 + 1) 9 #[.string sT] := by
    have := Blk.new ((w.alloc (.cells #[.pointer (some ⟨fb, 0, none⟩)] 32)).alloc (.cells #[.nilIface] 27)) 9 #[.string sT]
    rw [World.size_alloc, World.size_alloc, hq3, hw1] at this
    exact this
  go_enter_defers Tryz.func70, Tryz.ntmps70
  have hS1 : RpS q3 fb d fA nA cA AA Am cm numA syA ctA mk (flC d Am mk.length cm k0 k1 k2 t0 t1 t2) g enc lim t a add sb ls w [(sA, .pointer (some ⟨fA, 0, none⟩))] (.slice none 0 0) 0 last st0 w1 :=
    ⟨⟨k4, k8, k9, hbf.below hb1, rfl, rfl, Blk.below hfA hb1, TextU.below h hb1, bu8_below (Reads.more hmk hDm (by decide)) hb1⟩, Blk.below hd hb1, hm.below hb1, AcOk.nil _, (fun b hb => by cases hb), Fr.of_below hb1⟩
  have hq1 : q3 ≤ w1.heap.size := by have := hb1.size; omega
  have HS1 := Lib.hid hS1
  have HW := Lib.hid (show w.heap.size = q3 ∧ fA < q3 from ⟨hq3, by have := Blk.lt hfA; omega⟩)
  obtain ⟨fc, hfc⟩ : ∃ fc, flC d Am mk.length cm k0 k1 k2 t0 t1 t2 = fc := ⟨_, rfl⟩
  obtain ⟨RS, hRS⟩ : ∃ RS : List (ByteArray × Value) → Value → Nat → Int → Int → World → Prop, RS = fun l ac m last st W => RpS q3 fb d fA nA cA AA Am cm numA syA ctA mk fc g enc lim t a add sb ls w l ac m last st W := ⟨_, rfl⟩
  have HRS : Hid (∀ l ac m last st W, RS l ac m last st W ↔ RpS q3 fb d fA nA cA AA Am cm numA syA ctA mk fc g enc lim t a add sb ls w l ac m last st W) := Lib.hid (fun l ac m last st W => by rw [hRS])
  have HFC := Lib.hid hfc
  rw [hfc] at HS1
  have HW1 := Lib.hid hw1
  have hwq : w.heap.size ≤ q3 := Nat.le_of_eq hq3
  -- Make
  obtain ⟨Q1, hQ1⟩ : ∃ Q1 : World → Prop, ∀ w', Q1 w' ↔ ∃ f ac, RS [(sA, .pointer (some ⟨fA, 0, none⟩)), (sT, .pointer (some ⟨f, 0, none⟩))] ac 1 (last + 1) (st0 + 1) w' ∧ FlAt w' f (last + 1) (.slice none 0 0) 0 0 ∧ q3 ≤ f := ⟨_, fun _ => Iff.rfl⟩
  have HQ1 := Lib.hid hQ1
  have c1 : Hid (Calls Tryz.prog 94 #[.pointer (some ⟨d, 0, none⟩), .string sT] w1.drew fun e w' => e = .returned .nilIface ∧ Q1 w') := Lib.hid (by
    have h1 := HS1.out.bel (Below.drew (Below.refl _ _))
    refine (make_any sT sT_ok d sb ls (.slice none 0 0) last st0 0 _ w1.drew h1.dk (by omega) (by omega) h1.mp (by simp) ?_ h1.ao (by decide) (fun e => by cases e)).mono ?_
    · rw [getS_cons, if_neg sT_ne]
      rfl
    · rintro e w' ⟨rfl, f, p1, p2, p3⟩
      obtain ⟨ac', hS2⟩ := h1.acted hwq (by exact hq1) p1
      refine ⟨rfl, (hQ1 _).2 ⟨f, ac', (HRS.out _ _ _ _ _ _).2 ?_, p2, Nat.le_trans hq1 p3⟩⟩
      have e : putS sT (.pointer (some ⟨f, 0, none⟩)) [(sA, .pointer (some ⟨fA, 0, none⟩))] = [(sA, .pointer (some ⟨fA, 0, none⟩)), (sT, .pointer (some ⟨f, 0, none⟩))] := by
        unfold putS
        rw [if_neg sT_ne]
        rfl
      rw [e] at hS2
      exact hS2)
  clear k4 k8 k9 hb1 hw1 hd hm hfA h hmk hDm hS1 hbf hRS hfc hQ1
  go_upto_region 3 with fail
  rw [HW1.out]
  refine wp_region_lin (fun w' => RpK q3 fb d fA nA cA AA Am cm numA syA ctA mk fc g enc lim t a add w') (fun w' => w' = w1.drew) (fun k => k == 5 || k == 6) (fun k => k == 6) (fun _ => false) (by kernel_rfl) (by kernel_rfl) (rfl) (fun w' h => by subst h; exact (HS1.out.bel (Below.drew (Below.refl _ _))).k) ?_
  repeat ((first
    | (refine wpL_read (v := ?_) (by rfl) (by rfl) (fun w6 hSw => ?_) ?_; rotate_left; (· (obtain ⟨y4, y9, yf, y8, g8⟩ := RpK.facts hSw; go_simp; try with_reducible rfl)))
    | (refine wpL_free (v := ?_) (by rfl) (fun w6 => ?_) ?_; rotate_left; (· (go_simp; try with_reducible rfl)))
    | refine wpL_not (by rfl) ?_); (try simp only [Act.put, List.setIfInBounds_toArray, List.set_cons_zero, List.set_cons_succ]))
  refine wpL_call (f := ?_) (args := ?_) (fun v w' => v = .nilIface ∧ Q1 w') (by rfl) (by rfl) (fun w6 hSw => ?_) (fun w6 hSw => ?_) (.inr (fun v6 w6 hT6 => ?_)) (fun v6 hv6 => ?_)
  rotate_left 2
  · (subst hSw; skip; go_simp; first | done | (constructor <;> with_reducible rfl) | with_reducible rfl)
  · (subst hSw; refine c1.out.mono ?_; rintro e w6 ⟨rfl, hq⟩; exact ⟨_, rfl, rfl, hq⟩)
  · (obtain ⟨f, ac, hq, -⟩ := (HQ1.out _).1 hT6.2; exact ((HRS.out _ _ _ _ _ _).1 hq).k)
  obtain ⟨wz, rfl, -⟩ := hv6
  (try simp only [Act.put, List.setIfInBounds_toArray, List.set_cons_zero, List.set_cons_succ])
  refine wpL_heavy (fun _ w'' => ∃ w', Q1 w' ∧ w'' = w'.setCell ⟨q3 + 1, 0, none⟩ .nilIface) (by rfl) (by rfl) (fun w6 hSw => ?_) (.inl (by rfl)) (fun v6 hv6 => ?_)
  · (obtain ⟨f, ac, hq, -⟩ := (HQ1.out _).1 hSw.2; obtain ⟨y4, y9, yf, y8, g8⟩ := RpK.facts ((HRS.out _ _ _ _ _ _).1 hq).k; go_simp; exact ⟨w6, hSw.2, rfl⟩)
  skip
  (try simp only [Act.put, List.setIfInBounds_toArray, List.set_cons_zero, List.set_cons_succ])
  refine wpL_nil ?_
  rintro w9 ⟨w8, hq, rfl⟩
  obtain ⟨f, ac, hq, hfT, hqf⟩ := (HQ1.out _).1 hq
  have hS2 := ((HRS.out _ _ _ _ _ _).1 hq).set8 hwq
  have hfT2 := fl_set (u := .nilIface) hfT ((HRS.out _ _ _ _ _ _).1 hq).k.b8
  obtain ⟨w2, hw2⟩ : ∃ w2, w8.setCell ⟨q3 + 1, 0, none⟩ .nilIface = w2 := ⟨_, rfl⟩
  rw [hw2] at hS2 hfT2 ⊢
  have hqw2 : q3 ≤ w2.heap.size := by have := hS2.k.b4.lt; omega
  have hffA : f ≠ fA := by have := HW.out.2; omega
  -- fill
  have c2 := fill_any fb d sb f fA nA cA ls ac (last + 1) (st0 + 1) (last + 1) 0 numA syA ctA AA fc Am mk.length cm (U8 w2) mk g enc lim t a add w2 hS2.k.bf hS2.k.f0 hS2.k.f2 hS2.k.mb hnm hS2.dk (by omega) hS2.mp hS2.k.fl hfT2 hffA hS2.k.tx hlen hnA
  have HS2 := Lib.hid hS2
  have HFT2 := Lib.hid hfT2
  have C2 := Lib.hid c2
  have HIS := Lib.hid (fun (t : TypeId) (v : Value) (w : World) => is_nil t v w)
  obtain ⟨y4, y9, yf, y8, g8⟩ := RpK.facts hS2.k
  clear hS2 hfT2 c2 hq hfT hw2 c1
  go_wp2_with fail
  refine (HIS.out _ _ _).mono ?_
  rintro e w2' ⟨rfl, rfl⟩
  go_wp2_with fail
  refine (C2.out).mono ?_
  rintro e w3 ⟨rfl, st3, ct3, A3, c3, hd3, p1, p2, hf3, p3, p4, ho3, hfr3⟩
  have hS3 := HS2.out.stepped hfr3 HFT2.out hffA (by omega) hd3
  obtain ⟨bs, hbs⟩ : ∃ bs, mk ++ bytesL t.list = bs := ⟨_, rfl⟩
  rw [hbs] at p2 p4 hf3 ho3
  have hbl2 : bs.length ≤ 65539 := by
    rw [← hbs, List.length_append]
    omega
  obtain ⟨N, hN⟩ : ∃ N, bs.length = N := ⟨_, rfl⟩
  rw [hN] at p2 p4 hf3 ho3 hbl2
  have hS4 := hS3.set8 hwq
  have hf4 := fl_set (u := .nilIface) hf3 hS3.k.b8
  have ho4 := ownsRow_setCell_other ho3 (a := ⟨q3 + 1, 0, none⟩) (own_blk_ne ho3 hS3.k.b8 (by decide)) .nilIface
  obtain ⟨y4', y9', yf', y8', g8'⟩ := RpK.facts hS3.k
  obtain ⟨w4, hw4⟩ : ∃ w4, w3.setCell ⟨q3 + 1, 0, none⟩ .nilIface = w4 := ⟨_, rfl⟩
  rw [hw4] at hS4 hf4 ho4
  have HW4 := Lib.hid hw4
  have HBS := Lib.hid (show mk ++ bytesL t.list = bs ∧ bs.length = N from ⟨hbs, hN⟩)
  obtain ⟨dir, hdir⟩ : ∃ dir : List (ByteArray × Value), [(sA, .pointer (some ⟨fA, 0, none⟩)), (sT, .pointer (some ⟨f, 0, none⟩))] = dir := ⟨_, rfl⟩
  have hget : getS dir sT = some (.pointer (some ⟨f, 0, none⟩)) := by rw [← hdir, getS_cons, if_neg sT_ne, getS_cons, if_pos rfl]
  rw [hdir] at hS4
  -- Sync
  obtain ⟨Q2, hQ2⟩ : ∃ Q2 : World → Prop, ∀ w', Q2 w' ↔ RS dir ac 1 (last + 1) (st3 + 1) w' ∧ FlAt w' f (last + 1) (.slice A3 N c3) N ct3 ∧ w'.ownsRow w2.heap.size 5 1 (.slice A3 N c3) N (bs.map (Value.int .u8)) := ⟨_, fun _ => Iff.rfl⟩
  have HQ2 := Lib.hid hQ2
  have c4 : Hid (Calls Tryz.prog 96 #[.pointer (some ⟨d, 0, none⟩), .string sT] w4.drew fun e w' => e = .returned .nilIface ∧ Q2 w') := Lib.hid (by
    have h1 := hS4.bel (Below.drew (Below.refl _ _))
    have hf4' := Blk.below hf4 (Below.drew (Below.refl _ _))
    refine (dsync_any sT sT_ok d sb f ls ac (last + 1) st3 (last + 1) 0 ct3 A3 N c3 dir w4.drew h1.dk (by omega) h1.mp hget hf4').mono ?_
    rintro e w' ⟨rfl, r1, r2, r3⟩
    have h2 := h1.stepped r3 hf4' hffA (by omega) r1
    refine ⟨rfl, (hQ2 _).2 ⟨(HRS.out _ _ _ _ _ _).2 h2, r2, row_fr (fA := fA) (ownsRow_below ho4 (Below.drew (Below.refl _ _))) r3 ?_⟩⟩
    rintro b (rfl | rfl) hlt
    · exact h1.act (.inl rfl) hlt
    · exact RpN.blk hf4' hffA (.inr (.inl rfl)))
  have HS4 := Lib.hid hS4
  clear hS3 hf3 ho3 hd3 hfr3 hS4 hf4 ho4 y4 y9 yf y8 g8 hQ2 hbs hN C2 HFT2 hw4
  go_upto_region 13 with fail
  rw [HW4.out]
  refine wp_region_lin (fun w' => RpK q3 fb d fA nA cA AA Am cm numA syA ctA mk fc g enc lim t a add w') (fun w' => w' = w4.drew) (fun k => k == 5 || k == 6) (fun k => k == 6) (fun _ => false) (by kernel_rfl) (by kernel_rfl) (rfl) (fun w' h => by subst h; exact (HS4.out.bel (Below.drew (Below.refl _ _))).k) ?_
  repeat ((first
    | (refine wpL_read (v := ?_) (by rfl) (by rfl) (fun w6 hSw => ?_) ?_; rotate_left; (· (obtain ⟨y4, y9, yf, y8, g8⟩ := RpK.facts hSw; go_simp; try with_reducible rfl)))
    | (refine wpL_free (v := ?_) (by rfl) (fun w6 => ?_) ?_; rotate_left; (· (go_simp; try with_reducible rfl)))
    | refine wpL_not (by rfl) ?_); (try simp only [Act.put, List.setIfInBounds_toArray, List.set_cons_zero, List.set_cons_succ]))
  refine wpL_call (f := ?_) (args := ?_) (fun v w' => v = .nilIface ∧ Q2 w') (by rfl) (by rfl) (fun w6 hSw => ?_) (fun w6 hSw => ?_) (.inr (fun v6 w6 hT6 => ?_)) (fun v6 hv6 => ?_)
  rotate_left 2
  · (subst hSw; skip; go_simp; first | done | (constructor <;> with_reducible rfl) | with_reducible rfl)
  · (subst hSw; refine c4.out.mono ?_; rintro e w6 ⟨rfl, hq⟩; exact ⟨_, rfl, rfl, hq⟩)
  · (exact ((HRS.out _ _ _ _ _ _).1 ((HQ2.out _).1 hT6.2).1).k)
  obtain ⟨wz, rfl, -⟩ := hv6
  (try simp only [Act.put, List.setIfInBounds_toArray, List.set_cons_zero, List.set_cons_succ])
  refine wpL_heavy (fun _ w'' => ∃ w', Q2 w' ∧ w'' = w'.setCell ⟨q3 + 1, 0, none⟩ .nilIface) (by rfl) (by rfl) (fun w6 hSw => ?_) (.inl (by rfl)) (fun v6 hv6 => ?_)
  · (obtain ⟨y4, y9, yf, y8, g8⟩ := RpK.facts ((HRS.out _ _ _ _ _ _).1 ((HQ2.out _).1 hSw.2).1).k; go_simp; exact ⟨w6, hSw.2, rfl⟩)
  skip
  (try simp only [Act.put, List.setIfInBounds_toArray, List.set_cons_zero, List.set_cons_succ])
  refine wpL_nil ?_
  rintro w9 ⟨w5, hq5, rfl⟩
  obtain ⟨hr5, hf5, ho5⟩ := (HQ2.out _).1 hq5
  have hS5 := (HRS.out _ _ _ _ _ _).1 hr5
  have hS6 := hS5.set8 hwq
  have hf6 := fl_set (u := .nilIface) hf5 hS5.k.b8
  have ho6 := ownsRow_setCell_other ho5 (a := ⟨q3 + 1, 0, none⟩) (own_blk_ne ho5 hS5.k.b8 (by decide)) .nilIface
  obtain ⟨w6, hw6⟩ : ∃ w6, w5.setCell ⟨q3 + 1, 0, none⟩ .nilIface = w6 := ⟨_, rfl⟩
  rw [hw6] at hS6 hf6 ho6 ⊢
  -- Stamp
  have c6 : Hid (∀ wx, Below w6.heap.size w6 wx → Calls Tryz.prog 25 #[.pointer (some ⟨d, 0, none⟩), .string sT] wx fun e w' => e = .returned (.tuple #[.agg #[.int .i64 (last + 1), .int .i64 (N : Int), .int .i64 ct3], .nilIface]) ∧ RS dir ac 1 (last + 1) (st3 + 1 + 1) w' ∧ Fr (· = d) wx w') := Lib.hid (by
    intro wx hb
    have h1 := hS6.bel hb
    refine (stamp_any sT sT_ok d sb f ls ac (last + 1) (st3 + 1) (last + 1) N ct3 A3 N c3 dir wx h1.dk (by omega) h1.mp hget (Blk.below hf6 hb)).mono ?_
    rintro e w' ⟨rfl, r1, r2⟩
    exact ⟨rfl, (HRS.out _ _ _ _ _ _).2 (h1.stepped (r2.more (fun b _ e => .inl e)) (Blk.below hf6 hb) hffA (by omega) r1), r2⟩)
  have HS6 := Lib.hid hS6
  have HF6 := Lib.hid hf6
  have HO6 := Lib.hid ho6
  have hs6 := RpK.facts hS6.k
  obtain ⟨y4, y9, yf, y8, g8⟩ := RpK.facts hS6.k
  clear hr5 hf5 ho5 hS5 hS6 hf6 ho6 hq5 hv6 c4 HQ2 hs6 hw6
  have hsz6 : q3 + 1 + 1 < w6.heap.size ∧ fb < w6.heap.size ∧ d < w6.heap.size := ⟨HS6.out.k.b9.lt, HS6.out.k.bf.lt, Blk.lt HS6.out.dk⟩
  go_upto_region 16 with fail
  go_cut [10] from 56 to 64 (fun s10 wx => ∃ q10, s10 = .pointer (some ⟨q10, 0, none⟩) ∧ w6.heap.size ≤ q10 ∧ Blk wx q10 70 #[.int .i64 (last + 1), .int .i64 (N : Int), .int .i64 ct3] ∧ RS dir ac 1 (last + 1) (st3 + 1 + 1) wx ∧ Fr (fun b => b = d ∨ b = q3 + 1) w6 wx)
  case first =>
    have s0 : w6.drew.cell? ⟨q3, 0, none⟩ = some (.pointer (some ⟨fb, 0, none⟩)) ∧ w6.drew.cell? ⟨q3 + 1 + 1, 0, none⟩ = some (.string sT) ∧ w6.drew.cell? ⟨fb, 0, none⟩ = some (.pointer (some ⟨d, 0, none⟩)) := ⟨y4, y9, yf⟩
    clear y4' y9' yf' y8' g8'
    go_region_held3 (fun w' => w'.cell? ⟨q3, 0, none⟩ = some (.pointer (some ⟨fb, 0, none⟩)) ∧ w'.cell? ⟨q3 + 1 + 1, 0, none⟩ = some (.string sT) ∧ w'.cell? ⟨fb, 0, none⟩ = some (.pointer (some ⟨d, 0, none⟩))) (repeat (first | (with_reducible assumption) | (with_reducible refine tri_set (by dsimp only; omega) (by dsimp only; omega) (by dsimp only; omega) ?_) | (with_reducible refine tri_alloc _ ?_) | (with_reducible refine tri_allocd _ ?_))) (first | (go_at_call 25; (with_reducible refine (c6.out w6.drew (Below.drew (Below.refl _ _))).mono ?_); rintro e wa ⟨rfl, hra, hfa⟩; have hza : w6.heap.size ≤ wa.heap.size := hfa.size; have hq8 : q3 + 1 < wa.heap.size := (by omega); have hq8n : q3 + 1 ≠ wa.heap.size := (by omega); have hq8f : (q3 + 1 = wa.heap.size) = False := (by simp; omega); obtain ⟨a4, a9, af, a8, ag8⟩ := RpK.facts ((HRS.out _ _ _ _ _ _).1 hra).k; have s3 := And.intro a4 (And.intro a9 af)) | (go_at_call 25; (with_reducible refine (c6.out (w6.alloc (.cells #[.int .i64 0, .int .i64 0, .int .i64 0] 70)).drew (Below.drew (balloc (Below.refl _ _)))).mono ?_); rintro e wa ⟨rfl, hra, hfa⟩; have hza : w6.heap.size + 1 ≤ wa.heap.size := (by have := hfa.size; simpa using this); have hq8 : q3 + 1 < w6.heap.size := (by omega); have hq8n : q3 + 1 ≠ w6.heap.size := (by omega); have hq8f : (q3 + 1 = w6.heap.size) = False := (by simp; omega); have hbz : Blk wa w6.heap.size 70 #[.int .i64 0, .int .i64 0, .int .i64 0] := ((Blk.new w6 _ _).drew).fr hfa (by omega); obtain ⟨⟨z0, z1, z2⟩, v0, v1, v2⟩ := stamp_at hbz; obtain ⟨a4, a9, af, a8, ag8⟩ := RpK.facts ((HRS.out _ _ _ _ _ _).1 hra).k; have s3 := And.intro a4 (And.intro a9 af)))
    · go_wp2_with fail
      go_meet
      refine ⟨wa.heap.size, rfl, hza, Blk.newAt (by simp), (HRS.out _ _ _ _ _ _).2 ((((HRS.out _ _ _ _ _ _).1 hra).set8 hwq).bel (balloc (Below.refl _ _))), ?_⟩
      exact ((((Fr.of_below (Below.drew (Below.refl _ _))).call hfa (fun b _ e => .inl e)).setCell (.inl (.inr rfl)) _).bel (balloc (Below.refl _ _)))
    · go_wp2_with fail
      go_meet
      have hsn : w.heap.size ≤ w6.heap.size := by omega
      have hR1 := (((HRS.out _ _ _ _ _ _).1 hra).stamp ((((Fr.refl _ _).set1 0 (.int .i64 (last + 1))).set1 1 (.int .i64 (N : Int))).set1 2 (.int .i64 ct3)) hbz hsn).set8 hwq
      refine ⟨w6.heap.size, rfl, Nat.le_refl _, ?_, (HRS.out _ _ _ _ _ _).2 hR1, ?_⟩
      · exact Blk.far (((hbz.set_ 0 _).set_ 1 _).set_ 2 _) (by dsimp only; omega) _
      · refine Fr.setCell ?_ (.inl (.inr rfl)) _
        refine Fr.setCell (Fr.setCell (Fr.setCell ?_ (.inr (Nat.le_refl _)) _) (.inr (Nat.le_refl _)) _) (.inr (Nat.le_refl _)) _
        exact (Fr.of_below (Below.drew (balloc (Below.refl _ _)))).call hfa (fun b _ e => .inl e)
  case rest =>
    obtain ⟨q10, rfl, hq10, hb10, hr7, hfr7⟩ := hcut
    have hS7 := (HRS.out _ _ _ _ _ _).1 hr7
    have hf7 := Blk.fr HF6.out hfr7 (by
      rintro (e | e)
      · exact Blk.ne_ HF6.out HS6.out.dk (by decide) e
      · exact Blk.ne_ HF6.out HS6.out.k.b8 (by decide) e)
    have ho7 := ownsRow_fr HO6.out hfr7 (fun b hb hs => by
      rcases hs with rfl | rfl
      · exact own_blk_ne HO6.out HS6.out.dk (by decide) hb
      · exact own_blk_ne HO6.out HS6.out.k.b8 (by decide) hb)
    have hbf7 := hS7.k.bf
    have hz : fc.size = 9 := by rw [← HFC.out]; rfl
    obtain ⟨fc2, hfc2⟩ : ∃ fc2, ((fc.setIfInBounds 6 (.int .i64 (last + 1))).setIfInBounds 7 (.int .i64 (N : Int))).setIfInBounds 8 (.int .i64 ct3) = fc2 := ⟨_, rfl⟩
    obtain ⟨w8, hw8⟩ : ∃ w8, ((wc.setCell ⟨fb, 6, none⟩ (.int .i64 (last + 1))).setCell ⟨fb, 7, none⟩ (.int .i64 (N : Int))).setCell ⟨fb, 8, none⟩ (.int .i64 ct3) = w8 := ⟨_, rfl⟩
    have hbf8 : Blk w8 fb 75 fc2 := by rw [← hw8, ← hfc2]; exact ((hbf7.set_ 6 _).set_ 7 _).set_ 8 _
    have hfr8 : Fr (· = fb) wc w8 := by rw [← hw8]; exact (((Fr.refl _ _).set1 6 _).set1 7 _).set1 8 _
    have hS8 := hS7.store hfr8 hbf8 (by rw [← hfc2, ← HFC.out]; rfl) (by rw [← hfc2, ← HFC.out]; rfl)
    have hf8 := Blk.fr hf7 hfr8 (Blk.ne_ hf7 hbf7 (by decide))
    have ho8 := ownsRow_fr ho7 hfr8 (fun b hb e => own_blk_ne ho7 hbf7 (by decide) (e ▸ hb))
    obtain ⟨y4, y9, yf, y8, g8⟩ := RpK.facts hS7.k
    obtain ⟨⟨z0, z1, z2⟩, v0, v1, v2⟩ := stamp_at hb10
    have x6 : wc.cell? ⟨fb, 6, none⟩ = some (.int .i64 t0) := by rw [hbf7.cell 6, ← HFC.out]; rfl
    have x7 : wc.cell? ⟨fb, 7, none⟩ = some (.int .i64 t1) := by rw [hbf7.cell 7, ← HFC.out]; rfl
    have x8 : wc.cell? ⟨fb, 8, none⟩ = some (.int .i64 t2) := by rw [hbf7.cell 8, ← HFC.out]; rfl
    have u6 := hbf7.frozen 6
    have u7 := hbf7.frozen 7
    have u8 := hbf7.frozen 8
    obtain ⟨Q3, hQ3⟩ : ∃ Q3 : World → Prop, ∀ w', Q3 w' ↔ ∃ ac', RpS q3 fb d fA nA cA AA Am cm numA syA ctA mk fc2 g enc lim t a add sb ls w [(sA, .pointer (some ⟨f, 0, none⟩))] ac' 2 (last + 1) (st3 + 1 + 1 + 1) w' ∧ FlAt w' f (last + 1) (.slice A3 N c3) N ct3 ∧ w'.ownsRow w2.heap.size 5 1 (.slice A3 N c3) N (bs.map (Value.int .u8)) := ⟨_, fun _ => Iff.rfl⟩
    have HQ3 := Lib.hid hQ3
    have c8 : Hid (Calls Tryz.prog 97 #[.pointer (some ⟨d, 0, none⟩), .string sT, .string sA] w8.drew fun e w' => e = .returned .nilIface ∧ Q3 w') := Lib.hid (by
      have h1 := hS8.bel (Below.drew (Below.refl _ _))
      have hf8' := Blk.below hf8 (Below.drew (Below.refl _ _))
      have ho8' := ownsRow_below ho8 (Below.drew (Below.refl _ _))
      refine (rename_any sT sA sT_ok sA_ok (by rw [ByteArray.toList_eq, ByteArray.toList_eq]; rfl) d sb f ls ac (last + 1) (st3 + 1 + 1) 1 dir w8.drew h1.dk (by omega) h1.mp hget h1.ao (by decide) ?_).mono ?_
      · intro e
        have := h1.oa sb e
        omega
      · rintro e w' ⟨rfl, hp⟩
        obtain ⟨ac', hS9⟩ := h1.acted hwq (Nat.le_of_lt h1.k.b4.lt) hp
        obtain ⟨-, -, -, -, g4, -⟩ := hp
        have e : putS sA (.pointer (some ⟨f, 0, none⟩)) (delS sT dir) = [(sA, .pointer (some ⟨f, 0, none⟩))] := by rw [← hdir]; rfl
        rw [e] at hS9
        refine ⟨rfl, (hQ3 _).2 ⟨ac', hS9, Blk.fr hf8' g4 ?_, row_fr (fA := fA) ho8' g4 (fun b hb hlt => h1.act hb hlt)⟩⟩
        rintro (e | e | e)
        · exact Blk.ne_ hf8' h1.dk (by decide) e
        · exact h1.mp.ne_blk hf8' e.symm
        · exact h1.ao.ne hf8' (by decide) e)
    have hk8 := (hS8.bel (Below.drew (Below.refl _ _))).k
    clear hr7 hS7 hf7 ho7 hS8 hf8 ho8 hfr7 hbf7 hQ3
    have HW8 := Lib.hid hw8
    have HS8 := Lib.hid hk8
    have HFC2 := Lib.hid hfc2
    clear hw8 hk8 hfc2
    go_upto_region 20 with fail
    rw [HW8.out]
    refine wp_region_lin (fun w' => RpK q3 fb d fA nA cA AA Am cm numA syA ctA mk fc2 g enc lim t a add w') (fun w' => w' = w8.drew) (fun k => k == 6 || k == 7) (fun k => k == 7) (fun _ => false) (by kernel_rfl) (by kernel_rfl) (rfl) (fun w' h => by subst h; exact HS8.out) ?_
    repeat ((first
      | (refine wpL_read (v := ?_) (by rfl) (by rfl) (fun w6 hSw => ?_) ?_; rotate_left; (· (obtain ⟨y4, y9, yf, y8, g8⟩ := RpK.facts hSw; go_simp; try with_reducible rfl)))
      | (refine wpL_free (v := ?_) (by rfl) (fun w6 => ?_) ?_; rotate_left; (· (go_simp; try with_reducible rfl)))
      | refine wpL_not (by rfl) ?_); (try simp only [Act.put, List.setIfInBounds_toArray, List.set_cons_zero, List.set_cons_succ]))
    refine wpL_call (f := ?_) (args := ?_) (fun v w' => v = .nilIface ∧ Q3 w') (by rfl) (by rfl) (fun w6 hSw => ?_) (fun w6 hSw => ?_) (.inr (fun v6 w6 hT6 => ?_)) (fun v6 hv6 => ?_)
    rotate_left 2
    · (subst hSw; skip; go_simp; first | done | (constructor <;> with_reducible rfl) | with_reducible rfl)
    · (subst hSw; refine c8.out.mono ?_; rintro e w6 ⟨rfl, hq⟩; exact ⟨_, rfl, rfl, hq⟩)
    · (obtain ⟨ac', hq, -⟩ := (HQ3.out _).1 hT6.2; exact hq.k)
    obtain ⟨wz, rfl, -⟩ := hv6
    (try simp only [Act.put, List.setIfInBounds_toArray, List.set_cons_zero, List.set_cons_succ])
    refine wpL_heavy (fun _ w'' => ∃ w', Q3 w' ∧ w'' = w'.setCell ⟨q3 + 1, 0, none⟩ .nilIface) (by rfl) (by rfl) (fun w6 hSw => ?_) (.inl (by rfl)) (fun v6 hv6 => ?_)
    · (obtain ⟨ac', hq, -⟩ := (HQ3.out _).1 hSw.2; obtain ⟨y4, y9, yf, y8, g8⟩ := RpK.facts hq.k; go_simp; exact ⟨w6, hSw.2, rfl⟩)
    skip
    (try simp only [Act.put, List.setIfInBounds_toArray, List.set_cons_zero, List.set_cons_succ])
    refine wpL_nil ?_
    rintro w9 ⟨wr, hq9, rfl⟩
    obtain ⟨ac', hS9, hf9, ho9⟩ := (HQ3.out _).1 hq9
    have h89 := hS9.k.b8.cell 0
    have hS10 := hS9.set8 hwq
    have hf10 := fl_set (u := .nilIface) hf9 hS9.k.b8
    have ho10 := ownsRow_setCell_other ho9 (a := ⟨q3 + 1, 0, none⟩) (own_blk_ne ho9 hS9.k.b8 (by decide)) .nilIface
    clear hq9
    go_wp2_with fail
    refine leaves_cons (f := 92) (args := #[.pointer (some ⟨q3 + 1, 0, none⟩), .pointer (some ⟨q3, 0, none⟩), .pointer (some ⟨q3 + 1 + 1, 0, none⟩)]) (by simp) (by simp [go_sem]) ?_
    refine (rm_any (q3 + 1) q3 (q3 + 1 + 1) .returning _ hS10.k.b8).mono ?_
    rintro e u' w'' ⟨rfl, rfl, rfl⟩
    have c10 := hS10.k.b8.cell 0
    simp at c10
    simp only [Leaves, settle]
    refine ⟨_, ?_, rfl, f, st3 + 1 + 1 + 1, ct3, A3, c3, ac', ?_, hS10.dk, ?_, ?_, hS10.mp, ?_⟩
    · simp [results, Tryz.results70, go_sem, c10]
    · omega
    · omega
    · rw [HBS.out.1, HBS.out.2]
      omega
    · rw [HBS.out.1, HBS.out.2, HFC.out, HFC2.out]
      exact ⟨hf10, own_lower ho10 (by omega), hS10.k.bf, hS10.fr⟩
end Go.Proofs.YtflhiohjikgedaaGreatDoor
namespace Go.Proofs.YtflhiohjikgedaaGreatDoor
open Go.RowKit

/-- what a save has done -/
def WrQ (fb d sb b0 : Nat) (last st0 : Int) (bs : List Int) (w w' : World) : Prop :=
  ∃ (f : Nat) (st ct : Int) (A : Option Addr) (c lb : Nat), w.heap.size ≤ f ∧ DkAt w' d sb (.map (some lb)) (.slice none 0 0) (last + 1) st ∧ st0 ≤ st ∧ st ≤ st0 + bs.length + 20 ∧ MapS w' sb [(sA, .pointer (some ⟨f, 0, none⟩))] ∧ FlAt w' f (last + 1) (.slice A bs.length c) bs.length ct ∧
    w'.ownsRow b0 5 1 (.slice A bs.length c) bs.length (bs.map (Value.int .u8)) ∧ Fr (fun b => b = d ∨ b = sb ∨ b = fb) w w'
set_option maxRecDepth 100000 in
set_option maxHeartbeats 8000000 in
theorem write_any (fb d sb fA nA cA : Nat) (ls : Value) (last st0 numA syA ctA : Int) (AA Am : Option Addr) (cm : Nat) (Dm : Nat → Prop) (mk : List Int) (k0 k1 k2 t0 t1 t2 : Int)
    (g : Nat) (enc lim : Int) (t : Tr) (a : Option Addr) (add : Value) (w : World) (hbf : Blk w fb 75 (flC d Am mk.length cm k0 k1 k2 t0 t1 t2)) (hmk : Bts w Dm Am mk.length mk) (hnm : mk.length ≤ 3) (hDm : ∀ b, Dm b → b < w.heap.size → U8 w b)
    (hd : DkAt w d sb ls (.slice none 0 0) last st0) (hst : 0 ≤ st0 ∧ st0 ≤ 900000000) (hlast : 0 ≤ last ∧ last ≤ 1000000) (hm : MapS w sb [(sA, .pointer (some ⟨fA, 0, none⟩))]) (hfA : FlAt w fA numA (.slice AA nA cA) syA ctA)
    (h : TextU w g enc lim t a add) (hlen : (bytesL t.list).length ≤ 65536) (hnA : nA ≤ 65539) :
    Calls Tryz.prog 39 #[.pointer (some ⟨fb, 0, none⟩), .string sA, .pointer (some ⟨g, 0, none⟩), .pointer (some ⟨fb, 6, none⟩), .pointer (some ⟨fb, 3, none⟩)] w fun e w' => e = .returned .nilIface ∧ WrQ fb d sb w.heap.size last st0 (mk ++ bytesL t.list) w w' := by
  have HR := Lib.hid (replace_any fb d sb fA nA cA ls last st0 numA syA ctA AA Am cm Dm mk k0 k1 k2 t0 t1 t2 g enc lim t a add w hbf hmk hnm hDm hd hst hlast hm hfA h hlen hnA)
  have hBN : (mk ++ bytesL t.list).length ≤ 65539 := by rw [List.length_append]; omega
  clear hbf hmk hd hm hfA h
  obtain ⟨bs, hbs⟩ : ∃ bs, mk ++ bytesL t.list = bs := ⟨_, rfl⟩
  rw [hbs] at HR hBN ⊢
  go_enter Tryz.func39, Tryz.ntmps39
  go_wp2_with fail
  refine (HR.out).mono ?_
  rintro e w1 ⟨rfl, f, st, ct, A, c, ac, hfl, hd1, p1, p2, hm1, hf1, ho1, hb1, hfr1⟩
  simp [flC] at hb1
  have x0 := hb1.cell 0
  have x3 := hb1.cell 3
  have x4 := hb1.cell 4
  have x5 := hb1.cell 5
  have x6 := hb1.cell 6
  have x7 := hb1.cell 7
  have x8 := hb1.cell 8
  have u3 := hb1.frozen 3
  have u4 := hb1.frozen 4
  have u5 := hb1.frozen 5
  simp at x0 x3 x4 x5 x6 x7 x8
  obtain ⟨w2, hw2⟩ : ∃ w2, ((w1.setCell ⟨fb, 3, none⟩ (.int .i64 (last + 1))).setCell ⟨fb, 4, none⟩ (.int .i64 (bs.length : Int))).setCell ⟨fb, 5, none⟩ (.int .i64 ct) = w2 := ⟨_, rfl⟩
  have hfr2 : Fr (· = fb) w1 w2 := by rw [← hw2]; exact (((Fr.refl _ _).set1 3 _).set1 4 _).set1 5 _
  have nd : d ≠ fb := Blk.ne_ hd1 hb1 (by decide)
  have hd2 := Blk.fr hd1 hfr2 nd
  have hm2 := hm1.fr hfr2 (hm1.ne_blk hb1)
  have hf2 := Blk.fr hf1 hfr2 (Blk.ne_ hf1 hb1 (by decide))
  have ho2 := ownsRow_fr ho1 hfr2 (fun b hb e => own_blk_ne ho1 hb1 (by decide) (e ▸ hb))
  have hF2 := hfr1.call hfr2 (fun b _ e => .inr (.inr e))
  have HS := Lib.hid (syncDir_any d sb ls ac (last + 1) st _ w2 hd2 (by omega) hm2)
  have HP := Lib.hid (And.intro hm2 (And.intro hf2 (And.intro ho2 (And.intro hF2 (And.intro hfl hd2)))))
  have HW := Lib.hid hw2
  clear hw2 hb1 hd1 hm1 hf1 ho1 hfr1 hfr2 hd2 hm2 hf2 ho2 hF2
  go_wp2_with fail
  rw [HW.out]
  refine (HS.out).mono ?_
  rintro e w3 ⟨rfl, ⟨lb, hd3⟩, hfr3⟩
  go_wp2_with fail
  go_ret
  obtain ⟨g1, g2, g3, g4, g5, g6⟩ := HP.out
  refine ⟨rfl, f, st + 1, ct, A, c, lb, g5, hd3, by omega, by omega, g1.fr hfr3 (g1.ne_blk g6), Blk.fr g2 hfr3 (Blk.ne_ g2 g6 (by decide)), ownsRow_fr g3 hfr3 (fun b hb e => own_blk_ne g3 g6 (by decide) (e ▸ hb)), g4.call hfr3 (fun b _ e => .inl e)⟩
set_option maxRecDepth 100000 in
theorem st_arr (xs ys : Array Value) (w : World) : (Op.equalIn 10000 70 (.agg xs) (.agg ys)).run Tryz.prog w = (Op.eqItems 9999 3 1 xs ys [0, 1, 2]).run Tryz.prog w := by
  have h := run_equalIn_array (P := Tryz.prog) w 9999 xs ys Tryz.underlying70 Tryz.type3
  have e : Tryz.prog.cellsOf 3 = 1 := by
    have h3 : Tryz.prog.info? 3 = _ := Tryz.type3
    unfold Program.cellsOf
    rw [h3]
    rfl
  rw [e] at h
  exact h
theorem st_ne (n c : Int) (w : World) : (binOp BinOp.eql 70 (.agg #[.int .i64 1, .int .i64 n, .int .i64 c]) (.agg #[.int .i64 0, .int .i64 0, .int .i64 0])).run Tryz.prog w = .ok (.bool false) w := by
  rw [run_eql_struct, st_arr]
  simp [Op.eqItems, go_sem]
theorem st_same (n : Int) (w : World) : (binOp BinOp.neq 70 (.agg #[.int .i64 1, .int .i64 n, .int .i64 1]) (.agg #[.int .i64 1, .int .i64 n, .int .i64 1])).run Tryz.prog w = .ok (.bool false) w := by
  rw [run_neq_struct, st_arr]
  simp [Op.eqItems, go_sem]
theorem bel_drewN {N : Nat} {w w' : World} (h : Below N w w') (n : Nat) : Below N w (w'.drewN n) := ⟨h.os, h.tape, h.output, h.size, h.block⟩
theorem flC_cells {w : World} {fb d nm cm : Nat} {Am : Option Addr} {k0 k1 k2 t0 t1 t2 : Int} (h : Blk w fb 75 (flC d Am nm cm k0 k1 k2 t0 t1 t2)) :
    w.cell? ⟨fb, 0, none⟩ = some (.pointer (some ⟨d, 0, none⟩)) ∧ w.cell? ⟨fb, 1, none⟩ = some (.string sA) ∧ w.cell? ⟨fb, 3, none⟩ = some (.int .i64 k0) ∧ w.cell? ⟨fb, 4, none⟩ = some (.int .i64 k1) ∧ w.cell? ⟨fb, 5, none⟩ = some (.int .i64 k2) ∧ w.cell? ⟨fb, 6, none⟩ = some (.int .i64 t0) ∧ w.cell? ⟨fb, 7, none⟩ = some (.int .i64 t1) ∧ w.cell? ⟨fb, 8, none⟩ = some (.int .i64 t2) :=
  ⟨h.cell 0, h.cell 1, h.cell 3, h.cell 4, h.cell 5, h.cell 6, h.cell 7, h.cell 8⟩
set_option maxRecDepth 100000 in
set_option maxHeartbeats 8000000 in
theorem save_any (fb d sb fA nA cA : Nat) (ls : Value) (last st0 syA : Int) (AA Am : Option Addr) (cm : Nat) (Dm : Nat → Prop) (mk : List Int)
    (g : Nat) (enc lim : Int) (t : Tr) (a : Option Addr) (add : Value) (w : World) (hbf : Blk w fb 75 (flC d Am mk.length cm 1 nA 1 0 0 0)) (hmk : Bts w Dm Am mk.length mk) (hnm : mk.length ≤ 3) (hDm : ∀ b, Dm b → b < w.heap.size → U8 w b)
    (hd : DkAt w d sb ls (.slice none 0 0) last st0) (hst : 0 ≤ st0 ∧ st0 ≤ 800000000) (hlast : 0 ≤ last ∧ last ≤ 1000000) (hm : MapS w sb [(sA, .pointer (some ⟨fA, 0, none⟩))]) (hfA : FlAt w fA 1 (.slice AA nA cA) syA 1)
    (h : TextU w g enc lim t a add) (hlen : (bytesL t.list).length ≤ 65536) (hnA : nA ≤ 65539) :
    Calls Tryz.prog 14 #[.pointer (some ⟨fb, 0, none⟩), .pointer (some ⟨g, 0, none⟩), .bool false] w fun e w' => e = .returned (.int .i64 0) ∧ WrQ fb d sb w.heap.size last (st0 + 1) (mk ++ bytesL t.list) w w' := by
  have hbl := hbf.lt
  have hdl := Blk.lt hd
  have nfd : fb ≠ d := Blk.ne_ hbf hd (by decide)
  obtain ⟨x0, x1, -⟩ := flC_cells hbf
  have c6 : Hid (∀ wx, Below w.heap.size w wx → Calls Tryz.prog 25 #[.pointer (some ⟨d, 0, none⟩), .string sA] wx fun e w' => e = .returned (.tuple #[.agg #[.int .i64 1, .int .i64 (nA : Int), .int .i64 1], .nilIface]) ∧ DkAt w' d sb ls (.slice none 0 0) last (st0 + 1) ∧ Fr (· = d) wx w') := Lib.hid (fun wx hb =>
    stamp_any sA sA_ok d sb fA ls (.slice none 0 0) last st0 1 syA 1 AA nA cA _ wx (Blk.below hd hb) (by omega) (hm.below hb) (by rw [getS_cons, if_pos rfl]) (Blk.below hfA hb))
  have HH := Lib.hid (And.intro hbf (And.intro hmk (And.intro hDm (And.intro hd (And.intro hm (And.intro hfA h))))))
  clear hbf hmk hDm hd hm hfA h
  go_enter Tryz.func14, Tryz.ntmps14
  go_upto_region 1 with fail
  go_cut [7, 8] from 9 to 20 (fun s7 s8 wx => ∃ q7, s7 = .pointer (some ⟨q7, 0, none⟩) ∧ s8 = .nilIface ∧ w.heap.size ≤ q7 ∧ Blk wx q7 70 #[.int .i64 1, .int .i64 (nA : Int), .int .i64 1] ∧ DkAt wx d sb ls (.slice none 0 0) last (st0 + 1) ∧ Fr (· = d) w wx)
  case first =>
    have s0 : w.drew.cell? ⟨fb, 0, none⟩ = some (.pointer (some ⟨d, 0, none⟩)) ∧ w.drew.cell? ⟨fb, 1, none⟩ = some (.string sA) ∧ w.drew.cell? ⟨fb, 0, none⟩ = some (.pointer (some ⟨d, 0, none⟩)) := ⟨x0, x1, x0⟩
    go_region_held3 (fun w' => w'.cell? ⟨fb, 0, none⟩ = some (.pointer (some ⟨d, 0, none⟩)) ∧ w'.cell? ⟨fb, 1, none⟩ = some (.string sA) ∧ w'.cell? ⟨fb, 0, none⟩ = some (.pointer (some ⟨d, 0, none⟩))) (repeat (first | (with_reducible assumption) | (with_reducible refine tri_set (by dsimp only; omega) (by dsimp only; omega) (by dsimp only; omega) ?_) | (with_reducible refine tri_alloc _ ?_) | (with_reducible refine tri_allocd _ ?_))) (first | (go_at_call 25; (with_reducible refine (c6.out w.drew (Below.drew (Below.refl _ _))).mono ?_); rintro e wa ⟨rfl, hda, hfa⟩; have hza : w.heap.size ≤ wa.heap.size := hfa.size; have s3 : wa.cell? ⟨fb, 0, none⟩ = some (.pointer (some ⟨d, 0, none⟩)) ∧ wa.cell? ⟨fb, 1, none⟩ = some (.string sA) ∧ wa.cell? ⟨fb, 0, none⟩ = some (.pointer (some ⟨d, 0, none⟩)) := ⟨(hfa.cell hbl nfd 0).trans x0, (hfa.cell hbl nfd 1).trans x1, (hfa.cell hbl nfd 0).trans x0⟩) | (go_at_call 25; (with_reducible refine (c6.out (w.alloc (.cells #[.int .i64 0, .int .i64 0, .int .i64 0] 70)).drew (Below.drew (balloc (Below.refl _ _)))).mono ?_); rintro e wa ⟨rfl, hda, hfa⟩; have hza : w.heap.size + 1 ≤ wa.heap.size := (by have := hfa.size; simpa using this); have hbz : Blk wa w.heap.size 70 #[.int .i64 0, .int .i64 0, .int .i64 0] := ((Blk.new w _ _).drew).fr hfa (by omega); obtain ⟨⟨z0, z1, z2⟩, v0, v1, v2⟩ := stamp_at hbz; have s3 : wa.cell? ⟨fb, 0, none⟩ = some (.pointer (some ⟨d, 0, none⟩)) ∧ wa.cell? ⟨fb, 1, none⟩ = some (.string sA) ∧ wa.cell? ⟨fb, 0, none⟩ = some (.pointer (some ⟨d, 0, none⟩)) := ⟨(hfa.cell (by simp; omega) nfd 0).trans (tri_allocd _ s0).1, (hfa.cell (by simp; omega) nfd 1).trans (tri_allocd _ s0).2.1, (hfa.cell (by simp; omega) nfd 0).trans (tri_allocd _ s0).1⟩))
    · go_wp2_with fail
      go_meet
      exact ⟨wa.heap.size, rfl, rfl, hza, Blk.new wa _ _, Blk.below hda (balloc (Below.refl _ _)), ((Fr.of_below (Below.drew (Below.refl _ _))).call hfa (fun b _ e => e)).bel (balloc (Below.refl _ _))⟩
    · go_wp2_with fail
      go_meet
      refine ⟨w.heap.size, rfl, rfl, Nat.le_refl _, ((hbz.set_ 0 _).set_ 1 _).set_ 2 _, ?_, ?_⟩
      · exact Blk.far (Blk.far (Blk.far hda (by dsimp only; omega) _) (by dsimp only; omega) _) (by dsimp only; omega) _
      · refine Fr.setCell (Fr.setCell (Fr.setCell ?_ (.inr (Nat.le_refl _)) _) (.inr (Nat.le_refl _)) _) (.inr (Nat.le_refl _)) _
        exact (Fr.of_below (Below.drew (balloc (Below.refl _ _)))).call hfa (fun b _ e => e)
  case rest =>
    obtain ⟨q7, rfl, rfl, hq7, hb7, hd7, hfr7⟩ := hcut
    obtain ⟨hbf, hmk, hDm, hd, hm, hfA, h⟩ := HH.out
    have hn8 : ∀ b, U8 w b → b ≠ d := fun b hb => by
      obtain ⟨cs, hb⟩ := hb
      exact Blk.ne_ hb hd (by decide)
    have hbf7 := hbf.fr hfr7 nfd
    have hmk7 : Bts wc (U8 wc) Am mk.length mk := bu8_fr (Reads.more hmk hDm (by decide)) hfr7 hn8
    have hm7 := hm.fr hfr7 (hm.ne_blk hd)
    have hfA7 := Blk.fr hfA hfr7 (Blk.ne_ hfA hd (by decide))
    have hT7 : TextU wc g enc lim t a add := h.fr hfr7 (fun b e _ => by rw [e]; exact NoTx.blk hd (by decide))
    have HWR := Lib.hid (fun wx (hb : Below wc.heap.size wc wx) => write_any fb d sb fA nA cA ls last (st0 + 1) 1 syA 1 AA Am cm (U8 wx) mk 1 nA 1 0 0 0 g enc lim t a add wx (hbf7.below hb) (bu8_below hmk7 hb) hnm (fun _ h _ => h) (Blk.below hd7 hb) (by omega) hlast (hm7.below hb) (Blk.below hfA7 hb) (hT7.below hb) hlen hnA)
    have HF7 := Lib.hid hfr7
    have HN := Lib.hid number_nil
    have HZ := Lib.hid hfr7.size
    obtain ⟨x0, x1, x3, x4, x5, x6, x7, x8⟩ := flC_cells hbf7
    obtain ⟨⟨z0, z1, z2⟩, -⟩ := stamp_at hb7
    have HNE := fun n c w => st_ne n c w
    have HSA := fun n w => st_same n w
    have HBC := Lib.hid hbf7
    clear hbf hmk hd hm hfA h hbf7 hmk7 hm7 hfA7 hT7 hd7 hfr7 hb7 HH c6 hDm
    go_upto_region 4 with fail
    go_quiet (fail)
    go_upto_region 6 with fail
    go_quiet (fail)
    go_upto_region 8 with fail
    refine wp_region_lin (fun w' => w'.cell? ⟨fb, 1, none⟩ = some (.string sA)) (fun w' => Below wc.heap.size wc w') (fun k => k == 12) (fun k => k == 12) (fun k => k == 13) (by kernel_rfl) (by kernel_rfl) ((by first | exact Below.drew (bel_drewN (bel_drewN (Below.refl _ _) _) _) | exact Below.drew (bel_drewN (Below.refl _ _) _))) (fun w' h => cell_keep h x1) ?_
    repeat ((first
      | (refine wpL_read (v := ?_) (by rfl) (by rfl) (fun w6 hSw => ?_) ?_; rotate_left; (· (skip; go_simp; try with_reducible rfl)))
      | (refine wpL_free (v := ?_) (by rfl) (fun w6 => ?_) ?_; rotate_left; (· (go_simp; try with_reducible rfl)))
      | refine wpL_not (by rfl) ?_); (try simp only [Act.put, List.setIfInBounds_toArray, List.set_cons_zero, List.set_cons_succ]))
    refine wpL_call (f := ?_) (args := ?_) (fun v w' => v = .nilIface ∧ ∃ wx, Below wc.heap.size wc wx ∧ WrQ fb d sb wx.heap.size last (st0 + 1) (mk ++ bytesL t.list) wx w') (by rfl) (by rfl) (fun w6 hSw => ?_) (fun w6 hSw => ?_) (.inl (by rfl)) (fun v6 hv6 => ?_)
    rotate_left 2
    · (skip; go_simp; first | done | (constructor <;> with_reducible rfl) | with_reducible rfl)
    · (refine (HWR.out _ hSw).mono ?_; rintro e w' ⟨rfl, hq⟩; exact ⟨_, rfl, rfl, _, hSw, hq⟩)
    obtain ⟨wz, rfl, -⟩ := hv6
    (try simp only [Act.put, List.setIfInBounds_toArray, List.set_cons_zero, List.set_cons_succ])
    repeat ((first
      | (refine wpL_read (v := ?_) (by rfl) (by rfl) (fun w6 hSw => ?_) ?_; rotate_left; (· (skip; go_simp; try with_reducible rfl)))
      | (refine wpL_free (v := ?_) (by rfl) (fun w6 => ?_) ?_; rotate_left; (· (go_simp; try with_reducible rfl)))
      | refine wpL_not (by rfl) ?_); (try simp only [Act.put, List.setIfInBounds_toArray, List.set_cons_zero, List.set_cons_succ]))
    refine wpL_nil ?_
    rintro w9 ⟨-, wx, hbx, hq⟩
    have HQ := Lib.hid hq
    have HBX := Lib.hid hbx
    clear hq hbx
    go_wp2_with fail
    refine (HN.out _).mono ?_
    rintro e w10 ⟨rfl, hb10⟩
    go_wp2_with fail
    go_ret
    obtain ⟨f, st, ct, A, c, lb, q1, q2, q3, q4, q5, q6, q7', q8⟩ := HQ.out
    have hx : wc.heap.size ≤ wx.heap.size := HBX.out.size
    have hz := HZ.out
    have hb10' : Below w9.heap.size w9 w10 := by simpa using hb10
    refine ⟨rfl, f, st, ct, A, c, lb, by omega, Blk.below q2 hb10', q3, q4, q5.below hb10', Blk.below q6 hb10', ownsRow_below (own_lower q7' (by omega)) hb10', ?_⟩
    exact (((HF7.out.more (fun b _ e => .inl e)).bel HBX.out).call q8 (fun b _ e => e)).bel hb10'
end Go.Proofs.YtflhiohjikgedaaGreatDoor
