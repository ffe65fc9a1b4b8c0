import Derived.Test.YtflhiohjikgedaaGreatDoorLRound
import Derived.Test.YtflhiohjikgedaaGreatDoorLSaveLaw
import Derived.Test.YtflhiohjikgedaaGreatDoorLOpen
import Derived.Test.YtflhiohjikgedaaGreatDoorLText
import Derived.Test.YtflhiohjikgedaaGreatDoorLHeavy
import Derived.Test.YtflhiohjikgedaaGreatDoorLDisk4
set_option linter.unusedSimpArgs false
set_option linter.unusedVariables false
namespace Go.Proofs.YtflhiohjikgedaaGreatDoor
open Go.RowKit
attribute [local go_sem] Oper.semAt_some

theorem hrun_copy {P : Program} {T : Value → World → Prop} {o : Oper} {a : Act} {s x : Operand} {t t2 : TypeId} {v k u : Value} {w w' : World}
    (ho : o.op = .call { callee := .builtin .copy, args := #[s, x], argTypes := #[t, t2] }) (hs : a.eval s = v) (hx : a.eval x = k) (hr : (Builtin.copy_ #[t, t2] o.type #[v, k]).run P w = .ok u w') (hT : T u w') : HRun P T ((execOp a.eval o).run P w) := by
  unfold execOp
  simp only [ho, resolve, invoke, builtin, Sem.run_bind, Sem.run_pure, Result.andThen_ok, List.map_toArray, List.map_cons, List.map_nil, hs, hx, hr]
  exact hT
theorem fr_setRow (w : World) (g : Nat) (cs : Array Value) : Fr (· = g) w (w.setRow g cs) :=
  ⟨rfl, rfl, rfl, by simp [World.setRow], fun i _ hn => by
    unfold World.setRow
    rw [Array.getElem?_modify, if_neg (fun e => hn e.symm)]⟩
theorem rel_fr {m2 : Nat} {S : Nat → Prop} {W W' : World} (hf : Fr S W W') (hS : ∀ b, S b → b < W.heap.size → ∃ cs T, Blk W b T cs ∧ ¬ KTy T) : Rel m2 W W' :=
  ⟨⟨hf.size, fun k o _ hk ho => (hf.block k (Array.getElem?_eq_some_iff.1 hk).1 (fun hs => by
    obtain ⟨cs, T, hb, _⟩ := hS k hs (Array.getElem?_eq_some_iff.1 hk).1
    unfold Blk at hb
    rw [hb] at hk
    injection hk with hk
    rw [← hk] at ho
    cases ho)).trans hk⟩, hf.size, fun b cs T h1 hb => hb.fr hf (fun hs => by
    obtain ⟨cs', T', hb', hT⟩ := hS b hs hb.lt
    have e : T = T' := by
      unfold Blk at hb hb'
      rw [hb] at hb'
      injection hb' with hb'
      injection hb'
    exact hT (e ▸ h1))⟩
/-- bytes are copied into a row behind the first k -/
theorem copy_at {D : Nat → Prop} (A : Option Addr) (n c g k tot : Nat) (l : List Int) (w : World) (xs zs : List Value) (hk : xs.length = k) (htot : k + zs.length = tot) (hB : Blk w g 5 (xs ++ zs).toArray) (hl : Bts w D A n l) :
    ∃ w2, (Builtin.copy_ #[22, 22] 3 #[.slice (some ⟨g, k, none⟩) (tot - k) (tot - k), .slice A n c]).run Tryz.prog w = .ok (.int .i64 ((l.take (tot - k)).length : Int)) w2 ∧ Blk w2 g 5 (xs ++ (l.take (tot - k)).map (Value.int .u8) ++ zs.drop (l.take (tot - k)).length).toArray ∧ Fr (· = g) w w2 := by
  have hsz : (Tryz.prog.info? 5).map (·.size) = some 1 := by kernel_rfl
  have hle := hl.len
  by_cases h0 : n = 0
  · subst h0
    have e1 : l = [] := List.eq_nil_of_length_eq_zero hle
    subst e1
    rw [List.take_nil]
    refine ⟨w, run_copy_none (P := Tryz.prog) w 22 22 3 5 (some ⟨g, k, none⟩) A (tot - k) (tot - k) 0 c Tryz.underlying22 hsz (by simp), ?_, Fr.refl _ _⟩
    simpa using hB
  · obtain ⟨ad, rfl, _, hc⟩ := hl.2 (by omega)
    have hrun := run_copy_row (P := Tryz.prog) w 22 22 3 5 g k (tot - k) (tot - k) ad n c (xs ++ zs).toArray 5 ((l.take (tot - k)).map (Value.int .u8)) Tryz.underlying22 hsz hB (by rw [List.length_map, List.length_take, hle]; exact Nat.min_comm _ _)
      (fun j v hj => hc j v (by
        rw [List.getElem?_map] at hj ⊢
        rw [List.getElem?_take] at hj
        split at hj
        · exact hj
        · simp at hj)) (by simp; omega) (by
      intro v hv
      obtain ⟨x, _, rfl⟩ := List.mem_map.1 hv
      rfl)
    rw [List.length_map] at hrun
    refine ⟨_, hrun, ?_, fr_setRow _ _ _⟩
    have := setRow_heap w g (xs ++ zs).toArray ((xs ++ zs).toArray.toList.take k ++ (l.take (tot - k)).map (Value.int .u8) ++ (xs ++ zs).toArray.toList.drop (k + (l.take (tot - k)).length)).toArray 5 _ hB
    rw [show (xs ++ zs).toArray.toList = xs ++ zs from rfl, List.take_left' hk, List.drop_append, List.drop_eq_nil_of_le (by omega), List.nil_append, show k + (l.take (tot - k)).length - xs.length = (l.take (tot - k)).length by omega] at this ⊢
    exact this
theorem copy_at2 {D : Nat → Prop} (A : Option Addr) (n c g k tot : Nat) (l : List Int) (w : World) (xs zs : List Value) (hk : xs.length = k) (htot : k + zs.length = tot) (hB : Blk w g 5 (xs ++ zs).toArray) (hl : Bts w D A n l) :
    ∃ w2, (Builtin.copy_ #[22, 22] 3 #[.slice (if tot = k then some ⟨g, 0, none⟩ else some ⟨g, k, none⟩) (tot - k) (tot - k), .slice A n c]).run Tryz.prog w = .ok (.int .i64 ((l.take (tot - k)).length : Int)) w2 ∧ Blk w2 g 5 (xs ++ (l.take (tot - k)).map (Value.int .u8) ++ zs.drop (l.take (tot - k)).length).toArray ∧ Fr (· = g) w w2 := by
  by_cases h : tot = k
  · rw [if_pos h]
    have hsz : (Tryz.prog.info? 5).map (·.size) = some 1 := by kernel_rfl
    rw [show tot - k = 0 by omega, List.take_zero]
    refine ⟨w, run_copy_none (P := Tryz.prog) w 22 22 3 5 (some ⟨g, 0, none⟩) A 0 0 n c Tryz.underlying22 hsz (by simp), ?_, Fr.refl _ _⟩
    simpa using hB
  · rw [if_neg h]
    exact copy_at A n c g k tot l w xs zs hk htot hB hl
/-- where the bytes of pieces are gathered -/
def BtsI (w : World) (B g b3 tot : Nat) (ls : List Int) (W : World) : Prop :=
  ∃ zs : List Value, Blk W g 5 ((ls.take tot).map (Value.int .u8) ++ zs).toArray ∧ (ls.take tot).length + zs.length = tot ∧ Blk W b3 22 #[.slice (some ⟨g, 0, none⟩) tot tot] ∧ Blk W (b3 + 1) 3 #[.int .i64 ((ls.take tot).length : Int)] ∧ Below w.heap.size w W ∧ B ≤ W.heap.size
theorem take_more (a b : List Int) (n : Nat) : a.take n ++ b.take (n - (a.take n).length) = (a ++ b).take n := by
  rw [List.take_append, List.length_take]
  congr 2
  omega
theorem bytesL_app (a b : List Pc) : bytesL (a ++ b) = bytesL a ++ bytesL b := List.flatMap_append
theorem bytesL_len {enc : Int} : ∀ {ps : List Pc}, (∀ p ∈ ps, PcOk enc p) → ((bytesL ps).length : Int) = totB ps := by
  intro ps
  induction ps with
  | nil => intro _; rfl
  | cons p ps ih =>
    intro h
    have h1 := ih (fun q hq => h q (List.mem_cons_of_mem _ hq))
    have h2 := (h p List.mem_cons_self).len
    show ((p.bytes ++ bytesL ps).length : Int) = _
    rw [List.length_append]
    have h3 : p.sum.bytes = (p.bytes.length : Int) := by rw [(h p List.mem_cons_self).sum, sumsOf_bytes]
    simp only [totB_cons]
    omega
set_option maxRecDepth 100000 in
set_option maxHeartbeats 2000000 in
theorem tbytes_any (D : Nat → Prop) (g : Nat) (enc lim : Int) (t : Tr) (a : Option Addr) (add : Value) (w : World) (h : TextIn w D g enc lim t a add) (htot : totB t.list ≤ 16777216) :
    Calls Tryz.prog 16 #[.pointer (some ⟨g, 0, none⟩)] w fun e w' => NewB (bytesL t.list) w e w' := by
  have hs := size_any D g enc _ w ⟨lim, t, a, add, h, rfl⟩
  have hlen := h.len
  have hbl := bytesL_len h.ok
  have hsum := Tr.sum_good t h.good
  rw [← h.sum, hsum.2, ← hbl] at hs
  obtain ⟨tot, ht⟩ : ∃ tot, (bytesL t.list).length = tot := ⟨_, rfl⟩
  rw [ht] at hs hbl
  have hti : tot ≤ 16777216 := by omega
  obtain ⟨ib, hib, hb0, hb1, hb2⟩ := info_parts byte_info
  have HS := Lib.hid hs
  have HH := Lib.hid h
  have HT := Lib.hid ht
  have HI := Lib.hid (fun w => items_any a 0 w)
  clear hs hsum hbl ht h
  refine (callsIn_wide (n := 7)).1 ?_
  refine callsIn_of_wp_marks Tryz.func16 rfl trivial ?_ rfl
  simp only [Tryz.ntmps16, List.size_toArray, List.length_cons, List.length_nil, Nat.reduceAdd, Nat.reduceSub, Array.replicate_succ, Array.replicate_zero, List.push_toArray, List.append_toArray, List.nil_append, List.cons_append]
  refine wpIn_wide.2 ?_
  go_wp2_with fail
  refine (HS.out).mono ?_
  rintro e w1 ⟨rfl, hb1'⟩
  go_wp2_with (at_make; refine wpList_make_full _ rfl _ _ 22 rfl w1.heap.size 5 ib (.int .u8 0) 1 Tryz.underlying22 hib hb0 hb1 _ _ _ _ tot rfl rfl rfl rfl (by rw [hb2]; omega) (by unfold maxLen; omega) (Nat.le_refl _) ?_)
  intro w2 ho2 hg2
  obtain ⟨xs, hxs⟩ : ∃ xs, (madeCells #[Value.int .u8 0] tot).toList = xs := ⟨_, rfl⟩
  rw [hxs] at ho2
  have hxl : xs.length = tot := by have := ho2.1; omega
  have hB2 : Blk w2 w1.heap.size 5 xs.toArray := own_full ho2
  have hW2 : Below w.heap.size w w2 := bseq hb1' (below_grown hg2)
  obtain ⟨gb, hgb⟩ : ∃ gb, w1.heap.size = gb := ⟨_, rfl⟩
  rw [hgb] at hB2 ⊢
  have hgw : w.heap.size ≤ gb := by rw [← hgb]; exact hb1'.size
  clear hxs ho2 hg2 hib hb0 hb1 hb2 ib hgb hb1'
  obtain ⟨w3, hw3⟩ : ∃ w3, (w2.alloc (.cells #[.slice (some ⟨gb, 0, none⟩) tot tot] 22)).alloc (.cells #[.int .i64 0] 3) = w3 := ⟨_, rfl⟩
  have hb3 : Below w.heap.size w w3 := by rw [← hw3]; exact balloc (balloc hW2)
  have hB3 : Blk w3 gb 5 xs.toArray := by rw [← hw3]; exact (hB2.alloc _).alloc _
  have k3 : Blk w3 w2.heap.size 22 #[.slice (some ⟨gb, 0, none⟩) tot tot] := by rw [← hw3]; exact (Blk.new w2 _ _).alloc _
  have k4 : Blk w3 (w2.heap.size + 1) 3 #[.int .i64 0] := by
    rw [← hw3]
    have := Blk.new (w2.alloc (.cells #[.slice (some ⟨gb, 0, none⟩) tot tot] 22)) 3 #[.int .i64 0]
    rw [World.size_alloc] at this
    exact this
  obtain ⟨c0, c2⟩ := (HH.out.below hb3).cells
  have hgl := (HH.out.below hb3).blk.lt
  have HK := Lib.hid (show Below w.heap.size w w3 ∧ Blk w3 gb 5 xs.toArray ∧ Blk w3 w2.heap.size 22 #[.slice (some ⟨gb, 0, none⟩) tot tot] ∧ Blk w3 (w2.heap.size + 1) 3 #[.int .i64 0] from ⟨hb3, hB3, k3, k4⟩)
  have HW3 := Lib.hid hw3
  have hw2s : w.heap.size ≤ w2.heap.size := hW2.size
  clear hB2 hW2 hb3 hB3 k3 k4 hw3
  go_upto_region 3 with fail
  have e3 := HW3.out
  rw [e3]
  clear e3
  go_wp2_with fail
  refine (HI.out _).mono ?_
  rintro e w4 ⟨rfl, hw4⟩
  obtain ⟨b3, hb3⟩ : ∃ b, w2.heap.size = b := ⟨_, rfl⟩
  obtain ⟨m3, hm3⟩ : ∃ b, w3.heap.size = b := ⟨_, rfl⟩
  have hz3 : m3 = b3 + 2 := by
    have := HW3.out
    rw [← hm3, ← hb3, ← this]
    simp
  have hz4 : w4.heap.size = m3 + 2 := by rw [← hw4, ← hm3]; simp
  obtain ⟨q1, q2, q3, q4⟩ := HK.out
  have hbw4 : Below w.heap.size w w4 := by rw [← hw4]; exact balloc (balloc q1)
  have t1 : w4.cell? ⟨m3, 0, none⟩ = some (.pointer a) := by
    rw [← hw4, ← hm3]
    exact ((Blk.new w3 86 #[.pointer a]).alloc _).cell 0
  have t2 : w4.cell? ⟨m3 + 1, 0, none⟩ = some (.int .i64 0) := by
    have := Blk.new (w3.alloc (.cells #[.pointer a] 86)) 3 #[.int .i64 0]
    rw [World.size_alloc, hm3, hw4] at this
    exact this.cell 0
  have s2 : Blk w4 gb 5 xs.toArray := by rw [← hw4]; exact (q2.alloc _).alloc _
  have s3 : Blk w4 b3 22 #[.slice (some ⟨gb, 0, none⟩) tot tot] := by rw [← hw4, ← hb3]; exact (q3.alloc _).alloc _
  have s4 : Blk w4 (b3 + 1) 3 #[.int .i64 0] := by rw [← hw4, ← hb3]; exact (q4.alloc _).alloc _
  have hG : ∀ p ∈ t.list, GPc w D enc p := fun p hp => ⟨HH.out.ok p hp, HH.out.bts p hp⟩
  have hst := items_stops (GPc w D enc) 6 m3 (m3 + 1) t a 0 w4 (NodeAt.below hbw4 t a HH.out.node) hG t1 t2 (by omega) (by omega) hlen
  have hwb : w.heap.size ≤ b3 := by omega
  rw [hb3, hm3]
  have HZ3 := Lib.hid hz3
  have HZ4 := Lib.hid hz4
  clear HW3 HK q1 q2 q3 q4 t1 t2 hw4 HS hb3 HI c0 c2 hgl hz3 hz4 hm3 hw2s
  go_wp2_with fail
  refine (wpIn_wide (n := 7)).1 ?_
  refine wpIn_rangeFunc_ownH (w0 := w4) rfl (by decide) (gf := 73) (lb := #[.pointer (some ⟨m3, 0, none⟩), .pointer (some ⟨m3 + 1, 0, none⟩)]) rfl trivial Tryz.call73
    hst (fun h k => KT.trans h k) ?hKb (Below.refl _ _) (fun _ => rfl)
    (fun pre W => BtsI w w4.heap.size gb b3 tot (bytesL (pre.map Subtype.val)) W) (fun _ _ _ => False)
    ?hI ?hIx ⟨xs, by simpa [bytesL] using s2, by simpa [bytesL] using hxl, s3, by simpa [bytesL] using s4, hbw4, Nat.le_refl _⟩
    (fun x a' W => ∃ Bx, w4.heap.size ≤ Bx ∧ Blk W Bx 94 x.1.cells ∧ a' = { tmps := #[.pointer (some ⟨g, 0, none⟩), undef, .slice none 0 0, .pointer (some ⟨b3, 0, none⟩), .pointer (some ⟨b3 + 1, 0, none⟩), .pointer (some ⟨Bx, 0, none⟩), .pointer (some ⟨g, 0, none⟩), .int .i64 tot, .slice (some ⟨gb, 0, none⟩) tot tot, .pointer (some ⟨g, 0, none⟩), .pointer (some ⟨g, 0, none⟩), .pointer (some ⟨g, 2, none⟩), .agg #[.pointer a], .func (.func 73) #[] #[.pointer (some ⟨m3, 0, none⟩), .pointer (some ⟨m3 + 1, 0, none⟩)], .agg x.1.cells, undef, undef, undef, undef, undef, undef, undef, undef, undef], defers := [] }) ?hAx ?assign ?body ?done ?stop
  case hKb => exact fun W l o o' hl ho hc hw => ⟨by simp, fun b cs T h1 hb => (World.putObj_heap_other (by rintro rfl; unfold Blk at hb; rw [hb] at ho; injection ho with ho; rw [← ho] at hc; cases hc)).trans hb⟩
  case hI =>
    rintro pre W W' row ⟨zs, i1, i2, i3, i4, i5, i6⟩ hg hr
    have hne : ∀ {b : Nat} {T : TypeId} {cs : Array Value}, Blk W b T cs → some b ≠ row := by
      intro b T cs hb e
      obtain ⟨_, o, ho, hcell⟩ := hr b e.symm
      unfold Blk at hb
      rw [hb] at ho
      injection ho with ho
      rw [← ho] at hcell
      cases hcell
    exact ⟨zs, i1.grown hg (hne i1), i2, i3.grown hg (hne i3), i4.grown hg (hne i4), below_grown3 i5 hg (fun k hk => by have := (hr k hk).1; have := hbw4.size; omega) (by have := i5.size; omega), Nat.le_trans i6 hg.size⟩
  case hIx =>
    rintro c pre W W' row h
    exact h.elim
  case hAx =>
    rintro x a' _ W W' row ⟨Bx, q1, q2, q3⟩ hg hr
    exact ⟨Bx, q1, q2.grown hg (fun e => by
      obtain ⟨_, o, ho, hcell⟩ := hr _ e.symm
      unfold Blk at q2
      rw [q2] at ho
      injection ho with ho
      rw [← ho] at hcell
      cases hcell), q3⟩
  case assign =>
    rintro l pre x W K ⟨zs, i1, i2, i3, i4, i5, i6⟩ hK
    simp only [Pc.cells, partC] at hK ⊢
    gi_wp2
    exact hK _ _ (Rel.below (balloc (Below.refl _ W))).1 (Rel.below (m2 := 0) (balloc (Below.refl _ W))).2 ⟨zs, i1.alloc _, i2, i3.alloc _, i4.alloc _, balloc i5, by rw [World.size_alloc]; omega⟩ ⟨W.heap.size, i6, Blk.new W _ _, rfl⟩
  case body =>
    rintro l pre x a' W hl ⟨rr, hrr⟩ ⟨zs, i1, i2, i3, i4, i5, i6⟩ ⟨Bx, hBx, hbx, rfl⟩ hlt
    obtain ⟨⟨xb, xl, xp, xn, xc, xt0, xt1, -⟩, xbts⟩ := x.2
    obtain ⟨⟨pA, pn, pc, ptag, psum, pb⟩, hx⟩ := x
    dsimp only at xb xl xp xn xc xt0 xt1 xbts hbx ⊢
    have hap : bytesL ((pre ++ [(⟨⟨pA, pn, pc, ptag, psum, pb⟩, hx⟩ : { p : Pc // GPc w D enc p })]).map Subtype.val) = bytesL (pre.map Subtype.val) ++ pb := by
      rw [List.map_append, bytesL_app]
      simp [bytesL]
    obtain ⟨ls, hls⟩ : ∃ ls, bytesL (pre.map Subtype.val) = ls := ⟨_, rfl⟩
    rw [hls] at i1 i2 i4 hap
    have hle : (ls.take tot).length ≤ tot := by rw [List.length_take]; omega
    have htk := take_more ls pb tot
    obtain ⟨as_, has⟩ : ∃ as_, ls.take tot = as_ := ⟨_, rfl⟩
    rw [has] at i1 i2 i4 htk hle
    obtain ⟨k, hk⟩ : ∃ k, as_.length = k := ⟨_, rfl⟩
    rw [hk] at i2 i4 htk hle
    have hbW : Bts W.drew (fun b => D b ∧ b < w.heap.size) pA pn pb := Reads.below (Reads.below (Reads.more xbts (fun b h1 h2 => ⟨h1, h2⟩) (by decide)) i5) (Below.drew (Below.refl _ _))
    obtain ⟨w7, hr, hB7, hF7⟩ := copy_at2 pA pn pc gb k tot pb W.drew (as_.map (Value.int .u8)) zs (by rw [List.length_map, hk]) i2 i1.drew hbW
    have hm1 : (pb.take (tot - k)).length ≤ tot - k := by rw [List.length_take]; omega
    have hml : (pb.take (tot - k)).length = k + (pb.take (tot - k)).length - k := by omega
    have hlast : ((ls ++ pb).take tot).length = k + (pb.take (tot - k)).length := by rw [← htk, List.length_append, hk]
    have hrow : ((ls ++ pb).take tot).map (Value.int .u8) = as_.map (Value.int .u8) ++ (pb.take (tot - k)).map (Value.int .u8) := by rw [← htk, List.map_append]
    obtain ⟨m, hm⟩ : ∃ m, (pb.take (tot - k)).length = m := ⟨_, rfl⟩
    rw [hm] at hr hB7 hm1 hlast
    rw [← hrow] at hB7
    have hgx : Bx ≠ gb := fun e => Blk.ne_ hbx i1 (by decide) e
    have hg3 : b3 ≠ gb := fun e => Blk.ne_ i3 i1 (by decide) e
    have hg4 : b3 + 1 ≠ gb := fun e => Blk.ne_ i4 i1 (by decide) e
    have hg34 : b3 ≠ b3 + 1 := by omega
    have HFF : Hid (∀ w', Fr (· = gb) W w' → w'.cell? ⟨b3, 0, none⟩ = some (.slice (some ⟨gb, 0, none⟩) tot tot) ∧ w'.cell? ⟨b3 + 1, 0, none⟩ = some (.int .i64 k) ∧ w'.cell? ⟨Bx, 0, none⟩ = some (.slice pA pn pc)) := Lib.hid (fun w' h => ⟨(i3.fr h hg3).cell 0, (i4.fr h hg4).cell 0, (hbx.fr h hgx).cell 0⟩)
    have hF7' : Fr (· = gb) W w7 := ((Fr.refl _ W).drew).trans hF7
    have HK0 := Lib.hid (show (∃ cs, Blk W gb 5 cs) ∧ (∃ cs, Blk W (b3 + 1) 3 cs) from ⟨⟨_, i1⟩, ⟨_, i4⟩⟩)
    have HR := Lib.hid hr
    have HB7 := Lib.hid (show Blk w7 gb 5 _ ∧ Fr (· = gb) W w7 ∧ Blk w7 b3 22 _ ∧ Blk w7 (b3 + 1) 3 _ from ⟨hB7, hF7', i3.fr hF7' hg3, i4.fr hF7' hg4⟩)
    have HFIN := Lib.hid hap
    have HLL := Lib.hid (show ((ls ++ pb).take tot).length = k + m ∧ k + zs.length = tot from ⟨hlast, i2⟩)
    have hk1 : (k : Int) ≤ (tot : Int) := by omega
    have e1 : IntKind.i64.wrap ((k : Int) + (m : Int)) = (k : Int) + (m : Int) := IntWalk.i64_in _ (by omega)
    clear hap hls htk has hk i1 i2 i3 i4 hbW hr hB7 hF7 hF7' hml hlast hrow hm
    gi_upto_region 5 with fail
    refine wpIn_round_lin (fun w' => Fr (· = gb) W w') (fun w' => w' = W.drew) (fun k => k == 6 || k == 8) (fun k => k == 8) (fun _ => false) (by kernel_rfl) (by kernel_rfl) (fun ⟨_, _, h⟩ => h) (by kernel_rfl) rfl (fun w' h => by subst h; exact (Fr.refl _ _).drew) ?_
    repeat ((first
      | (refine wpL_read (v := ?_) (by rfl) (by rfl) (fun w6 hSw => ?_) ?_; rotate_left; (· (obtain ⟨y3, y4, y5⟩ := HFF.out _ hSw; go_simp; try with_reducible rfl)))
      | (refine wpL_free (v := ?_) (by rfl) (fun w6 => ?_) ?_; rotate_left; (· (go_simp; try with_reducible rfl)))
      | refine wpL_not (by rfl) ?_); (try simp only [Act.put, List.setIfInBounds_toArray, List.set_cons_zero, List.set_cons_succ]))
    refine wpL_heavy (fun v w' => v = .int .i64 m ∧ w' = w7) (by rfl) (by rfl) (fun w6 hSw => ?_) (.inr (fun v6 w6 hT6 => ?_)) (fun v6 hv6 => ?_)
    · (subst hSw; exact hrun_copy rfl rfl rfl HR.out ⟨rfl, rfl⟩)
    · (obtain ⟨-, rfl⟩ := hT6; exact HB7.out.2.1)
    obtain ⟨wz, rfl, -⟩ := hv6
    (try simp only [Act.put, List.setIfInBounds_toArray, List.set_cons_zero, List.set_cons_succ])
    repeat ((first
      | (refine wpL_read (v := ?_) (by rfl) (by rfl) (fun w6 hSw => ?_) ?_; rotate_left; (· (skip; go_simp; try with_reducible rfl)))
      | (refine wpL_free (v := ?_) (by rfl) (fun w6 => ?_) ?_; rotate_left; (· (go_simp; try with_reducible rfl)))
      | refine wpL_not (by rfl) ?_); (try simp only [Act.put, List.setIfInBounds_toArray, List.set_cons_zero, List.set_cons_succ]))
    refine wpL_heavy (fun _ w' => w' = w7.setCell ⟨b3 + 1, 0, none⟩ (.int .i64 ((k : Int) + (m : Int)))) (by rfl) (by rfl) (fun w6 hSw => ?_) (.inl (by rfl)) (fun v6 hv6 => ?_)
    · (obtain ⟨-, rfl⟩ := hSw; obtain ⟨y3, y4, y5⟩ := HFF.out _ HB7.out.2.1; have g4 := HB7.out.2.2.2.frozen 0; go_simp; try rfl)
    skip
    (try simp only [Act.put, List.setIfInBounds_toArray, List.set_cons_zero, List.set_cons_succ])
    refine wpL_nil ?_
    rintro w9 rfl
    generalize (if tot = k then (some ⟨gb, 0, none⟩ : Option Addr) else some ⟨gb, k, none⟩) = oa
    have HEND : Hid (KeepsFrom w4.heap.size W (w7.setCell ⟨b3 + 1, 0, none⟩ (.int .i64 ((k : Int) + (m : Int)))) ∧ KT W (w7.setCell ⟨b3 + 1, 0, none⟩ (.int .i64 ((k : Int) + (m : Int)))) ∧ BtsI w w4.heap.size gb b3 tot (bytesL ((pre ++ [(⟨⟨pA, pn, pc, ptag, psum, pb⟩, hx⟩ : { p : Pc // GPc w D enc p })]).map Subtype.val)) (w7.setCell ⟨b3 + 1, 0, none⟩ (.int .i64 ((k : Int) + (m : Int))))) := by
      refine Lib.hid ?_
      obtain ⟨j1, j2, j3, j4⟩ := HB7.out
      have hf9 : Fr (fun b => b = gb ∨ b = b3 + 1) W (w7.setCell ⟨b3 + 1, 0, none⟩ (.int .i64 ((k : Int) + (m : Int)))) := (j2.more (S' := fun b => b = gb ∨ b = b3 + 1) (fun _ _ h => .inl h)).setCell (.inl (.inr rfl)) _
      have hre := rel_fr (m2 := w4.heap.size) hf9 (fun b hb _ => by
        rcases hb with rfl | rfl
        · obtain ⟨cs, hcs⟩ := HK0.out.1
          exact ⟨cs, _, hcs, by decide⟩
        · obtain ⟨cs, hcs⟩ := HK0.out.2
          exact ⟨cs, _, hcs, by decide⟩)
      refine ⟨hre.1, hre.2, zs.drop m, ?_, ?_, ?_, ?_, ?_, ?_⟩
      · rw [HFIN.out]
        exact j1.far (p := ⟨b3 + 1, 0, none⟩) (show gb ≠ b3 + 1 by omega) _
      · rw [HFIN.out, HLL.out.1, List.length_drop]
        have := HLL.out.2
        omega
      · exact j3.far (p := ⟨b3 + 1, 0, none⟩) (show b3 ≠ b3 + 1 by omega) _
      · rw [HFIN.out, HLL.out.1, show ((k + m : Nat) : Int) = (k : Int) + (m : Int) by omega]
        exact j4.set_ 0 _
      · refine ⟨hf9.os.trans i5.os, hf9.tape.trans i5.tape, hf9.output.trans i5.output, Nat.le_trans i5.size hf9.size, fun i hi => (hf9.block i (Nat.lt_of_lt_of_le hi i5.size) ?_).trans (i5.block i hi)⟩
        rintro (h | h) <;> omega
      · exact Nat.le_trans i6 hf9.size
    clear HR HB7 HFF HK0
    gi_wp2
    all_goals exact HEND.out
  case done =>
    rintro D2 ys W hD2 hxs ⟨zs, i1, i2, i3, i4, i5, i6⟩ hK
    rw [hxs, show (0 : Int).toNat = 0 from rfl, List.drop_zero, List.take_of_length_le (by rw [HT.out]; exact Nat.le_refl _)] at i1 i2 i4
    rw [HT.out] at i2 i4
    have c3 := i3.cell 0
    simp at c3
    obtain rfl : zs = [] := List.eq_nil_of_length_eq_zero (by omega)
    rw [List.append_nil] at i1
    have HI1 := Lib.hid i1
    clear i1 i2 i3 i4 hxs
    go_wp2_with fail
    refine ⟨by simp, .inl ⟨_, _, rfl, run_takeDeferred hK, ?_⟩⟩
    have hB5 : Below w.heap.size w (W.putObj D2 (.deferred none)) := below_grown3 i5 (grownBy_putObj' W D2 (.deferred none)) (fun k hk => by cases hk; have := hbw4.size; omega) (by have := hbw4.size; omega)
    have hB6 : Blk (W.putObj D2 (.deferred none)) gb 5 ((bytesL t.list).map (Value.int .u8)).toArray := HI1.out.grown (grownBy_putObj' W D2 (.deferred none)) (by
      intro e
      injection e with e
      have h1 := HI1.out
      unfold Blk at h1
      rw [e, hK] at h1
      cases h1)
    refine ⟨_, results_tmp rfl _ _ _, _, rfl, ?_, hB5⟩
    rw [HT.out]
    exact ⟨by rw [List.length_map, HT.out, Nat.mul_one], .inr ⟨gb, tot, _, rfl, hgw, hB6, Nat.le_refl _, by unfold maxLen; omega, by simp [HT.out], by rw [List.take_of_length_le (by simp [HT.out])]⟩⟩
  case stop =>
    rintro D2 c pre W hD2 hpre h
    exact h.elim
end Go.Proofs.YtflhiohjikgedaaGreatDoor
