/-
  LadderObjects: the walk.
-/
import Derived.Test.YtoafogibfokblaaGreatLObj2
import Derived.Test.YtoafogibfokblaaGreatLMove4
import Derived.Test.YtoafogibfokblaaGreatLPlain
import Derived.Test.YtoafogibfokblaaGreatLLad
set_option linter.unusedSimpArgs false
set_option linter.unusedVariables false
namespace Go.Proofs.YtoafogibfokblaaGreat
open Go.RowKit

theorem wordsRest_any (D : Nat → Prop) (g : Nat) (enc : Int) (ds : List (Int × Int)) (at_ : Int) (j e : Nat) (w : World) (h : TextAt w D g enc ds) (hr : at_ = (lineF ds (rowIx ds at_ false)).from_ + (mkb (cont ds (rowIx ds at_ false)) j : Int)) (hlt : at_ < (lineF ds (rowIx ds at_ false)).to_)
    (hje : j ≤ e) (he : e < nC (cont ds (rowIx ds at_ false))) (hno : ∀ q, j ≤ q → q < e → endsF (cont ds (rowIx ds at_ false)) q = false) (hyes : endsF (cont ds (rowIx ds at_ false)) e = true) :
    Calls Tryz.prog 16 #[.pointer (some ⟨g, 0, none⟩), .int .i64 at_, .agg #[.int .i64 29, .int .i64 0, .int .i64 0], .bool false] w fun e' w' => LandPost 1 ((lineF ds (rowIx ds at_ false)).from_ + (mkb (cont ds (rowIx ds at_ false)) e : Int)) w e' w' :=
  words_any D g enc ds at_ 29 1 _ _ j w h (.inl ⟨rfl, rfl⟩) hr hlt (by omega) (fun W0 w' m k1 k2 k3 k4 => rest_any W0 w' D m g enc ds at_ _ j e (h.below k1) k2 k3 k4 hr (InC.at_mk (by omega)) hje he hno hyes)
theorem wordsBack_any (D : Nat → Prop) (g : Nat) (enc : Int) (ds : List (Int × Int)) (at_ : Int) (j e : Nat) (w : World) (h : TextAt w D g enc ds) (hr : at_ = (lineF ds (rowIx ds at_ false)).from_ + (mkb (cont ds (rowIx ds at_ false)) j : Int)) (hlt : at_ < (lineF ds (rowIx ds at_ false)).to_)
    (hje : e < j) (he : j < nC (cont ds (rowIx ds at_ false))) (hno : ∀ q, e < q → q < j → beginsF (cont ds (rowIx ds at_ false)) q = false) (hyes : beginsF (cont ds (rowIx ds at_ false)) e = true) :
    Calls Tryz.prog 16 #[.pointer (some ⟨g, 0, none⟩), .int .i64 at_, .agg #[.int .i64 22, .int .i64 0, .int .i64 0], .bool false] w fun e' w' => LandPost 0 ((lineF ds (rowIx ds at_ false)).from_ + (mkb (cont ds (rowIx ds at_ false)) e : Int)) w e' w' :=
  words_any D g enc ds at_ 22 0 _ _ j w h (.inr ⟨rfl, rfl⟩) hr hlt he (fun W0 w' m k1 k2 k3 k4 => back_any W0 w' D m g enc ds at_ _ j e (h.below k1) k2 k3 k4 hr (InC.at_mk (by omega)) hje he hno hyes)
theorem inC_any (C : List Int) (r : Nat) : ∃ j, InC C r j := by
  rcases Nat.lt_or_ge C.length r with h | h
  · exact ⟨nC C, Nat.le_refl _, by rw [mk_last]; omega, fun k h1 h2 => by omega⟩
  · exact inC_ex h
/-- object.Words at every offset of a line's content -/
theorem owords_in {D : Nat → Prop} {g : Nat} {enc : Int} {ds : List (Int × Int)} {I : Nat} {wy : World} (h : TextAt wy D g enc ds) (hI : I ≤ totE ds) (r j : Nat) (hr : r < (cont ds I).length) (hj : InC (cont ds I) r j) :
    Calls Tryz.prog 14 #[.pointer (some ⟨g, 0, none⟩), .int .i64 ((lineF ds I).from_ + (r : Int)), .agg #[.int .i64 61, .int .i64 0, .int .i64 0]] wy fun e w' => WordsPost (lineF ds I).from_ (cont ds I) j wy e w' := by
  have hp := h.pos
  have hbd := lineF_bd hp hI
  have hcl := cont_len hp hI
  have hof := (ofF_in hp (i := I) (p := (lineF ds I).from_ + (r : Int)) hI (by omega) (by omega)).1
  have := owords_any D g enc ds ((lineF ds I).from_ + (r : Int)) r j wy h (by omega) (by omega) (by rw [hof]) (by rw [hof]; exact hj)
  rw [hof] at this
  exact this
theorem seg_getD (l : List Int) (f t : Int) (k : Nat) (hk : k < t.toNat - f.toNat) : (seg f t l).getD k 0 = l.getD (f.toNat + k) 0 := by
  unfold seg
  rw [List.getD_eq_getElem?_getD, List.getElem?_take, if_pos hk, List.getElem?_drop, List.getD_eq_getElem?_getD]
def LadR (P Q : Int) (wa : World) (k : Nat) (q14 : Value) (wr : World) : Prop := ∃ p : Int, q14 = .int .i64 p ∧ P ≤ p ∧ p ≤ Q ∧ (Q - p).toNat ≤ k ∧ Below wa.heap.size wa wr
theorem RunB.same_of' {C : List Int} {N x y b e e' : Nat} (hb : RunB C x b) (he : RunE C N x e) (hy : b ≤ y) (hy2 : y < e) (he' : RunE C N y e') : e' = e := RunE.same_of hb he hy hy2 he'
set_option maxRecDepth 100000 in
set_option maxHeartbeats 4000000 in
theorem ladder_any (A : Option Addr) (n c : Nat) (l : List Int) (enc at_ : Int) (w : World) (hl : Bts w Any A n l) (hA : A = none → c = 0) (hB : Byt l) (hat : -9223372036854775808 ≤ at_ ∧ at_ ≤ 9223372036854775807) :
    Calls Tryz.prog 3 #[.int .i64 enc, .slice A n c, .int .i64 at_] w fun e w' => e = .returned (.bool true) ∧ Below w.heap.size w w' := by
  have hle := hl.len
  have hri := right_any enc A n c w
  cases hR : rightF enc n with
  | false =>
    rw [hR] at hri
    have HR := Lib.hid hri
    clear hri hR
    go_enter Tryz.func3, Tryz.ntmps3
    go_wp2_with fail
    refine (HR.out).mono ?_
    rintro e w1 ⟨rfl, rfl⟩
    go_wp2_with fail
    go_ret
    exact ⟨rfl, Below.refl _ _⟩
  | true =>
    rw [hR] at hri
    have hen : (enc = 1 ∨ enc = 2 ∨ enc = 3 ∨ enc = 4) ∧ n ≤ 65536 := by
      unfold rightF at hR
      simp only [Bool.and_eq_true, decide_eq_true_eq] at hR
      omega
    obtain ⟨henc, hn⟩ := hen
    have htw := twin_any A n c l w hl hA hn
    have HR := Lib.hid hri
    have HTW := Lib.hid htw
    have HE := Lib.hid henc
    clear hri hR htw henc hl hA
    go_enter Tryz.func3, Tryz.ntmps3
    go_wp2_with fail
    refine (HR.out).mono ?_
    rintro e w1 ⟨rfl, rfl⟩
    go_wp2_with fail
    refine (HTW.out).mono ?_
    rintro e w1 ⟨⟨A', c', rfl, hl1, hc1⟩, hb1⟩
    go_wp2_with fail
    refine (open_any enc _ A' n c' l w1 HE.out hl1 hB hn hc1).mono ?_
    rintro e w2 ⟨g, rfl, hT, hg, hb2⟩
    have hW2 := bseq hb1 hb2
    obtain ⟨ds, hds⟩ : ∃ ds, dec enc l = ds := ⟨_, rfl⟩
    have hsz : (sumsOf ds).bytes = (n : Int) := by rw [← hds, sumsOf_bytes, hle]
    rw [hds] at hT
    have hsi := size_any _ g enc ds w2 hT
    rw [hsz] at hsi
    have hbne : ((n : Int) != (n : Int)) = false := by simp
    have hn0 := num_any 0 w2
    have HSI := Lib.hid hsi
    have HT := Lib.hid hT
    have HN := Lib.hid hn0
    clear hsi hT hn0 hds hsz
    go_wp2_with fail
    refine (HN.out).mono ?_
    rintro e w3 ⟨rfl, rfl⟩
    go_wp2_with fail
    refine (HSI.out).mono ?_
    rintro e w3 ⟨rfl, hb3⟩
    go_wp2_with fail
    refine (len_any _ g enc ds w3 (HT.out.below hb3)).mono ?_
    rintro e w4 ⟨rfl, hb4⟩
    have hlen := HT.out.len
    have hb24 := bseq hb3 hb4
    have hadd : IntKind.i64.wrap ((ds.length : Int) + 1) = (ds.length : Int) + 1 := IntWalk.i64_in _ (by omega)
    have ham := among_any at_ ((ds.length : Int) + 1) w4 hat (by omega)
    have HAM := Lib.hid ham
    clear ham
    obtain ⟨m, hm⟩ : ∃ m, ds.length = m := ⟨_, rfl⟩
    rw [hm] at hadd hlen HAM
    rw [hm]
    have HM := Lib.hid hm
    clear hm
    go_wp2_with fail
    refine (HAM.out).mono ?_
    rintro e w5 ⟨⟨k, rfl, hkm⟩, rfl⟩
    have hp := HT.out.pos
    have hix := ofF_le ds (k : Int)
    have hbd := lineF_bd hp hix
    have hcl := cont_len hp hix
    have hfr := ofF_from hp (at_ := (k : Int)) (by omega) (by rw [HM.out]; omega)
    have hol := of_line _ g enc ds (k : Int) w4 (HT.out.below hb24)
    have hat2 := fun (wy : World) (hy : Below w2.heap.size w2 wy) => at_line _ g enc ds (ofF ds (k : Int)) wy (HT.out.below hy) hix
    have hta := fun (wy : World) (hy : Below w2.heap.size w2 wy) => tatoms_any _ g enc ds (lineF ds (ofF ds (k : Int))).from_ (lineF ds (ofF ds (k : Int))).to_ wy (HT.out.below hy) (by omega) (by have := HM.out; omega)
    obtain ⟨r, hr⟩ : ∃ r : Nat, (k : Int) = (lineF ds (ofF ds (k : Int))).from_ + (r : Int) := ⟨((k : Int) - (lineF ds (ofF ds (k : Int))).from_).toNat, by omega⟩
    obtain ⟨j, hj⟩ := inC_any (cont ds (ofF ds (k : Int))) r
    have how := fun (wy : World) (hy : Below w2.heap.size w2 wy) => owords_any _ g enc ds (k : Int) r j wy (HT.out.below hy) (by omega) (by rw [HM.out]; omega) hr hj
    obtain ⟨I, hI⟩ : ∃ I, ofF ds (k : Int) = I := ⟨_, rfl⟩
    rw [hI] at hix hbd hcl hfr hol hat2 hta hr hj how
    have hin := fun (wy : World) (hy : Below w2.heap.size w2 wy) => @owords_in _ g enc ds I wy (HT.out.below hy) hix
    have hrow := fun (p : Int) (h1 : (lineF ds I).from_ ≤ p) (h2 : p < (lineF ds I).to_) => (ofF_in hp hix h1 h2).2
    have hC2 : seg (lineF ds I).from_ (lineF ds I).to_ (ds.map Prod.fst) = cont ds I := rfl
    rw [hC2] at hta
    have HC2 := Lib.hid hC2
    have HIX := Lib.hid hix
    have HIN := Lib.hid hin
    have HROW := Lib.hid hrow
    obtain ⟨C, hC⟩ : ∃ C, cont ds I = C := ⟨_, rfl⟩
    obtain ⟨L, hL⟩ : ∃ L, lineF ds I = L := ⟨_, rfl⟩
    rw [hC] at hcl hj how hta
    rw [hL] at hbd hcl hfr hat2 hta hr how
    have HCC := Lib.hid hC
    have HLL := Lib.hid hL
    obtain ⟨x0, x1, x2, x3⟩ := L
    unfold Ln.cells at hat2
    dsimp only at hbd hcl hfr hat2 hta hr how
    have HOL := Lib.hid hol
    have HAT := Lib.hid hat2
    have HTA := Lib.hid hta
    have HOW := Lib.hid how
    have HJ := Lib.hid hj
    have HR' := Lib.hid hr
    clear hol hat2 hta how hC hL hI hj hr hix hp hC2 hin hrow
    go_wp2_with fail
    refine (HOL.out).mono ?_
    rintro e w5 ⟨rfl, hb5⟩
    have hb25 := bseq hb24 hb5
    go_wp2_with fail
    refine (HAT.out _ hb25).mono ?_
    rintro e w6 ⟨rfl, hb6⟩
    have hb26 := bseq hb25 hb6
    have hLb := Blk.new w6 33 #[.int .i64 x0, .int .i64 x1, .int .i64 x2, .int .i64 x3]
    have hb27 : Below w2.heap.size w2 (w6.alloc (.cells #[.int .i64 x0, .int .i64 x1, .int .i64 x2, .int .i64 x3] 33)) := balloc hb26
    obtain ⟨g0, g1, g2, g3⟩ := line4 (L := ⟨x0, x1, x2, x3⟩) hLb
    dsimp only at g0 g1 g2 g3
    go_wp2_with fail
    refine (HTA.out _ hb27).mono ?_
    rintro e w8 ⟨vC, rfl, hown, hb8⟩
    have hb28 := bseq hb27 hb8
    have hLb8 := hLb.below hb8
    obtain ⟨Ac, cc, rfl, hccc⟩ := own_slice hown
    have hIc : Ints w8 (fun b => w2.heap.size ≤ b) Ac C.length C := Reads.more (Reads.of_own hown) (fun b hb _ => Nat.le_trans hb27.size hb) (by decide)
    obtain ⟨nL, hnL⟩ : ∃ x, C.length = x := ⟨_, rfl⟩
    rw [hnL] at hIc hcl
    rw [hnL]
    have HIc := Lib.hid hIc
    have HNL := Lib.hid hnL
    clear hIc hnL
    clear g0 g1 g2 g3 hown hccc
    go_wp2_with fail
    refine (HOW.out _ hb28).mono ?_
    rintro e w9 ⟨hwo, hb9⟩
    have hb29 := bseq hb28 hb9
    rcases hwo with ⟨hz, rfl⟩ | ⟨hpos, b, e', hrb, hre, rfl⟩
    · have hn0 : nL = 0 := by
        rcases Nat.eq_zero_or_pos nL with h | h
        · exact h
        · have := nC_pos (C := C) (by rw [HNL.out]; exact h)
          omega
      subst hn0
      go_wp2_with fail
      refine (num_any 90 _).mono ?_
      rintro e w10 ⟨rfl, rfl⟩
      go_wp2_with fail
      go_ret
      exact ⟨rfl, balloc (bseq hW2 hb29)⟩
    · have hnn := nC_le C
      have hn0 : 0 < nL := by rw [← HNL.out]; omega
      have hbx := hrb.le
      have hex := hre.lt
      have hex2 := hre.le
      have hm1 := mk_smono (C := C) (a := b) (b := e') (by omega) hex2
      have hm2 := mk_le hex2
      rw [HNL.out] at hm2
      obtain ⟨P, hP⟩ : ∃ P, x0 + (mkb C b : Int) = P := ⟨_, rfl⟩
      obtain ⟨Q, hQ⟩ : ∃ P, x0 + (mkb C e' : Int) = P := ⟨_, rfl⟩
      rw [hP, hQ]
      have zP : x0 ≤ P ∧ P < Q ∧ Q ≤ x1 ∧ x1 ≤ 1073741824 ∧ 0 ≤ x0 := by have := HM.out; omega
      have q1 : (P < x0) = False := by simp; omega
      have q2 : (x1 < Q) = False := by simp; omega
      have q3 : (Q ≤ P) = False := by simp; omega
      have q4 : ((nL : Int) = 0) = False := by simp; omega
      have q5 : ((nL : Int) == 0) = false := by rw [beq_eq_false_iff_ne]; omega
      go_wp2_with fail
      have hSb := Blk.new w9 40 #[.int .i64 P, .int .i64 Q, .int .i64 0]
      have hb2a : Below w2.heap.size w2 (w9.alloc (.cells #[.int .i64 P, .int .i64 Q, .int .i64 0] 40)) := balloc hb29
      have hbaa : Below w9.heap.size w9 (w9.alloc (.cells #[.int .i64 P, .int .i64 Q, .int .i64 0] 40)) := balloc (Below.refl _ _)
      have hLba := (hLb8.below hb9).below hbaa
      obtain ⟨wa, hwa⟩ : ∃ x, w9.alloc (.cells #[.int .i64 P, .int .i64 Q, .int .i64 0] 40) = x := ⟨_, rfl⟩
      rw [hwa] at hSb hb2a hbaa hLba
      rw [hwa]
      have hSS := fun (wy : World) (hy : Below wa.heap.size wa wy) => span_facts (hSb.below hy)
      have hLLn := fun (wy : World) (hy : Below wa.heap.size wa wy) => line4 (L := ⟨x0, x1, x2, x3⟩) (hLba.below hy)
      dsimp only at hLLn
      have HSS := Lib.hid hSS
      have HLN := Lib.hid hLLn
      have HP := Lib.hid hP
      have HQ := Lib.hid hQ
      have HRB := Lib.hid hrb
      have HRE := Lib.hid hre
      have HPOS := Lib.hid hpos
      clear hSS hLLn hP hQ hrb hre hm1 hm2 hpos
      obtain ⟨c0, c1, c2, -, -, -⟩ := HSS.out _ (Below.refl _ _)
      obtain ⟨d0, d1, -, -⟩ := HLN.out _ (Below.refl _ _)
      refine (num_any 0 _).mono ?_
      rintro e w10 ⟨rfl, rfl⟩
      go_wp2_with fail
      clear c0 c1 c2 d0 d1
      go_loopg [14] (Q - P).toNat (fun k q wr => LadR P Q wa k q wr)
      case atStart => exact ⟨P, rfl, by omega, by omega, Nat.le_refl _, Below.refl _ _⟩
      case round =>
        obtain ⟨p, rfl, hp0, hp1, hk, hw⟩ := hrel
        obtain ⟨c0, c1, c2, -, -, -⟩ := HSS.out _ hw
        obtain ⟨d0, d1, -, -⟩ := HLN.out _ hw
        have hb2r := bseq hb2a hw
        by_cases hlt : p < Q
        · have hpw : Calls Tryz.prog 14 #[.pointer (some ⟨g, 0, none⟩), .int .i64 p, .agg #[.int .i64 61, .int .i64 0, .int .i64 0]] wr fun e w' => e = .returned (.tuple #[.agg #[.int .i64 P, .int .i64 Q, .int .i64 0], .int .i64 0]) ∧ Below wr.heap.size wr w' := by
            obtain ⟨r', hr'⟩ : ∃ r' : Nat, p = x0 + (r' : Int) := ⟨(p - x0).toNat, by omega⟩
            have hP := HP.out
            have hQ := HQ.out
            have hnl := HNL.out
            obtain ⟨j', hj'⟩ := inC_any C r'
            have hr2 : r' < C.length := by omega
            have hjn := hj'.lt hr2
            have hjb : b ≤ j' := by
              rcases Nat.lt_or_ge j' b with h | h
              · have := hj'.high b h (by omega)
                omega
              · exact h
            have hje : j' < e' := by
              rcases Nat.lt_or_ge j' e' with h | h
              · exact h
              · have h1 := mk_mono (C := C) h hj'.le
                have h2 := hj'.low
                omega
            have how := HIN.out wr hb2r r' j' (by rw [HCC.out]; exact hr2) (by rw [HCC.out]; exact hj')
            rw [HCC.out, HLL.out] at how
            dsimp only at how
            rw [← hr'] at how
            refine how.mono ?_
            rintro e w12 ⟨(⟨hz, _⟩ | ⟨_, b2, e2, hb2', he2', rfl⟩), hb12⟩
            · have := HPOS.out; omega
            · have hcx : cellX C j' = j' := by unfold cellX; rw [if_pos hjn]
              rw [hcx] at hb2' he2'
              rw [HRB.out.same_of HRE.out hjb hje hb2', HRB.out.same_of' HRE.out hjb hje he2', hP, hQ]
              exact ⟨rfl, hb12⟩
          have HPW := Lib.hid hpw
          clear hpw
          have hsum : IntKind.i64.wrap (p + 1) = p + 1 := IntWalk.i64_in _ (by omega)
          go_wp2_with fail
          refine (HPW.out).mono ?_
          rintro e w12 ⟨rfl, hb12⟩
          have hSb2 := Blk.new w12 40 #[.int .i64 P, .int .i64 Q, .int .i64 0]
          have hw2 : Below wa.heap.size wa (w12.alloc (.cells #[.int .i64 P, .int .i64 Q, .int .i64 0] 40)) := balloc (bseq hw hb12)
          clear c0 c1 c2 d0 d1
          obtain ⟨c0, c1, c2, -, -, -⟩ := HSS.out _ hw2
          obtain ⟨k0, k1, k2, -, -, -⟩ := span_facts hSb2
          go_wp2_with fail
          refine (num_any 0 _).mono ?_
          rintro e w13 ⟨rfl, rfl⟩
          go_wp2_with fail
          go_roundg (Q - (p + 1)).toNat
          case measure => omega
          case rel => exact ⟨p + 1, by go_num, by omega, by omega, Nat.le_refl _, hw2⟩
        · have hee : p = Q := by omega
          subst hee
          obtain ⟨a, ha⟩ : ∃ a, C.getD (mkb C b) 0 = a := ⟨_, rfl⟩
          have hkd : kd C b = wordF a := by unfold kd; rw [ha]
          have hta3 : ∀ (wy : World) (hy : Below w2.heap.size w2 wy), Calls Tryz.prog 13 #[.pointer (some ⟨g, 0, none⟩), .int .i64 P, .int .i64 (P + 1)] wy fun e w' => NewInts [a] wy e w' := by
            intro wy hy
            have h1 := tatoms_any _ g enc ds P (P + 1) wy (HT.out.below hy) (by omega) (by omega)
            have h2 : seg P (P + 1) (ds.map Prod.fst) = [a] := by
              have hP := HP.out
              have h3 := HC2.out
              rw [HLL.out, HCC.out] at h3
              dsimp only at h3
              have hmb := mk_smono (C := C) (a := b) (b := e') (by omega) hex2
              have hml := mk_le hex2
              rw [HNL.out] at hml
              have hmm := HM.out
              have h4 := seg_getD (ds.map Prod.fst) x0 x1 (mkb C b) (by omega)
              rw [h3, ha] at h4
              rw [h4, show P = ((x0.toNat + mkb C b : Nat) : Int) by omega]
              exact seg_one _ _ (by rw [List.length_map]; omega)
            rw [h2] at h1
            exact h1
          have hsum : IntKind.i64.wrap (P + 1) = P + 1 := IntWalk.i64_in _ (by omega)
          have HA3 := Lib.hid hta3
          have HKD := Lib.hid hkd
          clear hta3 hkd ha
          go_wp2_with fail
          refine (HA3.out _ hb2r).mono ?_
          rintro e w14 ⟨v3, rfl, hown3, hb14⟩
          obtain ⟨A3, c3, rfl, hc3⟩ := own_slice hown3
          obtain ⟨g3, o3, rfl, _, hcell3⟩ := ints_form (l := [a]) (Reads.of_own hown3) (by simp)
          have k3 := hcell3 0 (by simp)
          simp at k3
          clear hcell3 hown3 c0 c1 c2 d0 d1
          have hw14 := bseq hw hb14
          go_wp2_with fail
          refine (word_any a _).mono ?_
          rintro e w15 ⟨rfl, hb15⟩
          have hw15 := bseq hw14 hb15
          by_cases hz : wordF a = 0
          · rw [hz]
            go_wp2_with fail
            go_ret
            exact ⟨rfl, bseq (bseq hW2 hb2a) hw15⟩
          · have hz1 : (wordF a == 0) = false := by rw [beq_eq_false_iff_ne]; exact hz
            have hkx : kd C (cellX C j) ≠ 0 := by
              rw [← HRB.out.same b (Nat.le_refl _) hbx, HKD.out]
              exact hz
            obtain ⟨c0, c1, c2, -, -, -⟩ := HSS.out _ hw15
            have hrw : ∀ T : Int, x0 ≤ T → T < x1 → rowIx ds T false = I := fun T t0 t1 => HROW.out T (by rw [HLL.out]; exact t0) (by rw [HLL.out]; exact t1)
            obtain ⟨T, hTT⟩ : ∃ T, x0 + (mkb C (e' - 1) : Int) = T := ⟨_, rfl⟩
            have hmT := mk_smono (C := C) (a := e' - 1) (b := e') (by omega) hex2
            have hmT2 := mk_le hex2
            rw [HNL.out] at hmT2
            have hrs : ∀ (wy : World) (hy : Below w2.heap.size w2 wy), Calls Tryz.prog 16 #[.pointer (some ⟨g, 0, none⟩), .int .i64 P, .agg #[.int .i64 29, .int .i64 0, .int .i64 0], .bool false] wy fun e w' => LandPost 1 T wy e w' := by
              intro wy hy
              have h1 := hrw P (by omega) (by omega)
              have h2 := wordsRest_any _ g enc ds P b (e' - 1) wy (HT.out.below hy) (by rw [h1, HLL.out, HCC.out]; exact HP.out.symm) (by rw [h1, HLL.out]; show P < x1; omega) (by omega) (by rw [h1, HCC.out]; omega)
                (fun q h3 h4 => by rw [h1, HCC.out]; exact ends_in HRB.out HRE.out h3 h4) (by rw [h1, HCC.out]; exact ends_last HRB.out HRE.out hkx)
              rw [h1, HLL.out, HCC.out] at h2
              dsimp only at h2
              rw [hTT] at h2
              exact h2
            have hbk : b < e' - 1 → ∀ (wy : World) (hy : Below w2.heap.size w2 wy), Calls Tryz.prog 16 #[.pointer (some ⟨g, 0, none⟩), .int .i64 T, .agg #[.int .i64 22, .int .i64 0, .int .i64 0], .bool false] wy fun e w' => LandPost 0 P wy e w' := by
              intro hlt2 wy hy
              have h1 := hrw T (by omega) (by omega)
              have h2 := wordsBack_any _ g enc ds T (e' - 1) b wy (HT.out.below hy) (by rw [h1, HLL.out, HCC.out]; exact hTT.symm) (by rw [h1, HLL.out]; show T < x1; omega) hlt2 (by rw [h1, HCC.out]; omega)
                (fun q h3 h4 => by rw [h1, HCC.out]; exact begins_in HRB.out HRE.out h3 (by omega)) (by rw [h1, HCC.out]; exact begins_first HRB.out HRE.out hkx)
              rw [h1, HLL.out, HCC.out] at h2
              dsimp only at h2
              rw [HP.out] at h2
              exact h2
            have HRS := Lib.hid hrs
            have HBK := Lib.hid hbk
            have HTT := Lib.hid hTT
            clear hrs hbk hTT hrw
            go_wp2_with fail
            refine (HRS.out _ (bseq hb2a hw15)).mono ?_
            rintro e w16 ⟨⟨col, rfl⟩, hb16⟩
            have hw16 := bseq hw15 hb16
            clear c0 c1 c2
            go_upto_region 23 with fail
            have hT1 := HTT.out
            have hQ1 := HQ.out
            have hP1 := HP.out
            obtain ⟨p1, hp1'⟩ : ∃ x, mkb C (e' - 1) = x := ⟨_, rfl⟩
            obtain ⟨n1, hn1⟩ : ∃ x, mkb C e' = x := ⟨_, rfl⟩
            have hnx : ∀ (wy : World) (hy : Below wa.heap.size wa wy), Calls Tryz.prog 17 #[.slice Ac nL cc, .int .i64 (p1 : Int)] wy fun e w' => e = .returned (.int .i64 (n1 : Int)) ∧ Below wy.heap.size wy w' := by
              intro wy hy
              have hnl := HNL.out
              have h1 := next_any _ Ac nL cc C p1 wy (Reads.below HIc.out (bseq (bseq hb9 hbaa) hy)) (by omega) (by omega)
              have h2 := nextF_mk (C := C) (p := p1) (j := e' - 1) (by rw [← hp1']; exact InC.at_mk (by omega)) (by omega)
              rw [show e' - 1 + 1 = e' by omega, hn1] at h2
              rw [h2] at h1
              exact h1
            have hLd := Blk.new w16 47 #[.int .i64 T, .int .i64 1, .int .i64 (col : Int)]
            have hwb : Below wa.heap.size wa (w16.alloc (.cells #[.int .i64 T, .int .i64 1, .int .i64 (col : Int)] 47)) := balloc hw16
            obtain ⟨wb, hwbb⟩ : ∃ x, w16.alloc (.cells #[.int .i64 T, .int .i64 1, .int .i64 (col : Int)] 47) = x := ⟨_, rfl⟩
            rw [hwbb] at hLd hwb
            rw [hwbb]
            have hLF := fun (wy : World) (hy : Below wb.heap.size wb wy) => land_facts (hLd.below hy)
            have hsb2 : IntKind.i64.wrap (T - x0) = (p1 : Int) := by rw [show T - x0 = (p1 : Int) by omega]; exact IntWalk.i64_in _ (by omega)
            have hsb3 : IntKind.i64.wrap (x0 + (n1 : Int)) = p := by rw [show x0 + (n1 : Int) = p by omega]; exact IntWalk.i64_in _ (by omega)
            have HNX := Lib.hid hnx
            have HLF := Lib.hid hLF
            clear hnx hLF hT1 hQ1 hP1 hp1' hn1 k3
            refine wp_region_steady (fun w' => Below wb.heap.size wb w') (by kernel_rfl) (by kernel_rfl) (Below.drew (Below.refl _ _)) ?_
            repeat (first
              | (refine wpSt_read (v := ?_) (by rfl) (fun w6 hSw => ?_) ?_; rotate_left; (· (obtain ⟨c0, c1, c2, -, -, -⟩ := HSS.out _ (bseq hwb hSw); obtain ⟨d0, d1, -, -⟩ := HLN.out _ (bseq hwb hSw); obtain ⟨l0, l1, l2, -, -, -⟩ := HLF.out _ hSw; go_simp; first | done | with_reducible rfl)); (try simp only [Act.put, List.setIfInBounds_toArray, List.set_cons_zero, List.set_cons_succ]))
              | (refine wpSt_not (by rfl) ?_; (try simp only [Act.put, List.setIfInBounds_toArray, List.set_cons_zero, List.set_cons_succ]))
              | (refine wpSt_call (f := ?_) (args := ?_) (v := .int .i64 0) (by rfl) (fun w6 hSw => ?_) (fun w6 hSw => ?_) ?_; rotate_left 2; (· (obtain ⟨c0, c1, c2, -, -, -⟩ := HSS.out _ (bseq hwb hSw); obtain ⟨d0, d1, -, -⟩ := HLN.out _ (bseq hwb hSw); obtain ⟨l0, l1, l2, -, -, -⟩ := HLF.out _ hSw; go_simp; first | done | (constructor <;> with_reducible rfl) | with_reducible rfl)); (· ((with_reducible refine (num_any 0 _).mono ?_); rintro e w5 ⟨rfl, rfl⟩; exact ⟨rfl, hSw⟩)); (try simp only [Act.put, List.setIfInBounds_toArray, List.set_cons_zero, List.set_cons_succ]))
              | (refine wpSt_call (f := ?_) (args := ?_) (v := .int .i64 (n1 : Int)) (by rfl) (fun w6 hSw => ?_) (fun w6 hSw => ?_) ?_; rotate_left 2; (· (obtain ⟨c0, c1, c2, -, -, -⟩ := HSS.out _ (bseq hwb hSw); obtain ⟨d0, d1, -, -⟩ := HLN.out _ (bseq hwb hSw); obtain ⟨l0, l1, l2, -, -, -⟩ := HLF.out _ hSw; go_simp; first | done | (constructor <;> with_reducible rfl) | with_reducible rfl)); (· ((with_reducible refine (HNX.out _ (bseq hwb hSw)).mono ?_); rintro e w5 ⟨rfl, hb5⟩; exact ⟨rfl, bseq hSw hb5⟩)); (try simp only [Act.put, List.setIfInBounds_toArray, List.set_cons_zero, List.set_cons_succ])))
            refine wpSt_nil ?_
            intro w17 hb17
            have hw17 := bseq hwb hb17
            obtain ⟨c0, c1, c2, -, -, -⟩ := HSS.out _ hw17
            obtain ⟨l0, l1, l2, -, -, -⟩ := HLF.out _ hb17
            by_cases hTP : T = P
            · have hTP1 : (T == P) = true := by rw [beq_iff_eq]; exact hTP
              go_wp2_with fail
              go_ret
              exact ⟨rfl, bseq (bseq hW2 hb2a) hw17⟩
            · have hTP1 : (T == P) = false := by rw [beq_eq_false_iff_ne]; exact hTP
              have hlt2 : b < e' - 1 := by
                rcases Nat.lt_or_ge b (e' - 1) with h | h
                · exact h
                · exfalso
                  apply hTP
                  rw [← HTT.out, ← HP.out, show e' - 1 = b by omega]
              go_wp2_with fail
              refine (HBK.out hlt2 _ (bseq hb2a hw17)).mono ?_
              rintro e w18 ⟨⟨col2, rfl⟩, hb18⟩
              have hw18 := bseq hw17 hb18
              clear c0 c1 c2 l0 l1 l2
              have hLd2 := Blk.new w18 47 #[.int .i64 P, .int .i64 0, .int .i64 (col2 : Int)]
              have hw19 : Below wa.heap.size wa (w18.alloc (.cells #[.int .i64 P, .int .i64 0, .int .i64 (col2 : Int)] 47)) := balloc hw18
              obtain ⟨l0, l1, l2, -, -, -⟩ := land_facts hLd2
              obtain ⟨c0, c1, c2, -, -, -⟩ := HSS.out _ hw19
              go_wp2_with fail
              refine (num_any 0 _).mono ?_
              rintro e w20 ⟨rfl, rfl⟩
              go_wp2_with fail
              go_ret
              exact ⟨rfl, bseq (bseq hW2 hb2a) hw19⟩
end Go.Proofs.YtoafogibfokblaaGreat
