/-
  OperateNews: the walk.
-/
import Derived.Test.YtcdhfmkfkhhnoaaGreatLBegun
import Derived.Test.YtcdhfmkfkhhnoaaGreatLBoth2
import Derived.Lib.SlBytesConst
set_option linter.unusedSimpArgs false
set_option linter.unusedVariables false
namespace Go.Proofs.YtcdhfmkfkhhnoaaGreat
open Go.RowKit

/-- blocks that may turn: g, if n is not 0 -/
def OneIf (n g : Nat) : Nat → Prop := fun b => 0 < n ∧ b = g
theorem keepBut_if {n g : Nat} {T : TypeId} {w w' : World} (h : Fr (OneIf n g) w w') (hb : 0 < n → ∃ cs, Blk w g T cs) : KeepBut T w w' := by
  intro b o ho hn
  have hlt := (Array.getElem?_eq_some_iff.1 ho).1
  rw [h.block b hlt (fun e => ?_)]
  · exact ho
  · obtain ⟨h1, rfl⟩ := e
    obtain ⟨cs, hcs⟩ := hb h1
    unfold Blk at hcs
    rw [hcs] at ho
    injection ho with ho
    exact hn _ _ ho.symm
theorem TextL.frIf {n k : Nat} {w w' : World} {D : Nat → Prop} {g : Nat} {enc lim : Int} {ds ats : List (Int × Int)} (h : TextL w D g enc lim ds ats) (hf : Fr (OneIf n k) w w') (hb : 0 < n → ∃ cs, Blk w k 5 cs) (hD : ¬ D k) : TextL w' D g enc lim ds ats := by
  obtain ⟨t, a, add, h, e⟩ := h
  refine ⟨t, a, add, ⟨h.blk.fr hf (fun e => ?_), h.enc4, NodeAt.keepBut (keepBut_if hf hb) (by decide) t a h.node, h.len, h.tot, h.ok, fun p hp => Reads.fr (h.bts p hp) hf (fun b h1 _ h2 => ?_)⟩, e⟩
  · obtain ⟨h1, h2⟩ := e
    obtain ⟨cs, hcs⟩ := hb h1
    exact Blk.ne_ hcs h.blk (by decide) h2.symm
  · obtain ⟨_, rfl⟩ := h2
    exact hD h1
theorem EmptyMap.frIf {n k m : Nat} {w w' : World} (h : EmptyMap w m) (hf : Fr (OneIf n k) w w') (hne : m ≠ k) : EmptyMap w' m := h.fr hf (fun e => hne e.2)
theorem NewDesk.frIf {B n k : Nat} {enc lim native depth : Int} {l : List Int} {w w' : World} {gd gb gt m gk mk : Nat} (h : NewDesk B enc lim native depth l w gd gb gt m gk mk) (hf : Fr (OneIf n k) w w') (hb : 0 < n → ∃ cs, Blk w k 5 cs) (hk : k < B) : NewDesk B enc lim native depth l w' gd gb gt m gk mk := by
  have hge := h.ge
  exact ⟨Blk.fr h.desk hf (fun e => by have := e.2; omega), ⟨h.book.1.fr hf (fun e => by have := e.2; omega), h.book.2.frIf hf (by omega)⟩, h.text.frIf hf hb (by omega), ⟨h.bank.1.fr hf (fun e => by have := e.2; omega), h.bank.2.frIf hf (by omega)⟩, hge⟩
theorem own_frIf {w w' : World} {B e size n n' k : Nat} {v : Value} {xs : List Value} (h : w.ownsRow B e size v n xs) (hf : Fr (OneIf n' k) w w') (hk : k < B) : w'.ownsRow B e size v n xs := by
  refine ⟨h.1, ?_⟩
  rcases h.2 with h0 | ⟨g, cap, cur, rfl, h1, h2, h3⟩
  · exact .inl h0
  · refine .inr ⟨g, cap, cur, rfl, h1, ?_, h3⟩
    rw [hf.block g (Array.getElem?_eq_some_iff.1 h2).1 (fun e => by have := e.2; omega)]
    exact h2
theorem RNewDesk.frIf {B n k : Nat} {enc lim native depth : Int} {l : List Int} {w w' : World} {gd gb gt gk : Nat} {ld : Value} (h : RNewDesk B enc lim native depth l w gd gb gt gk ld) (hf : Fr (OneIf n k) w w') (hk : k < B) : RNewDesk B enc lim native depth l w' gd gb gt gk ld := by
  obtain ⟨va, vt, t1, t2, t3⟩ := h.text
  have hge := h.ge
  exact ⟨Blk.fr h.desk hf (fun e => by have := e.2; omega), h.book.fr hf (fun e => by have := e.2; omega), own_frIf h.loaded hf hk, ⟨va, vt, Blk.fr t1 hf (fun e => by have := e.2; omega), own_frIf t2 hf hk, own_frIf t3 hf hk⟩, hge⟩
def GivenR (l : List Int) (w0 : World) (k : Nat) (q13 q14 : Value) (wr : World) : Prop :=
  ∃ i : Nat, q14 = .int .i64 (i : Int) ∧ i ≤ l.length ∧ l.length - i ≤ k ∧ Hid (wr.ownsRow w0.heap.size 5 1 q13 i ((l.take i).map (Value.int .u8))) ∧ Below w0.heap.size w0 wr
def FlipR (n g : Nat) (wB : World) (k : Nat) (q19 : Value) (wr : World) : Prop :=
  ∃ i : Nat, q19 = .int .i64 (i : Int) ∧ i ≤ n ∧ n - i ≤ k ∧ Fr (OneIf n g) wB wr ∧ (0 < n → ∃ cur : Array Value, Blk wr g 5 cur ∧ ∀ j, j < n → ∃ x : Int, cur[j]? = some (.int .u8 x))
theorem given_form {w : World} {B n : Nat} {v : Value} {l : List Int} (h : w.ownsRow B 5 1 v n (l.map (Value.int .u8))) (hl : l.length = n) :
    ∃ A g c, v = .slice A n c ∧ n ≤ c ∧ (0 < n → A = some ⟨g, 0, none⟩ ∧ B ≤ g ∧ ∃ cur : Array Value, Blk w g 5 cur ∧ ∀ j, j < n → ∃ x : Int, cur[j]? = some (.int .u8 x)) := by
  rcases h.2 with ⟨rfl, h0⟩ | ⟨g, cap, cur, rfl, hB, hg, hc, _, h5, h6⟩
  · exact ⟨none, 0, 0, by rw [h0], by omega, fun h => absurd h (by omega)⟩
  · refine ⟨_, g, cap, rfl, hc, fun h0 => ⟨rfl, hB, cur, hg, fun j hj => ⟨l.getD j 0, ?_⟩⟩⟩
    have : (l.map (Value.int .u8))[j]? = some (.int .u8 (l.getD j 0)) := by
      rw [List.getElem?_map, List.getD_eq_getElem?_getD, List.getElem?_eq_getElem (by omega)]
      rfl
    rw [← h6, List.getElem?_take, if_pos (by omega), Array.getElem?_toList] at this
    exact this
set_option maxRecDepth 100000 in
set_option maxHeartbeats 16000000 in
theorem news_any (enc lim native depth : Int) (A : Option Addr) (n c : Nat) (l : List Int) (w : World) (hl : Bts w Any A n l) (hB : Byt l) (hcap : n ≤ c) :
    Calls Tryz.prog 3 #[.int .i64 enc, .slice A n c, .int .i64 lim, .int .i64 native, .int .i64 depth] w fun e w' => e = .returned (.bool true) ∧ Below w.heap.size w w' := by
  have hle := hl.len
  by_cases hbig : 4096 < n
  · have q : ((4096 : Int) < (n : Int)) = True := by simp; omega
    go_enter Tryz.func3, Tryz.ntmps3
    go_wp2_with fail
    go_ret
    exact ⟨rfl, Below.refl _ _⟩
  · have q : ((4096 : Int) < (n : Int)) = False := by simp; omega
    obtain ⟨ib, hib, hb0, hb1', hb2'⟩ := info_parts byte_info
    have kc := fun (w : World) (C : Array Value) (n c : Nat) => Lib.run_convert_bytes_const (P := Tryz.prog) w 22 5 C n c Tryz.underlying22 Tryz.underlying5
    have hab : Bts (w.alloc (.cells #[.int .u8 97, .int .u8 98] 5 (2, 3))) Any (some ⟨w.heap.size, 0, none⟩) 2 [97, 98] := ⟨rfl, fun _ => ⟨_, rfl, trivial, fun j u hu => by
      have e : (⟨w.heap.size, 0, none⟩ : Addr).add j = ⟨w.heap.size, j, none⟩ := by
        by_cases hj : j = 0
        · subst hj; rw [add_zero]
        · rw [add_pos _ _ (by omega)]; simp
      rw [e, cell_of_row _ _ j #[.int .u8 97, .int .u8 98] 5 (2, 3) (heap_alloc_new w _)]
      rw [← hu]
      simp⟩⟩
    have hbg := begun_any ⟨0, 0, 0, 0, [97, 98]⟩ _ 2 2 _ hab (by intro x hx; simp at hx; omega) ⟨by decide, by decide⟩ ⟨by decide, by decide⟩ ⟨by decide, by decide⟩
    dsimp only at hbg
    have HBG := Lib.hid hbg
    clear hbg hab
    go_enter Tryz.func3, Tryz.ntmps3
    go_wp2_with fail
    refine (HBG.out).mono ?_
    rintro e w1 ⟨xd, xb, xt, xm, xk, xq, yd, yb, yt, yk, yl, rfl, -, hb1⟩
    have hw1 : Below w.heap.size w w1 := bseq (balloc (Below.refl _ _)) hb1
    clear HBG
    go_wp2_with fail
    have hw1a : Below w.heap.size w (w1.alloc (.cells #[.pointer (some ⟨xd, 0, none⟩), .pointer (some ⟨yd, 0, none⟩)] 26)) := balloc hw1
    obtain ⟨w0, hw0⟩ : ∃ x, w1.alloc (.cells #[.pointer (some ⟨xd, 0, none⟩), .pointer (some ⟨yd, 0, none⟩)] 26) = x := ⟨_, rfl⟩
    have hsz0 : 0 < (w1.alloc (.cells #[.pointer (some ⟨xd, 0, none⟩), .pointer (some ⟨yd, 0, none⟩)] 26)).heap.size := by simp
    rw [hw0] at hw1a hsz0
    rw [hw0]
    clear hw0
    go_loopg [13, 14] n (fun k q13 q14 wr => GivenR l w0 k q13 q14 wr)
    case atStart => exact ⟨0, rfl, Nat.zero_le _, by omega, Lib.hid (World.ownsRow_nil _ _ _ _), Below.refl _ _⟩
    case round =>
      obtain ⟨i, rfl, hi, hk, hown, hb⟩ := hrel
      have hs0 := hb.size
      by_cases hlt : i < n
      · obtain ⟨ad, rfl, _, cx⟩ := Bts.at_ (Reads.below (Reads.below hl hw1a) hb) hlt
        have bx := hB.at_ i
        obtain ⟨x, hx⟩ : ∃ x, l.getD i 0 = x := ⟨_, rfl⟩
        rw [hx] at cx bx
        have HX := Lib.hid hx
        clear hx
        go_wp2_with (at_builtin; refine wpList_append_own_at _ rfl (.tmp 39) (.tmp 44) 22 rfl w0.heap.size 5 ib (.int .u8 0) 1 1 Tryz.underlying22 hib hb0 hb1' hb2' rfl (by decide) u13 i _ rfl (hown.out.alloc _) ⟨wr.heap.size, 0, none⟩ 1 1 [.int .u8 x] rfl rfl (cell_one_new _ _ _) (by simp [Value.oneCell']) (by unfold maxLen; omega) (by omega) (by simp; omega) ?_)
        intro v1 w2 hown1 hgr _ _
        have hb1 : Below w0.heap.size w0 w2 := below_grown2 (balloc hb) hgr (fun k hk => own_ge hown.out hk)
        have HO := Lib.hid hown1
        clear hown1 hgr hib hb0 hb1' hb2' cx
        go_wp2_with fail
        go_roundg (n - (i + 1))
        case measure => omega
        case rel =>
          refine ⟨i + 1, by go_num, by omega, by omega, Lib.hid ?_, hb1⟩
          have hx := HX.out
          rw [List.getD_eq_getElem?_getD, List.getElem?_eq_getElem (by omega)] at hx
          simp at hx
          rw [List.take_succ_eq_append_getElem (by omega), List.map_append, hx, List.map_take]
          exact HO.out
      · obtain rfl : i = l.length := by omega
        have ho := hown.out
        rw [List.take_length] at ho
        rw [hle] at ho ⊢
        obtain ⟨A4, g, k4, rfl, hk4, hform⟩ := given_form ho hle
        have hI : Bts wr Any A4 n l := by
          rcases ho.2 with ⟨e1, e2⟩ | ⟨g', cap, cur, e1, _⟩
          · exact ⟨by simp; omega, fun h => absurd h (by omega)⟩
          · rw [e1] at ho
            injection e1 with e1 e2 e3
            subst e1
            exact Reads.more (Reads.of_own ho) (fun _ _ _ => trivial) (by decide)
        obtain ⟨g, hgl, hform⟩ : ∃ g, g < wr.heap.size ∧ (0 < n → A4 = some ⟨g, 0, none⟩ ∧ w0.heap.size ≤ g ∧ ∃ cur : Array Value, Blk wr g 5 cur ∧ ∀ j, j < n → ∃ x : Int, cur[j]? = some (.int .u8 x)) := by
          by_cases h : 0 < n
          · exact ⟨g, by obtain ⟨_, _, cur, hc, _⟩ := hform h; exact hc.lt, hform⟩
          · exact ⟨0, by omega, fun h' => absurd h' h⟩
        have hdat := Reads.below (Reads.below hl hw1a) hb
        have hwr := bseq hw1a hb
        have HI := Lib.hid hI
        have HDAT := Lib.hid hdat
        have HFORM := Lib.hid hform
        clear hI hdat hform ho hown hib hb0 hb1' hb2'
        by_cases hne : newErr enc lim native depth n = 0
        · have r1 := r12new_any enc lim native depth Any A n c l wr HDAT.out hB hcap hne
          have r2 := fun (w' : World) (hb' : Below wr.heap.size wr w') => onew_any enc lim native depth Any A4 n k4 l w' (Reads.below HI.out hb') hB hk4 hne
          have R1 := Lib.hid r1
          have R2 := Lib.hid r2
          clear r1 r2 hne hle hi hlt hk
          go_wp2_with fail
          refine (R1.out).mono ?_
          rintro e w2 ⟨gd', gb', gt', gk', ld, rfl, hR, hb2⟩
          go_wp2_with fail
          refine (R2.out _ hb2).mono ?_
          rintro e w3 ⟨gd, gb, gt, m, gk, mk, rfl, hD, hb3⟩
          have hR3 := hR.below hb3
          have hD3 := hD.base hb2.size
          have hb23 := bseq hb2 hb3
          have hf3 : 0 < n → A4 = some ⟨g, 0, none⟩ ∧ ∃ cur : Array Value, Blk w3 g 5 cur ∧ ∀ j, j < n → ∃ x : Int, cur[j]? = some (.int .u8 x) := fun h => by
            obtain ⟨h1, -, cur, h2, h3⟩ := HFORM.out h
            exact ⟨h1, cur, h2.below hb23, h3⟩
          have hgw : 0 < n → w.heap.size ≤ g := fun h => by
            obtain ⟨h1, h2, -⟩ := HFORM.out h
            have := hw1a.size
            omega
          have HR := Lib.hid hR3
          have HD := Lib.hid hD3
          have HF3 := Lib.hid hf3
          have HGW := Lib.hid hgw
          have hw3 := bseq hwr hb23
          clear hR hR3 hD hD3 hf3 hgw R1 R2 HFORM HI HDAT
          go_wp2_with fail
          go_loopg [19] n (fun k q19 wr => FlipR n g w3 k q19 wr)
          case atStart => exact ⟨0, rfl, Nat.zero_le _, by omega, Fr.refl _ _, fun h => (HF3.out h).2⟩
          case round =>
            obtain ⟨i, rfl, hi, hk, hfr, hcu⟩ := hrel
            have hs := hfr.size
            by_cases hlt : i < n
            · obtain ⟨cur, hcb, hx⟩ := hcu (by omega)
              obtain ⟨x, hxi⟩ := hx i hlt
              obtain ⟨hA, -⟩ := HF3.out (by omega)
              obtain ⟨ad, had⟩ : ∃ ad, ad = (⟨g, 0, none⟩ : Addr) := ⟨_, rfl⟩
              rw [← had] at hA
              subst hA
              have ea : ad.add i = ⟨g, i, none⟩ := by
                rw [had]
                by_cases hi0 : i = 0
                · subst hi0; rw [add_zero]
                · rw [add_pos _ _ (by omega)]; simp
              have cc : wr.cell? (ad.add i) = some (.int .u8 x) := by rw [ea, hcb.cell i]; exact hxi
              have ff : wr.frozen? (ad.add i) = false := by rw [ea]; exact hcb.frozen i
              have HAD := Lib.hid had
              have x1 : (0 : Int) ≤ (i : Int) := by omega
              have x2 : (i : Int) < (n : Int) := by omega
              have HX := Lib.hid hx
              have HE := Lib.hid ea
              have HXI := Lib.hid hxi
              clear hx hcu ea hxi had
              go_wp2_with fail
              go_roundg (n - (i + 1))
              case measure => omega
              case rel =>
                rw [HE.out]
                refine ⟨i + 1, by go_num, by omega, by omega, hfr.setCell (.inl ⟨by omega, rfl⟩) _, fun _ => ⟨_, hcb.set_ i _, fun j hj => ?_⟩⟩
                by_cases hji : i = j
                · subst hji
                  have := (Array.getElem?_eq_some_iff.1 HXI.out).1
                  exact ⟨_, by rw [Array.getElem?_setIfInBounds, if_pos rfl, if_pos this]⟩
                · obtain ⟨y, hy⟩ := HX.out j hj
                  exact ⟨y, by rw [Array.getElem?_setIfInBounds, if_neg hji]; exact hy⟩
            · have hD4 := HD.out.frIf hfr (fun h => ⟨_, (HF3.out h).2.choose_spec.1⟩) hgl
              have hR4 := HR.out.frIf hfr hgl
              have hw4 : Below w.heap.size w wr := ⟨hfr.os.trans hw3.os, hfr.tape.trans hw3.tape, hfr.output.trans hw3.output, Nat.le_trans hw3.size hfr.size, fun k hk => (hfr.block k (Nat.lt_of_lt_of_le hk hw3.size) (fun e => by have h1 := HGW.out e.1; have h2 := e.2; omega)).trans (hw3.block k hk)⟩
              obtain ⟨d0, d1, -, d3, d4, d5, d6, -, -, -⟩ := cells10 (show Blk wr gd _ _ from hD4.desk)
              have HD4 := Lib.hid hD4
              have HR4 := Lib.hid hR4
              clear hD4 hR4 hcu HD HR HF3
              go_wp2_with fail
              have hN : BothNew _ _ _ _ _ _ (wr.alloc (.cells #[.pointer (some ⟨gd, 0, none⟩), .pointer (some ⟨gd', 0, none⟩)] 26)) wr.heap.size _ _ _ _ _ _ _ _ _ _ _ := ⟨Blk.new wr _ _, HD4.out.below (balloc (Below.refl _ _)), HR4.out.below (balloc (Below.refl _ _))⟩
              have hwN : Below w.heap.size w (wr.alloc (.cells #[.pointer (some ⟨gd, 0, none⟩), .pointer (some ⟨gd', 0, none⟩)] 26)) := balloc hw4
              have hgB : wr.heap.size = wr.heap.size := rfl
              obtain ⟨wN, hwNe⟩ : ∃ x, wr.alloc (.cells #[.pointer (some ⟨gd, 0, none⟩), .pointer (some ⟨gd', 0, none⟩)] 26) = x := ⟨_, rfl⟩
              rw [hwNe] at hN hwN
              rw [hwNe]
              obtain ⟨gB, hgBe⟩ : ∃ x, wr.heap.size = x := ⟨_, rfl⟩
              rw [hgBe] at hN
              rw [hgBe]
              have HN := Lib.hid hN
              clear hN hwNe hgB hgBe hw4 hfr hs d0 d1 d3 d4 d5 d6
              refine (btext_new _ _ _ _ _ _ _ _ _ _ _ _ _ _ _ _ _ _ _ HN.out).mono ?_
              rintro e w5 ⟨rfl, hb5⟩
              go_wp2_with fail
              refine (bmarks_new _ _ _ _ _ _ _ _ _ _ _ _ _ _ _ _ _ _ _ (HN.out.below hb5)).mono ?_
              rintro e w6 ⟨rfl, hb6⟩
              have hb6' := bseq hb5 hb6
              go_wp2_with fail
              refine (bbook_new _ _ _ _ _ _ _ _ _ _ _ _ _ _ _ _ _ _ _ (HN.out.below hb6')).mono ?_
              rintro e w7 ⟨rfl, hb7⟩
              have hb7' := bseq hb6' hb7
              have hN7 := HN.out.below hb7'
              obtain ⟨-, d1, -⟩ := cells10 (show Blk w7 gd _ _ from hN7.D.desk)
              have HN7 := Lib.hid hN7
              clear hN7
              go_wp2_with fail
              refine (names_new _ _ _ HN7.out.D.bank).mono ?_
              rintro e w8 ⟨rfl, hb8⟩
              go_wp2_with fail
              go_ret
              exact ⟨rfl, bseq hwN (bseq hb7' hb8)⟩
        · have r1 := r12new_err enc lim native depth A n c wr hne
          have r2 := onew_err enc lim native depth A4 n k4 wr hne
          obtain ⟨E, hE⟩ : ∃ E, newErr enc lim native depth n = E := ⟨_, rfl⟩
          rw [hE] at r1 r2
          have q2 : (E != E) = false := by simp
          have R1 := Lib.hid r1
          have R2 := Lib.hid r2
          clear r1 r2 hE hne
          go_wp2_with fail
          refine (R1.out).mono ?_
          rintro e w2 ⟨rfl, rfl⟩
          go_wp2_with fail
          refine (R2.out).mono ?_
          rintro e w2 ⟨rfl, rfl⟩
          go_wp2_with fail
          go_ret
          exact ⟨rfl, hwr⟩
end Go.Proofs.YtcdhfmkfkhhnoaaGreat
