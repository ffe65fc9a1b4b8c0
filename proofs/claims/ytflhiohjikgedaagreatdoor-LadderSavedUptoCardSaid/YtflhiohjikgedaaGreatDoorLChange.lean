/-
  The walk of Text.Change.
-/
import Derived.Test.YtflhiohjikgedaaGreatDoorLChangeLaw
set_option linter.unusedSimpArgs false
set_option linter.unusedVariables false
set_option maxRecDepth 100000
set_option maxHeartbeats 32000000
namespace Go.Proofs.YtflhiohjikgedaaGreatDoor
open Go.RowKit
def ChgR (B g : Nat) (enc lim : Int) (n : Nat) (add : Value) (xs : List Value) (ds ats : List (Int × Int)) (es : List Ed) (w : World) (k : Nat) (q6 : Value) (wr : World) : Prop :=
 ∃ (j : Nat) (add' : Value) (n' : Nat) (xs' : List Value), q6 = .int .i64 ((j : Int) - 1) /\ Hid (ReplR g add add' n n' B xs xs' enc lim (edD enc (es.drop j) ds) (edA (es.drop j) ats) w wr) /\ (n' : Int) <= n + putB enc (es.drop j) /\ j <= es.length /\ j <= k
def ChgPost (B g : Nat) (enc lim : Int) (n : Nat) (add : Value) (xs : List Value) (ds ats : List (Int × Int)) (es : List Ed) (w w' : World) : Prop :=
 ∃ (add' : Value) (n' : Nat) (xs' : List Value), ReplR g add add' n n' B xs xs' enc lim (edD enc es ds) (edA es ats) w w' /\ n' <= n + 131072
theorem ReplR.below {B g : Nat} {enc lim : Int} {n n' : Nat} {add add' : Value} {xs xs' : List Value} {ds ats : List (Int × Int)} {w w1 w2 : World} (h : ReplR g add add' n n' B xs xs' enc lim ds ats w w1) (hr : w.ownsRow B 5 1 add n xs) (hb : Below w1.heap.size w1 w2) : ReplR g add add' n n' B xs xs' enc lim ds ats w w2 := by
 obtain ⟨t, a, h1, h2, h3, h4⟩ := h
 exact ⟨t, a, h1.below hb, h2.loc (S := No) (Fr.of_below hb) (fun _ hs => hs.elim) hr, h3, h4⟩
theorem change_any (B g : Nat) (enc lim : Int) (n : Nat) (add : Value) (t : Tr) (a : Option Addr) (xs : List Value) (D : Nat -> Prop) (A : Option Addr) (m c : Nat) (es : List Ed) (w : World) (h : TextM w B g enc lim n add t a xs) (he : EdsAt w D A m es) (hD : ∀ b, D b -> b ≠ g /\ add.ownBlock ≠ some b) (hp : putN es <= 268435456)
    (hlim : lim <= 65536) (hsz : szS (decL enc t.list) <= 65536) (hn : n + 131072 <= 1073741824) :
    Calls Tryz.prog 13 #[.pointer (some ⟨g, 0, none⟩), .slice A m c] w fun e w' => e = .returned (.int .i64 (refF enc lim (decL enc t.list) es)) /\ (refF enc lim (decL enc t.list) es ≠ 0 -> Below w.heap.size w w') /\
      (refF enc lim (decL enc t.list) es = 0 -> ChgPost B g enc lim n add xs (decL enc t.list) (atsL enc t.list) es w w') := by
  have hK := refuse_any Any D g enc lim t a add A m c es w h.text he hp
  have hml := he.len
  have hdpos := decL_pos enc t.list
  obtain ⟨D', hDD⟩ : ∃ D' : Nat -> Prop, D' = fun b => D b /\ b < w.heap.size := ⟨_, rfl⟩
  have he' : EdsAt w D' A m es := he.more (fun b h1 h2 => by rw [hDD]; exact ⟨h1, h2⟩)
  have hD' : ∀ b, D' b -> b ≠ g /\ add.ownBlock ≠ some b /\ b < w.heap.size := fun b hb => by
    rw [hDD] at hb
    exact ⟨(hD b hb.1).1, (hD b hb.1).2, hb.2⟩
  clear hDD hD he
  by_cases hz : refF enc lim (decL enc t.list) es = 0
  · obtain ⟨o1, o2, o3, o4, o5⟩ := refF_ok hdpos hz hlim hsz
    rw [hz] at hK ⊢
    have hL := h.text.decLen
    have hal : (atsL enc t.list).length = (decL enc t.list).length := atsL_len enc _
    obtain ⟨ds, hds⟩ : ∃ ds, decL enc t.list = ds := ⟨_, rfl⟩
    obtain ⟨ats, hats⟩ : ∃ ats, atsL enc t.list = ats := ⟨_, rfl⟩
    rw [hds] at hL hal hdpos o2 o5 hsz ⊢
    rw [hats] at hal ⊢
    have HK := Lib.hid hK
    have HH := Lib.hid h
    have HE := Lib.hid he'
    have HORD := Lib.hid o2
    have HFIT := Lib.hid o3
    have HDS := Lib.hid hds
    have HATS := Lib.hid hats
    have HAL := Lib.hid hal
    clear hK h he' o2 o3 hds hats hz hal
    go_enter Tryz.func13, Tryz.ntmps13
    go_wp2_with fail
    refine (HK.out).mono ?_
    rintro e w1 ⟨rfl, hb1⟩
    have e1 : IntKind.i64.wrap ((m : Int) - 1) = (m : Int) - 1 := IntWalk.i64_in _ (by omega)
    go_wp2_with fail
    go_loopg [6] es.length (fun k q6 wr => ChgR B g enc lim n add xs ds ats es w k q6 wr)
    case atStart =>
      refine ⟨m, add, n, xs, rfl, Lib.hid ⟨t, a, HH.out.below hb1, TStep.below HH.out.row hb1, ?_, ?_⟩, ?_, by omega, by omega⟩
      · rw [<- hml, List.drop_length]
        exact HDS.out
      · rw [<- hml, List.drop_length]
        exact HATS.out
      · rw [<- hml, List.drop_length]
        simp [putB]
    case round =>
      obtain ⟨j, add', n', xs', rfl, hR, hnn, hj, hgk⟩ := hrel
      obtain ⟨w2, hw2⟩ : ∃ x, x = wr := ⟨_, rfl⟩
      subst hw2
      by_cases hj0 : 0 < j
      · have q1 : ((0 : Int) <= (j : Int) - 1) = True := by simp; omega
        obtain ⟨i, rfl⟩ : ∃ i, j = i + 1 := ⟨j - 1, by omega⟩
        obtain ⟨t2, a2, hT2, hS2, hd2, ha2⟩ := hR.out
        have hE2 := HE.out.fr hS2.fr (fun b hb _ hs => hs.elim (fun e => (hD' b hb).1 e) (fun e => (hD' b hb).2.1 e))
        obtain ⟨eb, eo, ed, rfl, hed, hD2, z0, z1, z2⟩ := hE2.at_ (show i < m by omega)
        have hmem := List.mem_of_getElem? hed
        have hput := hE2.put ed hmem
        have hrng := ordF_mem es 0 ds.length HORD.out (Int.le_refl _) ed hmem
        have hfit := fitF_mem HFIT.out ed hmem
        have hpb := putB_mem enc es ed hmem
        have hge := szL_ge enc ed.put hfit
        have hdr : es.drop i = ed :: es.drop (i + 1) := by
          rw [List.getElem?_eq_getElem (by omega)] at hed
          injection hed with hed
          rw [List.drop_eq_getElem_cons (by omega), hed]
        have hordd := ordF_drop es 0 ds.length i ed HORD.out hed
        have hcl := edL_len (fun x => (x, szA enc x)) (es.drop (i + 1)) ed.t ds hordd (by omega) hrng.2.2
        have hsz2 := edD_sz (enc := enc) hdpos (es.drop (i + 1)) ed.t hordd (by omega)
        have hrm := remB_ge hdpos (es.drop (i + 1)) ed.t hordd (by omega)
        have hpd := putB_drop enc es (i + 1)
        have hpl := putL_sz enc ed.put hfit
        have hput1 := hput.len
        have htb := totB_dec hT2.tree.pcs.ok
        rw [hd2] at htb
        have hb3 : Below w2.heap.size w2 (w2.alloc (.cells #[.int .i64 ed.f, .int .i64 ed.t, .slice ed.A ed.n ed.c] 45)) := balloc (Below.refl _ _)
        have hT3 := hT2.below hb3
        have hown : ∀ b, D' b -> b ≠ g /\ add'.ownBlock ≠ some b := fun b hb => ⟨(hD' b hb).1, fun hh => by
          rcases hS2.own b hh with h1 | h1
          · exact (hD' b hb).2.1 h1
          · have := (hD' b hb).2.2; omega⟩
        have hcc : ed.t <= ((decL enc t2.list).length : Int) := by rw [hd2]; exact hcl
        have hbyt2 : szS (edD enc (es.drop (i + 1)) ds) = ((edD enc (es.drop (i + 1)) ds).map Prod.snd).sum := rfl
        have hsz3 : totB t2.list <= 196608 := by
          have e0 : edL (fun x => (x, szA enc x)) (es.drop (i + 1)) ds = edD enc (es.drop (i + 1)) ds := rfl
          omega
        have hpc : putB enc (es.drop i) = szL_ enc ed.put + putB enc (es.drop (i + 1)) := by rw [hdr, putB_cons]
        have hpd0 := putB_drop enc es i
        have hrp := repl_any B g enc lim n' add' t2 a2 xs' ed.f ed.t ed.put D' ed.A ed.n ed.c _ hT3 (by omega) hrng.2.1 hcc (Reads.below hput hb3) hown hfit (by omega) (by omega) (by omega)
        have hjoin : ∀ w4 add2, ReplR g add' add2 n' (n' + (putL enc ed.put).length) B xs' (xs' ++ (putL enc ed.put).map (Value.int .u8)) enc lim ((decL enc t2.list).take ed.f.toNat ++ withSz enc ed.put ++ (decL enc t2.list).drop ed.t.toNat) ((atsL enc t2.list).take ed.f.toNat ++ ed.put.map (fun x => (x, -1)) ++ (atsL enc t2.list).drop ed.t.toNat) (w2.alloc (.cells #[.int .i64 ed.f, .int .i64 ed.t, .slice ed.A ed.n ed.c] 45)) w4 ->
            ReplR g add add2 n (n' + (putL enc ed.put).length) B xs (xs' ++ (putL enc ed.put).map (Value.int .u8)) enc lim (edD enc (es.drop i) ds) (edA (es.drop i) ats) w w4 := by
          rintro w4 add2 ⟨t4, a4, r1, r2, r3, r4⟩
          refine ⟨t4, a4, r1, (hS2.loc (S := No) (Fr.of_below hb3) (fun _ hs => hs.elim) HH.out.row).trans r2 HH.out.row HH.out.ne, ?_, ?_⟩
          · rw [r3, hd2, hdr]
            rfl
          · rw [r4, ha2, hdr]
            rfl
        have hsame : ed.f = ed.t -> ed.put = [] -> ReplR g add add' n n' B xs xs' enc lim (edD enc (es.drop i) ds) (edA (es.drop i) ats) w (w2.alloc (.cells #[.int .i64 ed.f, .int .i64 ed.t, .slice ed.A ed.n ed.c] 45)) := by
          intro h1 h2
          have h3 := hR.out.below HH.out.row hb3
          have e1 : edD enc (es.drop i) ds = edD enc (es.drop (i + 1)) ds := by rw [hdr]; exact ed1_none _ ed _ (by omega) h1 h2
          have e2 : edA (es.drop i) ats = edA (es.drop (i + 1)) ats := by rw [hdr]; exact ed1_none _ ed _ (by omega) h1 h2
          rw [e1, e2]
          exact h3
        have hpz : 0 <= szL_ enc ed.put := (szL_bd enc ed.put).1
        have hbn : ((n' + (putL enc ed.put).length : Nat) : Int) <= n + putB enc (es.drop i) := by omega
        have hbn0 : (n' : Int) <= n + putB enc (es.drop i) := by omega
        have hlen0 : ed.put.length = ed.n := hput1
        have hempty : ed.n = 0 -> ed.put = [] := fun h => List.eq_nil_of_length_eq_zero (by omega)
        have hft := hrng.2.1
        have e6 : (((i + 1 : Nat) : Int) - 1) = (i : Int) := by omega
        have e7 : IntKind.i64.wrap ((i : Int) - 1) = (i : Int) - 1 := IntWalk.i64_in _ (by omega)
        have q0 : ((0 : Int) <= (i : Int)) = True := by simp
        obtain ⟨ef, et, eA, en, ec, eput⟩ := ed
        dsimp only at z0 z1 z2 hrp hjoin hsame hbn hft hempty
        rw [e6]
        have HRP := Lib.hid hrp
        have HJ := Lib.hid hjoin
        have HSM := Lib.hid hsame
        have HBN := Lib.hid hbn
        have HBN0 := Lib.hid hbn0
        have HEM := Lib.hid hempty
        clear hrp hjoin hsame hbn hbn0 hempty hdr hed hmem hput hfit hcl hsz2 hrm hpd hpl htb hT3 hown hcc hbyt2 hpc hpz e6 q1 hR hT2 hS2 hd2 ha2 hE2 hordd hlen0 hput1 hrng hsz3 hpb hge hb3 hpd0
        by_cases hc1 : ef < et
        · have q1 : (ef < et) = True := eq_true hc1
          clear hc1
          go_wp2_with fail
          refine (HRP.out).mono ?_
          rintro e w4 ⟨rfl, add2, hR4⟩
          have HR4 := Lib.hid (HJ.out _ _ hR4)
          clear hR4
          go_wp2_with fail
          go_roundg i
          case measure => omega
          case rel => exact ⟨i, add2, _, _, rfl, HR4, HBN.out, by omega, by omega⟩
        · have q1 : (ef < et) = False := eq_false hc1
          by_cases hc2 : 0 < en
          · have q2 : ((0 : Int) < (en : Int)) = True := by simp; omega
            have q3 : (0 < en) = True := by simp; omega
            clear hc1 hc2
            go_wp2_with fail
            refine (HRP.out).mono ?_
            rintro e w4 ⟨rfl, add2, hR4⟩
            have HR4 := Lib.hid (HJ.out _ _ hR4)
            clear hR4
            go_wp2_with fail
            go_roundg i
            case measure => omega
            case rel => exact ⟨i, add2, _, _, rfl, HR4, HBN.out, by omega, by omega⟩
          · have q2 : ((0 : Int) < (en : Int)) = False := by simp; omega
            have q3 : (0 < en) = False := by simp; omega
            have HS4 := Lib.hid (HSM.out (by omega) (HEM.out (by omega)))
            clear hc1 hc2 HRP HJ HSM
            go_wp2_with fail
            go_roundg i
            case measure => omega
            case rel => exact ⟨i, add', n', xs', rfl, HS4, HBN0.out, by omega, by omega⟩
      · have hj0' : j = 0 := by omega
        subst hj0'
        rw [List.drop_zero] at hR hnn
        have hc : ChgPost B g enc lim n add xs ds ats es w w2 := ⟨add', n', xs', hR.out, by omega⟩
        have HC := Lib.hid hc
        clear hc
        go_wp2_with fail
        go_ret
        exact ⟨rfl, fun h => absurd rfl h, fun _ => HC.out⟩
  · obtain ⟨E, hE⟩ : ∃ E, refF enc lim (decL enc t.list) es = E := ⟨_, rfl⟩
    rw [hE] at hK hz ⊢
    have q2 : (E != 0) = true := by rw [bne_iff_ne]; exact hz
    have HK := Lib.hid hK
    have HZ := Lib.hid hz
    clear hK hE hz h he'
    go_enter Tryz.func13, Tryz.ntmps13
    go_wp2_with fail
    refine (HK.out).mono ?_
    rintro e w1 ⟨rfl, hb1⟩
    go_wp2_with fail
    go_ret
    exact ⟨rfl, fun _ => hb1, fun h => absurd h HZ.out⟩
end Go.Proofs.YtflhiohjikgedaaGreatDoor
