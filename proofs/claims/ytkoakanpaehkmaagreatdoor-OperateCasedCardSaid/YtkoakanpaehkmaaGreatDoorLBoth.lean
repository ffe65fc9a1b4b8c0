/-
  Both desks as they begin: (*Both).text answers true.
-/
import Derived.Test.YtkoakanpaehkmaaGreatDoorLSame
import Derived.Test.YtkoakanpaehkmaaGreatDoorLWk4
set_option linter.unusedSimpArgs false
set_option linter.unusedVariables false
set_option maxRecDepth 100000
set_option maxHeartbeats 32000000
namespace Go.Proofs.YtkoakanpaehkmaaGreatDoor
open Go.RowKit
structure BothNew (B : Nat) (enc lim native depth : Int) (l : List Int) (w : World) (gB gd gb gt m gk mk gd' gb' gt' gk' : Nat) (ld : Value) : Prop where
 both : Blk w gB 30 #[.pointer (some ⟨gd, 0, none⟩), .pointer (some ⟨gd', 0, none⟩)]
 D : NewDesk B enc lim native depth l w gd gb gt m gk mk
 R : RNewDesk B enc lim native depth l w gd' gb' gt' gk' ld
theorem NewDesk.below {B : Nat} {enc lim native depth : Int} {l : List Int} {w w' : World} {gd gb gt m gk mk : Nat} (h : NewDesk B enc lim native depth l w gd gb gt m gk mk) (hb : Below w.heap.size w w') : NewDesk B enc lim native depth l w' gd gb gt m gk mk :=
 ⟨Blk.below h.desk hb, ⟨h.book.1.below hb, h.book.2.below hb⟩, h.text.below hb, ⟨h.bank.1.below hb, h.bank.2.below hb⟩, h.ge⟩
theorem RNewDesk.below {B : Nat} {enc lim native depth : Int} {l : List Int} {w w' : World} {gd gb gt gk : Nat} {ld : Value} (h : RNewDesk B enc lim native depth l w gd gb gt gk ld) (hb : Below w.heap.size w w') : RNewDesk B enc lim native depth l w' gd gb gt gk ld :=
 ⟨Blk.below h.desk hb, h.book.below hb, ownsRow_below h.loaded hb, h.text.below hb, h.ge⟩
theorem BothNew.below {B : Nat} {enc lim native depth : Int} {l : List Int} {w w' : World} {gB gd gb gt m gk mk gd' gb' gt' gk' : Nat} {ld : Value} (h : BothNew B enc lim native depth l w gB gd gb gt m gk mk gd' gb' gt' gk' ld) (hb : Below w.heap.size w w') : BothNew B enc lim native depth l w' gB gd gb gt m gk mk gd' gb' gt' gk' ld :=
 ⟨h.both.below hb, h.D.below hb, h.R.below hb⟩
def C5 (w : World) (a b c d e : Addr) (x y z u v : Value) : Prop := w.cell? a = some x /\ w.cell? b = some y /\ w.cell? c = some z /\ w.cell? d = some u /\ w.cell? e = some v
theorem C5.keep {w w1 : World} {a b c d e : Addr} {x y z u v : Value} (hb : Below w.heap.size w w1) (h : C5 w a b c d e x y z u v) : C5 w1 a b c d e x y z u v :=
 ⟨cell_keep hb h.1, cell_keep hb h.2.1, cell_keep hb h.2.2.1, cell_keep hb h.2.2.2.1, cell_keep hb h.2.2.2.2⟩
theorem cells2 {w : World} {g : Nat} {T : TypeId} {a0 a1 : Value} (h : Blk w g T #[a0, a1]) : w.cell? ⟨g, 0, none⟩ = some a0 /\ w.cell? ⟨g, 1, none⟩ = some a1 := ⟨h.cell 0, h.cell 1⟩
theorem cells3 {w : World} {g : Nat} {T : TypeId} {a0 a1 a2 : Value} (h : Blk w g T #[a0, a1, a2]) : w.cell? ⟨g, 0, none⟩ = some a0 /\ w.cell? ⟨g, 1, none⟩ = some a1 /\ w.cell? ⟨g, 2, none⟩ = some a2 := ⟨h.cell 0, h.cell 1, h.cell 2⟩
theorem cells10 {w : World} {g : Nat} {T : TypeId} {a0 a1 a2 a3 a4 a5 a6 a7 a8 a9 : Value} (h : Blk w g T #[a0, a1, a2, a3, a4, a5, a6, a7, a8, a9]) :
  w.cell? ⟨g, 0, none⟩ = some a0 /\ w.cell? ⟨g, 1, none⟩ = some a1 /\ w.cell? ⟨g, 2, none⟩ = some a2 /\ w.cell? ⟨g, 3, none⟩ = some a3 /\ w.cell? ⟨g, 4, none⟩ = some a4 /\ w.cell? ⟨g, 5, none⟩ = some a5 /\ w.cell? ⟨g, 6, none⟩ = some a6 /\ w.cell? ⟨g, 7, none⟩ = some a7 /\ w.cell? ⟨g, 8, none⟩ = some a8 /\ w.cell? ⟨g, 9, none⟩ = some a9 :=
 ⟨h.cell 0, h.cell 1, h.cell 2, h.cell 3, h.cell 4, h.cell 5, h.cell 6, h.cell 7, h.cell 8, h.cell 9⟩
theorem same_nil (w : World) : Calls Tryz.prog 13 #[.slice none 0 0, .slice none 0 0] w fun e w' => e = .returned (.bool true) /\ Below w.heap.size w w' :=
 same_eq (D := Any) (D' := Any) (x := []) Reads.none_ Reads.none_ (by omega)
theorem seg_all {α : Type} (l : List α) : seg 0 (l.length : Int) l = l := by
 unfold seg
 simp
theorem btext_new (B : Nat) (enc lim native depth : Int) (l : List Int) (w : World) (gB gd gb gt m gk mk gd' gb' gt' gk' : Nat) (ld : Value) (h : BothNew B enc lim native depth l w gB gd gb gt m gk mk gd' gb' gt' gk' ld) :
  Calls Tryz.prog 25 #[.pointer (some ⟨gB, 0, none⟩)] w fun e w' => e = .returned (.bool true) /\ Below w.heap.size w w' := by
 obtain ⟨va, vt, t1, t2, t3⟩ := h.R.text
 have hT := h.D.text
 have hlen := hT.at_.len
 rw [List.length_map] at t2
 rw [List.length_map, tagF_len] at t3
 obtain ⟨A1, c1, rfl, hc1⟩ := own_slice t2
 obtain ⟨A2, c2, rfl, hc2⟩ := own_slice t3
 have hI1 := Reads.of_own t2
 have hI2 := Reads.of_own t3
 have k1 := fun (w' : World) (hb : Below w.heap.size w w') => len_any _ gt enc (dec enc l) w' (hT.at_.below hb)
 have k2 := fun (w' : World) (hb : Below w.heap.size w w') => tatoms_any _ gt enc (dec enc l) 0 (dec enc l).length w' (hT.at_.below hb) (by omega) (by omega)
 have k3 := fun (w' : World) (hb : Below w.heap.size w w') => ttags_any _ gt enc lim (dec enc l) (tagF 0 0 (dec enc l)) 0 (dec enc l).length w' (hT.below hb) (by omega) (by omega)
 have e2 : seg 0 ((dec enc l).length : Int) ((dec enc l).map Prod.fst) = (dec enc l).map Prod.fst := by
  have := seg_all ((dec enc l).map Prod.fst)
  rwa [List.length_map] at this
 have e3 : seg 0 ((dec enc l).length : Int) ((tagF 0 0 (dec enc l)).map Prod.snd) = (tagF 0 0 (dec enc l)).map Prod.snd := by
  have := seg_all ((tagF 0 0 (dec enc l)).map Prod.snd)
  rwa [List.length_map, tagF_len] at this
 rw [e2] at k2
 rw [e3] at k3
 have s1 := fun (w' : World) (hb : Below w.heap.size w w') (D : Nat -> Prop) (A : Option Addr) (c n : Nat) (hI : Ints w' D A n ((dec enc l).map Prod.fst)) => same_eq (c := c) (c' := c1) hI (Reads.below hI1 hb) (by have := hI.len; rw [List.length_map] at this; omega)
 have s2 := fun (w' : World) (hb : Below w.heap.size w w') (D : Nat -> Prop) (A : Option Addr) (c n : Nat) (hI : Ints w' D A n ((tagF 0 0 (dec enc l)).map Prod.snd)) => same_eq (c := c) (c' := c2) hI (Reads.below hI2 hb) (by have := hI.len; rw [List.length_map, tagF_len] at this; omega)
 have z1 : (dec enc l).length = ((dec enc l).map Prod.fst).length := by simp
 have z2 : (dec enc l).length = ((tagF 0 0 (dec enc l)).map Prod.snd).length := by rw [List.length_map, tagF_len]
 obtain ⟨n, hn⟩ : ∃ n, (dec enc l).length = n := ⟨_, rfl⟩
 have hbk := h.D.book.1
 have b0 := h.both.cell 0
 have b1 := h.both.cell 1
 have d0 := Blk.cell h.D.desk 0
 have p0 := h.D.book.1.cell 0
 have r0 := Blk.cell h.R.desk 0
 have p4 := h.R.book.cell 4
 have x2 := Blk.cell t1 2
 have x3 := Blk.cell t1 3
 rw [hn] at k1 k2 k3 s1 s2 z1 z2 hlen x2 x3
 simp [rbookC] at b0 b1 d0 p0 r0 p4 x2 x3
 have K1 := Lib.hid k1
 have K2 := Lib.hid k2
 have K3 := Lib.hid k3
 have S1 := Lib.hid s1
 have S2 := Lib.hid s2
 have Z1 := Lib.hid z1
 have Z2 := Lib.hid z2
 have H0 := Lib.hid h
 have HBK := Lib.hid hbk
 have c5 : C5 w ⟨gB, 1, none⟩ ⟨gd', 0, none⟩ ⟨gb', 4, none⟩ ⟨gt', 2, none⟩ ⟨gt', 3, none⟩ (.pointer (some ⟨gd', 0, none⟩)) (.pointer (some ⟨gb', 0, none⟩)) (.pointer (some ⟨gt', 0, none⟩)) (.slice A1 n c1) (.slice A2 n c2) := ⟨b1, r0, p4, x2, x3⟩
 have HC5 := Lib.hid c5
 clear k1 k2 k3 s1 s2 z1 z2 h hbk t1 t2 t3 hI1 hI2 hc1 hc2 hT e2 e3 hn c5
 go_enter Tryz.func25, Tryz.ntmps25
 go_wp2_with fail
 refine (btext_any w gb gt _ HBK.out rfl).mono ?_
 rintro e w1 ⟨rfl, rfl⟩
 go_wp2_with fail
 have q1 : ((n : Int) != (n : Int)) = false := by simp
 refine wp_region_lin (fun w' => Below w.heap.size w w') (fun w' => Below w.heap.size w w') (fun k => k == 1 || k == 7 || k == 21 || k == 27 || k == 41) (fun _ => false) (fun _ => false) (by kernel_rfl) (by kernel_rfl) (Below.drew (Below.refl _ _)) (fun _ h => h) ?_
 repeat ((first
  | (refine wpL_read (v := ?_) (by rfl) (by rfl) (fun w6 hSw => ?_) ?_; rotate_left; (· (obtain ⟨y1, y2, y3, y4, y5⟩ := C5.keep hSw HC5.out; go_simp; try with_reducible rfl)))
  | (refine wpL_free (v := ?_) (by rfl) (fun w6 => ?_) ?_; rotate_left; (· (go_simp; try with_reducible rfl)))
  | refine wpL_not (by rfl) ?_); (try simp only [Act.put, pA, pB, pC]))
 refine wpL_call1 (f := ?_) (args := ?_) (v := .int .i64 (n : Int)) (by rfl) (by rfl) (fun w6 hSw => ?_) (fun _ h => h) (fun w6 hSw => ?_) ?_
 rotate_left 2
 ·(skip; go_simp; first | done | (constructor <;> with_reducible rfl) | with_reducible rfl)
 ·(refine (K1.out _ hSw).mono ?_; rintro e w5 ⟨rfl, hb5⟩; exact ⟨rfl, bseq hSw hb5⟩)
 (try simp only [Act.put, pA, pB, pC])
 repeat ((first
  | (refine wpL_read (v := ?_) (by rfl) (by rfl) (fun w6 hSw => ?_) ?_; rotate_left; (· (obtain ⟨y1, y2, y3, y4, y5⟩ := C5.keep hSw HC5.out; go_simp; try with_reducible rfl)))
  | (refine wpL_free (v := ?_) (by rfl) (fun w6 => ?_) ?_; rotate_left; (· (go_simp; try with_reducible rfl)))
  | refine wpL_not (by rfl) ?_); (try simp only [Act.put, pA, pB, pC]))
 refine wpL_call (f := ?_) (args := ?_) (GotInts w n ((dec enc l).map Prod.fst)) (by rfl) (by rfl) (fun w6 hSw => ?_) (fun w6 hSw => ?_) (.inr (fun v6 w6 hT6 => ?_)) (fun v6 hv6 => ?_)
 rotate_left 2
 ·(skip; go_simp; first | done | (constructor <;> with_reducible rfl) | with_reducible rfl)
 ·(refine (K2.out _ hSw).mono ?_; rintro e w5 ⟨v5, rfl, ho5, hb5⟩; exact ⟨v5, rfl, GotInts.mk_ Z1.out hSw ho5 hb5⟩)
 ·(exact hT6.bel)
 obtain ⟨w7, A7, c7, rfl, hc7, -⟩ := hv6
 (try simp only [Act.put, pA, pB, pC])
 repeat ((first
  | (refine wpL_read (v := ?_) (by rfl) (by rfl) (fun w6 hSw => ?_) ?_; rotate_left; (· (obtain ⟨y1, y2, y3, y4, y5⟩ := C5.keep hSw HC5.out; go_simp; try with_reducible rfl)))
  | (refine wpL_free (v := ?_) (by rfl) (fun w6 => ?_) ?_; rotate_left; (· (go_simp; try with_reducible rfl)))
  | refine wpL_not (by rfl) ?_); (try simp only [Act.put, pA, pB, pC]))
 refine wpL_call1 (f := ?_) (args := ?_) (v := .bool true) (by rfl) (by rfl) (fun w6 hSw => ?_) (fun _ h => h.bel) (fun w6 hSw => ?_) ?_
 rotate_left 2
 ·(skip; go_simp; first | done | (constructor <;> with_reducible rfl) | with_reducible rfl)
 ·(refine (S1.out _ hSw.bel _ _ _ _ hSw.out.1).mono ?_; rintro e w5 ⟨rfl, hb5⟩; exact ⟨rfl, hSw.keep hb5⟩)
 (try simp only [Act.put, pA, pB, pC])
 repeat ((first
  | (refine wpL_read (v := ?_) (by rfl) (by rfl) (fun w6 hSw => ?_) ?_; rotate_left; (· (obtain ⟨y1, y2, y3, y4, y5⟩ := C5.keep hSw HC5.out; go_simp; try with_reducible rfl)))
  | (refine wpL_free (v := ?_) (by rfl) (fun w6 => ?_) ?_; rotate_left; (· (go_simp; try with_reducible rfl)))
  | refine wpL_not (by rfl) ?_); (try simp only [Act.put, pA, pB, pC]))
 refine wpL_call (f := ?_) (args := ?_) (GotInts w n ((tagF 0 0 (dec enc l)).map Prod.snd)) (by rfl) (by rfl) (fun w6 hSw => ?_) (fun w6 hSw => ?_) (.inr (fun v6 w6 hT6 => ?_)) (fun v6 hv6 => ?_)
 rotate_left 2
 ·(skip; go_simp; first | done | (constructor <;> with_reducible rfl) | with_reducible rfl)
 ·(refine (K3.out _ hSw.bel).mono ?_; rintro e w5 ⟨v5, rfl, ho5, hb5⟩; exact ⟨v5, rfl, GotInts.mk_ Z2.out hSw.bel ho5 hb5⟩)
 ·(exact hT6.bel)
 obtain ⟨w8, A8, c8, rfl, hc8, -⟩ := hv6
 (try simp only [Act.put, pA, pB, pC])
 repeat ((first
  | (refine wpL_read (v := ?_) (by rfl) (by rfl) (fun w6 hSw => ?_) ?_; rotate_left; (· (obtain ⟨y1, y2, y3, y4, y5⟩ := C5.keep hSw HC5.out; go_simp; try with_reducible rfl)))
  | (refine wpL_free (v := ?_) (by rfl) (fun w6 => ?_) ?_; rotate_left; (· (go_simp; try with_reducible rfl)))
  | refine wpL_not (by rfl) ?_); (try simp only [Act.put, pA, pB, pC]))
 refine wpL_call1 (f := ?_) (args := ?_) (v := .bool true) (by rfl) (by rfl) (fun w6 hSw => ?_) (fun _ h => h.bel) (fun w6 hSw => ?_) ?_
 rotate_left 2
 ·(skip; go_simp; first | done | (constructor <;> with_reducible rfl) | with_reducible rfl)
 ·(refine (S2.out _ hSw.bel _ _ _ _ hSw.out.1).mono ?_; rintro e w5 ⟨rfl, hb5⟩; exact ⟨rfl, hSw.keep hb5⟩)
 (try simp only [Act.put, pA, pB, pC])
 repeat ((first
  | (refine wpL_read (v := ?_) (by rfl) (by rfl) (fun w6 hSw => ?_) ?_; rotate_left; (· (obtain ⟨y1, y2, y3, y4, y5⟩ := C5.keep hSw HC5.out; go_simp; try with_reducible rfl)))
  | (refine wpL_free (v := ?_) (by rfl) (fun w6 => ?_) ?_; rotate_left; (· (go_simp; try with_reducible rfl)))
  | refine wpL_not (by rfl) ?_); (try simp only [Act.put, pA, pB, pC]))
 refine wpL_nil ?_
 intro w2 hw2
 have hb2 := hw2.bel
 clear hw2 b0 b1 d0 p0 r0 p4 x2 x3
 have h := H0.out
 have fB := fun (w' : World) (hb : Below w.heap.size w w') => cells2 (h.both.below hb)
 have fD := fun (w' : World) (hb : Below w.heap.size w w') => cells10 (Blk.below h.D.desk hb)
 have fR := fun (w' : World) (hb : Below w.heap.size w w') => cells10 (Blk.below h.R.desk hb)
 obtain ⟨nat, hnat⟩ : ∃ x, natF ((dec enc l).map Prod.fst) native = x := ⟨_, rfl⟩
 rw [hnat] at fD fR
 have FB := Lib.hid fB
 have FD := Lib.hid fD
 have FR := Lib.hid fR
 clear fB fD fR hnat h
 obtain ⟨b0, b1⟩ := FB.out _ hb2
 obtain ⟨-, -, -, -, -, -, -, d7, d8, d9⟩ := FD.out _ hb2
 have hb3 : Below w.heap.size w (w2.alloc (.cells #[.bool false, .bool false, .int .i64 nat] 47)) := balloc hb2
 obtain ⟨-, b1'⟩ := FB.out _ hb3
 obtain ⟨-, -, -, -, -, -, -, r7, r8, r9⟩ := FR.out _ hb3
 clear K1 K2 K3 S1 S2 Z1 Z2 HBK HC5 H0 b1
 go_wp2_with fail
 have hs5 := Blk.new w2 47 #[.bool false, .bool false, .int .i64 nat]
 have hs6 := Blk.new (w2.alloc (.cells #[.bool false, .bool false, .int .i64 nat] 47)) 47 #[.bool false, .bool false, .int .i64 nat]
 have hs5' := hs5.alloc (.cells #[.bool false, .bool false, .int .i64 nat] 47)
 have hb4 : Below w.heap.size w ((w2.alloc (.cells #[.bool false, .bool false, .int .i64 nat] 47)).alloc (.cells #[.bool false, .bool false, .int .i64 nat] 47)) := balloc hb3
 have hx : (w2.alloc (.cells #[.bool false, .bool false, .int .i64 nat] 47)).heap.size = w2.heap.size + 1 := by simp
 rw [hx] at hs6
 clear b0 b1' d7 d8 d9 r7 r8 r9 hx hb3 hb2 hs5
 obtain ⟨w3, hw3⟩ : ∃ x, (w2.alloc (.cells #[.bool false, .bool false, .int .i64 nat] 47)).alloc (.cells #[.bool false, .bool false, .int .i64 nat] 47) = x := ⟨_, rfl⟩
 rw [hw3] at hs6 hs5' hb4
 rw [hw3]
 clear hw3
 have f5 := fun (w' : World) (hb : Below w3.heap.size w3 w') => cells3 (hs5'.below hb)
 have f6 := fun (w' : World) (hb : Below w3.heap.size w3 w') => cells3 (hs6.below hb)
 have F5 := Lib.hid f5
 have F6 := Lib.hid f6
 clear f5 f6 hs5' hs6
 have q2 : (nat != nat) = false := by simp
 refine wp_region_lin (fun w' => Below w3.heap.size w3 w') (fun w' => Below w3.heap.size w3 w') (fun k => k == 34) (fun _ => false) (fun _ => false) (by kernel_rfl) (by kernel_rfl) (Below.drew (Below.refl _ _)) (fun _ h => h) ?_
 repeat ((first
  | (refine wpL_read (v := ?_) (by rfl) (by rfl) (fun w6 hSw => ?_) ?_; rotate_left; (· (obtain ⟨y1, y2, y3⟩ := F5.out _ hSw; obtain ⟨z1, z2, z3⟩ := F6.out _ hSw; obtain ⟨b0, b1⟩ := FB.out _ (bseq hb4 hSw); obtain ⟨-, -, -, d3, -, -, -, -, -, -⟩ := FD.out _ (bseq hb4 hSw); obtain ⟨-, -, -, r3, -, -, -, -, -, -⟩ := FR.out _ (bseq hb4 hSw); go_simp; try with_reducible rfl)))
  | (refine wpL_free (v := ?_) (by rfl) (fun w6 => ?_) ?_; rotate_left; (· (go_simp; try with_reducible rfl)))
  | refine wpL_not (by rfl) ?_); (try simp only [Act.put, pA, pB, pC]))
 refine wpL_call1 (f := ?_) (args := ?_) (v := .bool true) (by rfl) (by rfl) (fun w6 hSw => ?_) (fun _ h => h) (fun w6 hSw => ?_) ?_
 rotate_left 2
 ·(skip; go_simp; first | done | (constructor <;> with_reducible rfl) | with_reducible rfl)
 ·(refine (same_nil _).mono ?_; rintro e w5 ⟨rfl, hb5⟩; exact ⟨rfl, bseq hSw hb5⟩)
 (try simp only [Act.put, pA, pB, pC])
 repeat ((first
  | (refine wpL_read (v := ?_) (by rfl) (by rfl) (fun w6 hSw => ?_) ?_; rotate_left; (· (obtain ⟨y1, y2, y3⟩ := F5.out _ hSw; go_simp; try with_reducible rfl)))
  | (refine wpL_free (v := ?_) (by rfl) (fun w6 => ?_) ?_; rotate_left; (· (go_simp; try with_reducible rfl)))
  | refine wpL_not (by rfl) ?_); (try simp only [Act.put, pA, pB, pC]))
 refine wpL_nil ?_
 intro w4 hw4
 have hb5 := bseq hb4 hw4
 clear hw4 F5 F6 q2 hb4
 go_wp2_with fail
 refine wp_region_lin (fun w' => Below w4.heap.size w4 w') (fun w' => Below w4.heap.size w4 w') (fun k => k == 32 || k == 51) (fun _ => false) (fun _ => false) (by kernel_rfl) (by kernel_rfl) (Below.drew (Below.refl _ _)) (fun _ h => h) ?_
 repeat ((first
  | (refine wpL_read (v := ?_) (by rfl) (by rfl) (fun w6 hSw => ?_) ?_; rotate_left; (· (obtain ⟨b0, b1⟩ := FB.out _ (bseq hb5 hSw); obtain ⟨-, -, d2, -, d4, d5, d6, -, -, -⟩ := FD.out _ (bseq hb5 hSw); obtain ⟨-, -, r2, -, r4, r5, r6, -, -, -⟩ := FR.out _ (bseq hb5 hSw); go_simp; try with_reducible rfl)))
  | (refine wpL_free (v := ?_) (by rfl) (fun w6 => ?_) ?_; rotate_left; (· (go_simp; try with_reducible rfl)))
  | refine wpL_not (by rfl) ?_); (try simp only [Act.put, pA, pB, pC]))
 refine wpL_call1 (f := ?_) (args := ?_) (v := .bool true) (by rfl) (by rfl) (fun w6 hSw => ?_) (fun _ h => h) (fun w6 hSw => ?_) ?_
 rotate_left 2
 ·(skip; go_simp; first | done | (constructor <;> with_reducible rfl) | with_reducible rfl)
 ·(refine (same_nil _).mono ?_; rintro e w5 ⟨rfl, hb5⟩; exact ⟨rfl, bseq hSw hb5⟩)
 (try simp only [Act.put, pA, pB, pC])
 repeat ((first
  | (refine wpL_read (v := ?_) (by rfl) (by rfl) (fun w6 hSw => ?_) ?_; rotate_left; (· (obtain ⟨b0, b1⟩ := FB.out _ (bseq hb5 hSw); obtain ⟨-, -, d2, -, d4, d5, d6, -, -, -⟩ := FD.out _ (bseq hb5 hSw); obtain ⟨-, -, r2, -, r4, r5, r6, -, -, -⟩ := FR.out _ (bseq hb5 hSw); go_simp; try with_reducible rfl)))
  | (refine wpL_free (v := ?_) (by rfl) (fun w6 => ?_) ?_; rotate_left; (· (go_simp; try with_reducible rfl)))
  | refine wpL_not (by rfl) ?_); (try simp only [Act.put, pA, pB, pC]))
 refine wpL_call1 (f := ?_) (args := ?_) (v := .bool true) (by rfl) (by rfl) (fun w6 hSw => ?_) (fun _ h => h) (fun w6 hSw => ?_) ?_
 rotate_left 2
 ·(skip; go_simp; first | done | (constructor <;> with_reducible rfl) | with_reducible rfl)
 ·(refine (same_nil _).mono ?_; rintro e w5 ⟨rfl, hb5⟩; exact ⟨rfl, bseq hSw hb5⟩)
 (try simp only [Act.put, pA, pB, pC])
 repeat ((first
  | (refine wpL_read (v := ?_) (by rfl) (by rfl) (fun w6 hSw => ?_) ?_; rotate_left; (· (obtain ⟨b0, b1⟩ := FB.out _ (bseq hb5 hSw); obtain ⟨-, -, d2, -, d4, d5, d6, -, -, -⟩ := FD.out _ (bseq hb5 hSw); obtain ⟨-, -, r2, -, r4, r5, r6, -, -, -⟩ := FR.out _ (bseq hb5 hSw); go_simp; try with_reducible rfl)))
  | (refine wpL_free (v := ?_) (by rfl) (fun w6 => ?_) ?_; rotate_left; (· (go_simp; try with_reducible rfl)))
  | refine wpL_not (by rfl) ?_); (try simp only [Act.put, pA, pB, pC]))
 refine wpL_nil ?_
 intro w6 hw6
 have hb6 := bseq hb5 hw6
 clear hw6
 go_wp2_with fail
 go_ret
 exact ⟨rfl, hb6⟩
end Go.Proofs.YtkoakanpaehkmaaGreatDoor
