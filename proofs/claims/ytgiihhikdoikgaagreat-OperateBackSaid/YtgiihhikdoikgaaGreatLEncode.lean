/-
  The walks of package codec: Size, Fits, Encode of one atom.
-/
import Derived.Test.YtgiihhikdoikgaaGreatLPut
set_option linter.unusedSimpArgs false
set_option linter.unusedVariables false
set_option maxRecDepth 100000
set_option maxHeartbeats 32000000
namespace Go.Proofs.YtgiihhikdoikgaaGreat
open Go.RowKit
theorem QhB (w : World) : (nilAhead 399 209 (.agg #[]) "copyist/codec.size").run Tryz.prog w = .ok (some false) w := by kernel_rfl
theorem QcE (o : Int)(w : World) : (nilAhead 399 211 (.agg #[.int .i64 o]) "copyist/codec.size").run Tryz.prog w = .ok (some false) w := by kernel_rfl
theorem QhG (w : World) : (nilAhead 399 212 (.agg #[]) "copyist/codec.size").run Tryz.prog w = .ok (some false) w := by kernel_rfl
theorem Qix (w : World) : (method 399 209 (.agg #[]) "copyist/codec.size").run Tryz.prog w = .ok (230, .agg #[]) w := by kernel_rfl
theorem Qcw (o : Int)(w : World) : (method 399 211 (.agg #[.int .i64 o]) "copyist/codec.size").run Tryz.prog w = .ok (237, .agg #[.int .i64 o]) w := by kernel_rfl
theorem QhK (w : World) : (method 399 212 (.agg #[]) "copyist/codec.size").run Tryz.prog w = .ok (246, .agg #[]) w := by kernel_rfl
theorem Qm3 (w : World) : (nilAhead 399 209 (.agg #[]) "copyist/codec.put").run Tryz.prog w = .ok (some false) w := by kernel_rfl
theorem Qff (o : Int)(w : World) : (nilAhead 399 211 (.agg #[.int .i64 o]) "copyist/codec.put").run Tryz.prog w = .ok (some false) w := by kernel_rfl
theorem Qmg (w : World) : (nilAhead 399 212 (.agg #[]) "copyist/codec.put").run Tryz.prog w = .ok (some false) w := by kernel_rfl
theorem QmC (w : World) : (method 399 209 (.agg #[]) "copyist/codec.put").run Tryz.prog w = .ok (229, .agg #[]) w := by kernel_rfl
theorem QfR (o : Int)(w : World) : (method 399 211 (.agg #[.int .i64 o]) "copyist/codec.put").run Tryz.prog w = .ok (236, .agg #[.int .i64 o]) w := by kernel_rfl
theorem Qn2 (w : World) : (method 399 212 (.agg #[]) "copyist/codec.put").run Tryz.prog w = .ok (245, .agg #[]) w := by kernel_rfl
theorem Qh0 (enc a:Int)(w:World)(f:enc=1\/enc=2\/enc=3\/enc=4):Calls Tryz.prog 53 #[.int .i64 enc,.int .i64 a] w fun e w'=>e=.returned (.int .i64 (szA enc a))/\ZB w w':=by
 rcases f with rfl|rfl|rfl|rfl
 ·go_enter Tryz.func53,Tryz.ntmps53
  go_wp2_with fail
  refine(QcJ _ _ (by omega)).mono ?_
  rintro e w1 ⟨rfl,rfl⟩
  simp only[Qci,if_true,Int.reduceEq,if_false]
  have d:=QhB
  have c:=Qix
  go_wp2_with fail
  refine(Qjh a _).mono ?_
  rintro e w3 ⟨rfl,b⟩
  go_wp2_with fail
  go_ret
  exact⟨rfl,b⟩
 ·go_enter Tryz.func53,Tryz.ntmps53
  go_wp2_with fail
  refine(QcJ _ _ (by omega)).mono ?_
  rintro e w1 ⟨rfl,rfl⟩
  simp only[Qci,if_true,Int.reduceEq,if_false]
  have d:=QcE 0
  have c:=Qcw 0
  go_wp2_with fail
  refine(Qe4 0 a _).mono ?_
  rintro e w3 ⟨rfl,b⟩
  go_wp2_with fail
  go_ret
  exact⟨rfl,b⟩
 ·go_enter Tryz.func53,Tryz.ntmps53
  go_wp2_with fail
  refine(QcJ _ _ (by omega)).mono ?_
  rintro e w1 ⟨rfl,rfl⟩
  simp only[Qci,if_true,Int.reduceEq,if_false]
  have d:=QcE 1
  have c:=Qcw 1
  go_wp2_with fail
  refine(Qe4 1 a _).mono ?_
  rintro e w3 ⟨rfl,b⟩
  go_wp2_with fail
  go_ret
  exact⟨rfl,b⟩
 ·go_enter Tryz.func53,Tryz.ntmps53
  go_wp2_with fail
  refine(QcJ _ _ (by omega)).mono ?_
  rintro e w1 ⟨rfl,rfl⟩
  simp only[Qci,if_true,Int.reduceEq,if_false]
  have d:=QhG
  have c:=QhK
  go_wp2_with fail
  refine(Ql6 a _).mono ?_
  rintro e w3 ⟨rfl,b⟩
  go_wp2_with fail
  go_ret
  exact⟨rfl,b⟩
def Qow (enc a:Int)(w:World)(e:Ending)(w':World):Prop:=
 ∃v,e=.returned (.tuple #[v,.int .i64 0,.int .i64 0])/\w'.ownsRow w.heap.size 5 1 v (Qc1 enc a).length ((Qc1 enc a).map (Value.int .u8))/\ZB w w'
theorem Qjt (enc a:Int)(D:Nat->Prop)(A:Option Addr)(c:Nat)(w:World)(t:enc=1\/enc=2\/enc=3\/enc=4)(s:Ints w D A 1 [a])(i:0<szA enc a) :
  Calls Tryz.prog 180 #[.int .i64 enc,.slice A 1 c] w fun e w'=>Qow enc a w e w':=by
 obtain⟨x,rfl,u,c0⟩:=s.at_ (show 0<1 by omega)
 rw[add_zero] at c0
 simp at c0
 rcases t with rfl|rfl|rfl|rfl
 ·have f:0<sz8 a:=i
  have l:(sz8 a==0)=false:=by rw[beq_eq_false_iff_ne];omega
  have ks:=fun(w':World)=>Qjh a w'
  have d:Qc1 1 a=Qc1 1 a:=rfl
  obtain⟨z,h⟩:=ZN (sz8 a)
  rw[h] at ks l
  have KS:=Zh ks
  clear ks i h
  go_enter Tryz.func180,Tryz.ntmps180
  go_wp2_with fail
  refine(QcJ _ _ (by omega)).mono ?_
  rintro e w1 ⟨rfl,rfl⟩
  simp only[Qci,if_true,Int.reduceEq,if_false]
  have r:=QhB
  have p:=Qix
  have q:=Qm3
  have f4:=QmC
  go_wp2_with fail
  refine wp_loop_rounds 2 ?_
  rw[rounds_succ]
  go_wp2_with fail
  refine(KS.out _).mono ?_
  rintro e w3 ⟨rfl,b⟩
  have j:=Qh b c0
  go_wp2_with fail
  refine(Qo6 w.heap.size (.slice none 0 0) [] a w3 (World.ownsRow_nil _ _ _ _) b.size (by simp) f).mono ?_
  rintro e w4 ⟨v,rfl,h1,h2,n⟩
  have g:ZB w w4:=Qf b (h2.below (fun k _ m=>by simp[OwnB,Value.ownBlock] at m))
  have o:=Zh h1
  clear c0 j h1 h2 n
  go_wp2_with fail
  rw[rounds_succ]
  go_wp2_with fail
  go_ret3
  refine⟨v,rfl,?_,g⟩
  have:=o.out
  simp only[List.length_nil,Nat.zero_add,List.nil_append] at this
  exact this
 ·have f:0<Qfb a:=i
  have l:(Qfb a==0)=false:=by rw[beq_eq_false_iff_ne];omega
  have ks:=fun(w':World)=>Qe4 0 a w'
  have d:Qc1 2 a=Qc1 2 a:=rfl
  obtain⟨z,h⟩:=ZN (Qfb a)
  rw[h] at ks l
  have KS:=Zh ks
  clear ks i h
  go_enter Tryz.func180,Tryz.ntmps180
  go_wp2_with fail
  refine(QcJ _ _ (by omega)).mono ?_
  rintro e w1 ⟨rfl,rfl⟩
  simp only[Qci,if_true,Int.reduceEq,if_false]
  have r:=QcE 0
  have p:=Qcw 0
  have q:=Qff 0
  have f4:=QfR 0
  go_wp2_with fail
  refine wp_loop_rounds 2 ?_
  rw[rounds_succ]
  go_wp2_with fail
  refine(KS.out _).mono ?_
  rintro e w3 ⟨rfl,b⟩
  have j:=Qh b c0
  go_wp2_with fail
  refine(Qh9 w.heap.size 0 (.slice none 0 0) [] a w3 (.inl rfl) (World.ownsRow_nil _ _ _ _) b.size (by simp) f).mono ?_
  rintro e w4 ⟨v,rfl,h1,h2,n⟩
  have g:ZB w w4:=Qf b (h2.below (fun k _ m=>by simp[OwnB,Value.ownBlock] at m))
  have o:=Zh h1
  clear c0 j h1 h2 n
  go_wp2_with fail
  rw[rounds_succ]
  go_wp2_with fail
  go_ret3
  refine⟨v,rfl,?_,g⟩
  have:=o.out
  simp only[List.length_nil,Nat.zero_add,List.nil_append] at this
  exact this
 ·have f:0<Qfb a:=i
  have l:(Qfb a==0)=false:=by rw[beq_eq_false_iff_ne];omega
  have ks:=fun(w':World)=>Qe4 1 a w'
  have d:Qc1 3 a=Qc1 3 a:=rfl
  obtain⟨z,h⟩:=ZN (Qfb a)
  rw[h] at ks l
  have KS:=Zh ks
  clear ks i h
  go_enter Tryz.func180,Tryz.ntmps180
  go_wp2_with fail
  refine(QcJ _ _ (by omega)).mono ?_
  rintro e w1 ⟨rfl,rfl⟩
  simp only[Qci,if_true,Int.reduceEq,if_false]
  have r:=QcE 1
  have p:=Qcw 1
  have q:=Qff 1
  have f4:=QfR 1
  go_wp2_with fail
  refine wp_loop_rounds 2 ?_
  rw[rounds_succ]
  go_wp2_with fail
  refine(KS.out _).mono ?_
  rintro e w3 ⟨rfl,b⟩
  have j:=Qh b c0
  go_wp2_with fail
  refine(Qh9 w.heap.size 1 (.slice none 0 0) [] a w3 (.inr rfl) (World.ownsRow_nil _ _ _ _) b.size (by simp) f).mono ?_
  rintro e w4 ⟨v,rfl,h1,h2,n⟩
  have g:ZB w w4:=Qf b (h2.below (fun k _ m=>by simp[OwnB,Value.ownBlock] at m))
  have o:=Zh h1
  clear c0 j h1 h2 n
  go_wp2_with fail
  rw[rounds_succ]
  go_wp2_with fail
  go_ret3
  refine⟨v,rfl,?_,g⟩
  have:=o.out
  simp only[List.length_nil,Nat.zero_add,List.nil_append] at this
  exact this
 ·have f:0<szL a:=i
  have l:(szL a==0)=false:=by rw[beq_eq_false_iff_ne];omega
  have ks:=fun(w':World)=>Ql6 a w'
  have d:Qc1 4 a=Qc1 4 a:=rfl
  obtain⟨z,h⟩:=ZN (szL a)
  rw[h] at ks l
  have KS:=Zh ks
  clear ks i h
  go_enter Tryz.func180,Tryz.ntmps180
  go_wp2_with fail
  refine(QcJ _ _ (by omega)).mono ?_
  rintro e w1 ⟨rfl,rfl⟩
  simp only[Qci,if_true,Int.reduceEq,if_false]
  have r:=QhG
  have p:=QhK
  have q:=Qmg
  have f4:=Qn2
  go_wp2_with fail
  refine wp_loop_rounds 2 ?_
  rw[rounds_succ]
  go_wp2_with fail
  refine(KS.out _).mono ?_
  rintro e w3 ⟨rfl,b⟩
  have j:=Qh b c0
  go_wp2_with fail
  refine(QpR w.heap.size (.slice none 0 0) [] a w3 (World.ownsRow_nil _ _ _ _) b.size (by simp) f).mono ?_
  rintro e w4 ⟨v,rfl,h1,h2,n⟩
  have g:ZB w w4:=Qf b (h2.below (fun k _ m=>by simp[OwnB,Value.ownBlock] at m))
  have o:=Zh h1
  clear c0 j h1 h2 n
  go_wp2_with fail
  rw[rounds_succ]
  go_wp2_with fail
  go_ret3
  refine⟨v,rfl,?_,g⟩
  have:=o.out
  simp only[List.length_nil,Nat.zero_add,List.nil_append] at this
  exact this
end Go.Proofs.YtgiihhikdoikgaaGreat
