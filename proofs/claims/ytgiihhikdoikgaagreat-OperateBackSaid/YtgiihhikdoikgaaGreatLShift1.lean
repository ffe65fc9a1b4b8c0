/-
  operate.Shift's act: the edits that shift lines.
-/
import Derived.Test.YtgiihhikdoikgaaGreatLLawKit
set_option linter.unusedSimpArgs false
set_option linter.unusedVariables false
set_option maxRecDepth 100000
set_option maxHeartbeats 32000000
namespace Go.Proofs.YtgiihhikdoikgaaGreat
open Go.RowKit
theorem QoV (D:Nat->Prop)(g:Nat)(enc:Int)(b:List (Int × Int))(w:World)(h:TextAt w D g enc b) :
  Calls Tryz.prog 47 #[.pointer (some ⟨g,0,none⟩)] w fun e w'=>e=.returned (.int .i64 enc)/\w=w':=by
 obtain⟨lim,t,a,add,h,rfl⟩:=h
 obtain⟨c1,_⟩:=h.cells
 clear h
 go_enter Tryz.func47,Tryz.ntmps47
 go_wp2_with fail
 go_ret
 exact⟨rfl,rfl⟩
section
variable {B gd gb g n:Nat} {enc lim:Int} {st:BkS} {dc:Array Value} {w:World}
theorem Qco (h:DeskIs w B gd gb g enc lim n st dc)(a b k:Int)(u:k=0\/k=1)(A:0<=a/\a<=b/\b<=(st.ats.length:Int)) :
  Calls Tryz.prog 27 #[.pointer (some ⟨gd,0,none⟩),.agg #[.int .i64 a,.int .i64 b,.int .i64 k]] w fun e w'=>e=.returned (.tuple #[])/\ZB w w':=by
 have d:=fun(w':World) (j:ZB w w')=>QaS Any g enc (Qb enc st.ats) w' (h.below j).at_
 rw[Qr] at d
 obtain⟨N,t⟩:=ZN (st.ats.length)
 rw[t] at d A
 have p:=Zh d
 have y:=Zh (fun(w':World) (j:ZB w w')=>Qae (h.below j))
 have c:ZB w (w.alloc (.cells #[.int .i64 a,.int .i64 b,.int .i64 k] 29)):=Qa (Below.refl _ _)
 have l:=Blk.new w 29 #[.int .i64 a,.int .i64 b,.int .i64 k]
 have F:(a<0)=False:=by simp;omega
 have D:(b<a)=False:=by simp;omega
 have E:((N:Int)<b)=False:=by simp;omega
 clear h d t
 go_enter Tryz.func27,Tryz.ntmps27
 go_upto_region 1 with fail
 obtain⟨w1,i⟩:∃x,w.alloc (.cells #[.int .i64 a,.int .i64 b,.int .i64 k] 29)=x:=⟨_,rfl⟩
 rw[i] at c l ⊢
 clear i
 obtain⟨c0,c1,c2⟩:=QaR l
 have s : ∀w',ZB w1 w'->w'.cell? ⟨w.heap.size,0,none⟩=some (.int .i64 a)/\w'.cell? ⟨w.heap.size,1,none⟩=some (.int .i64 b):=fun w' j=>⟨(l.below j).cell 0,(l.below j).cell 1⟩
 have HS:=Zh s
 clear s l
 rcases u with rfl|rfl
 all_goals
  go_wp2_with fail
  refine Qv (fun w'=>ZB w1 w') (by kernel_rfl) (by kernel_rfl) (Below.drew (Below.refl _ _)) ?_
  repeat ((first
   |(refine Q9 (v:=?_) (by rfl) (fun w6 hSw=>?_) ?_;rotate_left;(·(obtain⟨r,q⟩:=HS.out _ hSw;go_simp;try with_reducible rfl)))
   |refine Qaw (by rfl) ?_
   |(refine QO (f:=?_) (args:=?_) (v:=.pointer (some ⟨g,0,none⟩)) (by rfl) (fun w6 hSw=>?_) (fun w6 hSw=>?_) ?_;rotate_left 2;(·(obtain⟨r,q⟩:=HS.out _ hSw;go_simp;first|done|(constructor<;>with_reducible rfl)|with_reducible rfl));(·(refine(y.out _ (Qf c hSw)).mono ?_;rintro e z ⟨rfl,rfl⟩;exact⟨rfl,hSw⟩)))
   |(refine QO (f:=?_) (args:=?_) (v:=.int .i64 (N:Int)) (by rfl) (fun w6 hSw=>?_) (fun w6 hSw=>?_) ?_;rotate_left 2;(·(obtain⟨r,q⟩:=HS.out _ hSw;go_simp;first|done|(constructor<;>with_reducible rfl)|with_reducible rfl));(·(refine(p.out _ (Qf c hSw)).mono ?_;rintro e z ⟨rfl,o⟩;exact⟨rfl,Qf hSw o⟩))));(try simp only[Act.put,pA,pB,pC]))
  refine Qav ?_
  intro C m
  go_wp2_with fail
  show bodyPost _ _ _ _ _ _
  refine bodyPost_end (results_none rfl _ _ _) rfl ?_
  exact⟨rfl,Qf c m⟩
theorem Qfx (h:DeskIs w B gd gb g enc lim n st dc)(a b k:Int)(ha:0<=a/\a<=b/\b<=(st.ats.length:Int)) :
  Calls Tryz.prog 32 #[.pointer (some ⟨gd,0,none⟩),.agg #[.int .i64 a,.int .i64 b,.int .i64 k]] w fun e w'=>e=.returned (.tuple #[.int .i64 (Qs (Qb enc st.ats) a false:Int),.int .i64 (Qs (Qb enc st.ats) (max a (b-1)) false:Int)])/\ZB w w':=by
 have G:=h.len
 have J:=fun(x:Int) (w':World) (F:ZB w w')=>Qfm Any g enc (Qb enc st.ats) x w' (h.below F).at_
 have N:=fun(w':World) (F:ZB w w')=>QbD Any g enc (Qb enc st.ats) w' (h.below F).at_
 have S := @Qbf (Qb enc st.ats)
 have W:QaG (Qb enc st.ats)<=65536:=Nat.le_trans (Qct _ _) (by rw[Qr];exact G)
 have hR : ∀x,Qs (Qb enc st.ats) x false=min (ofF (Qb enc st.ats) x) (QL (Qb enc st.ats)-1):=fun x=>rfl
 obtain⟨m,hm⟩:=ZN (max a (b-1))
 rw[hR,hR,hm]
 obtain⟨M,hM⟩:=ZN (QL (Qb enc st.ats))
 have t:=J a
 have A:=J m
 obtain⟨V,hV⟩:=ZN (ofF (Qb enc st.ats) a)
 obtain⟨U,X⟩:=ZN (ofF (Qb enc st.ats) m)
 rw[hM] at N S ⊢
 rw[hV] at t ⊢
 rw[X] at A ⊢
 obtain⟨K,hK⟩:=ZN (M-1)
 rw[hK]
 have wm:IntKind.i64.wrap ((M:Int)-1)=(K:Int):=by rw[IntWalk.i64_in _ (by omega)];omega
 have wb:IntKind.i64.wrap (b-1)=b-1:=IntWalk.i64_in _ (by omega)
 have P:=Zh N
 have s:=Zh t
 have E:=Zh A
 have HT:=Zh (fun(w':World) (F:ZB w w')=>Qae (h.below F))
 have C:ZB w (w.alloc (.cells #[.int .i64 a,.int .i64 b,.int .i64 k] 29)):=Qa (Below.refl _ _)
 have T:=Blk.new w 29 #[.int .i64 a,.int .i64 b,.int .i64 k]
 have a2:=Zh hm
 have a1:=Zh (show m=a->U=V from fun e=>by rw[<-X,<-hV,e])
 have O:(a<b-1/\m=b-1)\/(¬a<b-1/\m=a):=by omega
 clear h J N t A hM hV X hm hK hR G S W
 go_enter Tryz.func32,Tryz.ntmps32
 go_upto_region 1 with fail
 obtain⟨w1,H⟩:∃x,w.alloc (.cells #[.int .i64 a,.int .i64 b,.int .i64 k] 29)=x:=⟨_,rfl⟩
 rw[H] at C T ⊢
 clear H
 go_wp2_with fail
 refine(HT.out _ C).mono ?_
 rintro e q ⟨rfl,rfl⟩
 go_wp2_with fail
 refine(P.out _ C).mono ?_
 rintro e q ⟨rfl,I⟩
 have d:=Qf C I
 have hS : ∀w',ZB q w'->w'.cell? ⟨w.heap.size,0,none⟩=some (.int .i64 a)/\w'.cell? ⟨w.heap.size,1,none⟩=some (.int .i64 b):=fun w' F=>⟨(T.below (Qf I F)).cell 0,(T.below (Qf I F)).cell 1⟩
 have HS:=Zh hS
 clear hS T P HT
 go_upto_region 3 with fail
 have j:=Zh (show ∀x:Nat,(K<x->(min x K:Nat)=K)/\(x<=K->(min x K:Nat)=x) from fun x=>⟨fun h=>by omega,fun h=>by omega⟩)
 rcases O with ⟨Y,q1⟩|⟨Y,q1⟩
 ·subst q1
  have p0:(a<b-1)=True:=by simp;omega
  clear Y
  rcases Nat.lt_or_ge K V with r|r
  ·rcases Nat.lt_or_ge K U with y|y
   ·have R:((K:Int)<(V:Int))=True:=by simp;omega
    have Q:(K<V)=True:=by simp;omega
    have p3:((K:Int)<(U:Int))=True:=by simp;omega
    have Z:(K<U)=True:=by simp;omega
    have l:=(j.out V).1 r
    have z:=(j.out U).1 y
    have u:=Zh l
    have L:=Zh z
    clear l z r y
    refine Qv (fun w'=>ZB q w') (by kernel_rfl) (by kernel_rfl) (Below.drew (Below.refl _ _)) ?_
    repeat ((first
     |(refine Q9 (v:=?_) (by rfl) (fun w6 hSw=>?_) ?_;rotate_left;(·(obtain⟨p,o⟩:=HS.out _ hSw;go_simp;try with_reducible rfl)))
     |refine Qaw (by rfl) ?_
     |(refine QO (f:=?_) (args:=?_) (v:=.int .i64 (V:Int)) (by rfl) (fun w6 hSw=>?_) (fun w6 hSw=>?_) ?_;rotate_left 2;(·(obtain⟨p,o⟩:=HS.out _ hSw;go_simp;first|done|(constructor<;>with_reducible rfl)|with_reducible rfl));(·((with_reducible refine(s.out _ (Qf d hSw)).mono ?_);rintro e D ⟨rfl,c⟩;exact⟨rfl,Qf hSw c⟩)))
     |(refine QO (f:=?_) (args:=?_) (v:=.int .i64 (U:Int)) (by rfl) (fun w6 hSw=>?_) (fun w6 hSw=>?_) ?_;rotate_left 2;(·(obtain⟨p,o⟩:=HS.out _ hSw;go_simp;first|done|(constructor<;>with_reducible rfl)|with_reducible rfl));(·((with_reducible refine(E.out _ (Qf d hSw)).mono ?_);rintro e D ⟨rfl,c⟩;exact⟨rfl,Qf hSw c⟩))));(try simp only[Act.put,pA,pB,pC]))
    refine Qav ?_
    intro w3 i
    go_wp2_with fail
    exact bodyPost_ret (v:=.tuple #[.int .i64 (K:Int),.int .i64 (K:Int)]) (by simp[results,Tryz.results32,go_sem]) rfl ⟨by rw[u.out,L.out],Qf d i⟩
   ·have R:((K:Int)<(V:Int))=True:=by simp;omega
    have Q:(K<V)=True:=by simp;omega
    have p3:((K:Int)<(U:Int))=False:=by simp;omega
    have Z:(K<U)=False:=by simp;omega
    have l:=(j.out V).1 r
    have z:=(j.out U).2 y
    have u:=Zh l
    have L:=Zh z
    clear l z r y
    refine Qv (fun w'=>ZB q w') (by kernel_rfl) (by kernel_rfl) (Below.drew (Below.refl _ _)) ?_
    repeat ((first
     |(refine Q9 (v:=?_) (by rfl) (fun w6 hSw=>?_) ?_;rotate_left;(·(obtain⟨p,o⟩:=HS.out _ hSw;go_simp;try with_reducible rfl)))
     |refine Qaw (by rfl) ?_
     |(refine QO (f:=?_) (args:=?_) (v:=.int .i64 (V:Int)) (by rfl) (fun w6 hSw=>?_) (fun w6 hSw=>?_) ?_;rotate_left 2;(·(obtain⟨p,o⟩:=HS.out _ hSw;go_simp;first|done|(constructor<;>with_reducible rfl)|with_reducible rfl));(·((with_reducible refine(s.out _ (Qf d hSw)).mono ?_);rintro e D ⟨rfl,c⟩;exact⟨rfl,Qf hSw c⟩)))
     |(refine QO (f:=?_) (args:=?_) (v:=.int .i64 (U:Int)) (by rfl) (fun w6 hSw=>?_) (fun w6 hSw=>?_) ?_;rotate_left 2;(·(obtain⟨p,o⟩:=HS.out _ hSw;go_simp;first|done|(constructor<;>with_reducible rfl)|with_reducible rfl));(·((with_reducible refine(E.out _ (Qf d hSw)).mono ?_);rintro e D ⟨rfl,c⟩;exact⟨rfl,Qf hSw c⟩))));(try simp only[Act.put,pA,pB,pC]))
    refine Qav ?_
    intro w3 i
    go_wp2_with fail
    exact bodyPost_ret (v:=.tuple #[.int .i64 (K:Int),.int .i64 (U:Int)]) (by simp[results,Tryz.results32,go_sem]) rfl ⟨by rw[u.out,L.out],Qf d i⟩
  ·rcases Nat.lt_or_ge K U with y|y
   ·have R:((K:Int)<(V:Int))=False:=by simp;omega
    have Q:(K<V)=False:=by simp;omega
    have p3:((K:Int)<(U:Int))=True:=by simp;omega
    have Z:(K<U)=True:=by simp;omega
    have l:=(j.out V).2 r
    have z:=(j.out U).1 y
    have u:=Zh l
    have L:=Zh z
    clear l z r y
    refine Qv (fun w'=>ZB q w') (by kernel_rfl) (by kernel_rfl) (Below.drew (Below.refl _ _)) ?_
    repeat ((first
     |(refine Q9 (v:=?_) (by rfl) (fun w6 hSw=>?_) ?_;rotate_left;(·(obtain⟨p,o⟩:=HS.out _ hSw;go_simp;try with_reducible rfl)))
     |refine Qaw (by rfl) ?_
     |(refine QO (f:=?_) (args:=?_) (v:=.int .i64 (V:Int)) (by rfl) (fun w6 hSw=>?_) (fun w6 hSw=>?_) ?_;rotate_left 2;(·(obtain⟨p,o⟩:=HS.out _ hSw;go_simp;first|done|(constructor<;>with_reducible rfl)|with_reducible rfl));(·((with_reducible refine(s.out _ (Qf d hSw)).mono ?_);rintro e D ⟨rfl,c⟩;exact⟨rfl,Qf hSw c⟩)))
     |(refine QO (f:=?_) (args:=?_) (v:=.int .i64 (U:Int)) (by rfl) (fun w6 hSw=>?_) (fun w6 hSw=>?_) ?_;rotate_left 2;(·(obtain⟨p,o⟩:=HS.out _ hSw;go_simp;first|done|(constructor<;>with_reducible rfl)|with_reducible rfl));(·((with_reducible refine(E.out _ (Qf d hSw)).mono ?_);rintro e D ⟨rfl,c⟩;exact⟨rfl,Qf hSw c⟩))));(try simp only[Act.put,pA,pB,pC]))
    refine Qav ?_
    intro w3 i
    go_wp2_with fail
    exact bodyPost_ret (v:=.tuple #[.int .i64 (V:Int),.int .i64 (K:Int)]) (by simp[results,Tryz.results32,go_sem]) rfl ⟨by rw[u.out,L.out],Qf d i⟩
   ·have R:((K:Int)<(V:Int))=False:=by simp;omega
    have Q:(K<V)=False:=by simp;omega
    have p3:((K:Int)<(U:Int))=False:=by simp;omega
    have Z:(K<U)=False:=by simp;omega
    have l:=(j.out V).2 r
    have z:=(j.out U).2 y
    have u:=Zh l
    have L:=Zh z
    clear l z r y
    refine Qv (fun w'=>ZB q w') (by kernel_rfl) (by kernel_rfl) (Below.drew (Below.refl _ _)) ?_
    repeat ((first
     |(refine Q9 (v:=?_) (by rfl) (fun w6 hSw=>?_) ?_;rotate_left;(·(obtain⟨p,o⟩:=HS.out _ hSw;go_simp;try with_reducible rfl)))
     |refine Qaw (by rfl) ?_
     |(refine QO (f:=?_) (args:=?_) (v:=.int .i64 (V:Int)) (by rfl) (fun w6 hSw=>?_) (fun w6 hSw=>?_) ?_;rotate_left 2;(·(obtain⟨p,o⟩:=HS.out _ hSw;go_simp;first|done|(constructor<;>with_reducible rfl)|with_reducible rfl));(·((with_reducible refine(s.out _ (Qf d hSw)).mono ?_);rintro e D ⟨rfl,c⟩;exact⟨rfl,Qf hSw c⟩)))
     |(refine QO (f:=?_) (args:=?_) (v:=.int .i64 (U:Int)) (by rfl) (fun w6 hSw=>?_) (fun w6 hSw=>?_) ?_;rotate_left 2;(·(obtain⟨p,o⟩:=HS.out _ hSw;go_simp;first|done|(constructor<;>with_reducible rfl)|with_reducible rfl));(·((with_reducible refine(E.out _ (Qf d hSw)).mono ?_);rintro e D ⟨rfl,c⟩;exact⟨rfl,Qf hSw c⟩))));(try simp only[Act.put,pA,pB,pC]))
    refine Qav ?_
    intro w3 i
    go_wp2_with fail
    exact bodyPost_ret (v:=.tuple #[.int .i64 (V:Int),.int .i64 (U:Int)]) (by simp[results,Tryz.results32,go_sem]) rfl ⟨by rw[u.out,L.out],Qf d i⟩
 ·subst q1
  have a0:=a1.out rfl
  subst a0
  have p0:(m<b-1)=False:=by simp;omega
  clear Y
  rcases Nat.lt_or_ge K U with r|r
  ·have R:((K:Int)<(U:Int))=True:=by simp;omega
   have Q:(K<U)=True:=by simp;omega
   have l:=(j.out U).1 r
   have u:=Zh l
   clear l r
   refine Qv (fun w'=>ZB q w') (by kernel_rfl) (by kernel_rfl) (Below.drew (Below.refl _ _)) ?_
   repeat ((first
    |(refine Q9 (v:=?_) (by rfl) (fun w6 hSw=>?_) ?_;rotate_left;(·(obtain⟨p,o⟩:=HS.out _ hSw;go_simp;try with_reducible rfl)))
    |refine Qaw (by rfl) ?_
    |(refine QO (f:=?_) (args:=?_) (v:=.int .i64 (U:Int)) (by rfl) (fun w6 hSw=>?_) (fun w6 hSw=>?_) ?_;rotate_left 2;(·(obtain⟨p,o⟩:=HS.out _ hSw;go_simp;first|done|(constructor<;>with_reducible rfl)|with_reducible rfl));(·((with_reducible refine(s.out _ (Qf d hSw)).mono ?_);rintro e D ⟨rfl,c⟩;exact⟨rfl,Qf hSw c⟩))));(try simp only[Act.put,pA,pB,pC]))
   refine Qav ?_
   intro w3 i
   go_wp2_with fail
   exact bodyPost_ret (v:=.tuple #[.int .i64 (K:Int),.int .i64 (K:Int)]) (by simp[results,Tryz.results32,go_sem]) rfl ⟨by rw[u.out],Qf d i⟩
  ·have R:((K:Int)<(U:Int))=False:=by simp;omega
   have Q:(K<U)=False:=by simp;omega
   have l:=(j.out U).2 r
   have u:=Zh l
   clear l r
   refine Qv (fun w'=>ZB q w') (by kernel_rfl) (by kernel_rfl) (Below.drew (Below.refl _ _)) ?_
   repeat ((first
    |(refine Q9 (v:=?_) (by rfl) (fun w6 hSw=>?_) ?_;rotate_left;(·(obtain⟨p,o⟩:=HS.out _ hSw;go_simp;try with_reducible rfl)))
    |refine Qaw (by rfl) ?_
    |(refine QO (f:=?_) (args:=?_) (v:=.int .i64 (U:Int)) (by rfl) (fun w6 hSw=>?_) (fun w6 hSw=>?_) ?_;rotate_left 2;(·(obtain⟨p,o⟩:=HS.out _ hSw;go_simp;first|done|(constructor<;>with_reducible rfl)|with_reducible rfl));(·((with_reducible refine(s.out _ (Qf d hSw)).mono ?_);rintro e D ⟨rfl,c⟩;exact⟨rfl,Qf hSw c⟩))));(try simp only[Act.put,pA,pB,pC]))
   refine Qav ?_
   intro w3 i
   go_wp2_with fail
   exact bodyPost_ret (v:=.tuple #[.int .i64 (U:Int),.int .i64 (U:Int)]) (by simp[results,Tryz.results32,go_sem]) rfl ⟨by rw[u.out],Qf d i⟩
end
def QP (l:List Int):Nat->List Int
 | 0=>[]
 |k+1=>QP l k++l
theorem QbG (l:List Int)(k:Nat):(QP l k).length=k*l.length:=by
 induction k with
 |zero=>simp[QP]
 |succ k ih=>unfold QP;rw[List.length_append,ih,Nat.add_mul];omega
def Qs4 (l:List Int)(K:Nat)(w:World)(k:Nat)(b a:Value)(wr:World):Prop:=
 ∃r:Nat,a=.int .i64 (r:Int)/\r<=K/\K-r<=k/\Hid (wr.ownsRow w.heap.size 3 1 b (QP l r).length ((QP l r).map (Value.int .i64)))/\ZB w wr
theorem Qib (D:Nat->Prop)(A:Option Addr)(N c K:Nat)(l:List Int)(w:World)(C:Ints w D A N l)(X:N*K<=268435456)(S:N<=1073741824)(hK:K<=1073741824) :
  Calls Tryz.prog 56 #[.slice A N c,.int .i64 (K:Int)] w (NewInts (QP l K) w):=by
 have e:=C.len
 have G:=Zh e
 obtain⟨Q,f,m,q,n⟩:=info_parts Qa3
 have t:=Zh f
 have Y:=Zh C
 have wm:IntKind.i64.wrap ((N:Int)*(K:Int))=((N*K:Nat):Int):=by
  have:(N:Int)*(K:Int)=((N*K:Nat):Int):=by rw[Int.natCast_mul]
  rw[this]
  exact IntWalk.i64_in _ (by omega)
 have a : ∀r,r<=K->(QP l r).length<=268435456:=fun r L=>by
  rw[QbG,e]
  have h:=Nat.mul_le_mul L (Nat.le_refl N)
  rw[Nat.mul_comm K N] at h
  omega
 obtain⟨M,P⟩:=ZN (N*K)
 rw[P] at wm X
 have i:=Zh a
 clear C e P a f
 go_enter Tryz.func56,Tryz.ntmps56
 go_wp2_with (at_make;refine wpList_make_own _ rfl _ _ 36 rfl w.heap.size 3 Q (.int .i64 0) 1 Tryz.underlying36 t.out m q _ _ _ M rfl rfl rfl (by rw[n];omega) (by unfold maxLen;omega) (Nat.le_refl _) ?_)
 intro w1 j o
 have F:ZB w w1:=Qcu o
 have B:=Zh j
 clear j o
 go_wp2_with fail
 go_loopg [5,12] K (fun k W J wr=>Qs4 l K w k W J wr)
 case atStart=>exact⟨0,rfl,Nat.zero_le _,by omega,B,F⟩
 case round=>
  obtain⟨r,rfl,L,O,y,v⟩:=hrel
  by_cases hgo:r<K
  ·have Z:((r:Int)<(K:Int))=True:=by simp;omega
   have R:IntKind.i64.wrap ((r:Int)+1)=((r+1:Nat):Int):=by rw[IntWalk.i64_in _ (by omega)];omega
   have d:(QP l (r+1)).length=(QP l r).length+N:=by
    rw[QbG,QbG,G.out,Nat.add_mul]
    omega
   have I:=i.out (r+1) hgo
   rw[d] at I
   have hs:=v.size
   have E:=Zh d
   clear d
   go_wp2_with (at_builtin;refine Qbg _ rfl (.tmp 14) (.tmp 15) 36 rfl w.heap.size 3 Q (.int .i64 0) 1 8 Tryz.underlying36 t.out m q n rfl (by decide) u5 (QP l r).length _ rfl y.out D A N c (l.map (Value.int .i64)) rfl (Reads.below Y.out v) (by intro u T;obtain⟨x,_,rfl⟩:=List.mem_map.1 T;rfl) (by unfold maxLen;omega) (by omega) hs ?_)
   intro v1 U p s _
   have z:ZB w U:=Qy v s (fun k O=>QaV y.out O)
   have H:=Zh p
   clear p s
   go_wp2_with fail
   go_roundg (K-(r+1))
   case measure=>omega
   case rel=>
    refine⟨r+1,rfl,by omega,by omega,Zh ?_,z⟩
    rw[E.out,show QP l (r+1)=QP l r++l from rfl,List.map_append]
    exact H.out
  ·have Z:((r:Int)<(K:Int))=False:=by simp;omega
   have g:r=K:=by omega
   have b:=y.out
   rw[g] at b
   have V:=Zh b
   clear b y g
   go_wp2_with fail
   go_ret
   exact⟨_,rfl,V.out,v⟩
theorem QpE (a:List (Int × Int)){x y:Int}(h:x<=y):ofF a x<=ofF a y:=by
 unfold ofF
 exact QaT _ (by omega)
theorem Qlv (a:List (Int × Int)){x y:Int}(h:x<=y):Qs a x false<=Qs a y false:=by
 have:=QpE a h
 unfold Qs
 simp only[Bool.false_eq_true,if_false]
 omega
theorem QmY {α β : Type}(f:Int -> α)(g : α -> β) : ∀(es:List Ed) (l:List α),(edL f es l).map g=edL (fun x=>g (f x)) es (l.map g):=by
 intro es
 induction es with
 |nil=>intro l;rfl
 |cons e r ih=>
  intro l
  rw[QgX,QgX,<-ih l]
  unfold ed1
  rw[List.map_append,List.map_append,List.map_take,List.map_drop,List.map_map]
  rfl
theorem Qoh {w:World}{m g:Nat}{s c k arg goal:Int}{cn:Bool}{b e d f a i j:Value}(h:Blk w m 245 (mvV g s c k cn arg goal b e d f a i j)) :
  w.cell? ⟨m,3,none⟩=some (.int .i64 k)/\w.cell? ⟨m,13,none⟩=some a:=⟨h.cell 3,h.cell 13⟩
theorem QmX (D:Nat->Prop)(m g:Nat)(enc:Int)(j:List (Int × Int))(s c arg goal:Int)(cn:Bool)(K M R U I O:Value)(i:Nat)(w:World)(hm:Blk w m 245 (mvV g s c 1 cn arg goal K M R U (.int .i64 (i:Int)) I O))(h:TextAt w D g enc j)(J:i<QL j) :
  Calls Tryz.prog 161 #[.pointer (some ⟨m,0,none⟩)] w (Qe1 j i w):=by
 have b:=h.len
 have u:QL j<=QaG j+1:=by unfold QL;split<;>omega
 have r:QaG j<=1073741824:=Nat.le_trans (Qct _ _) b
 have p:=fun(wy:World) (q:ZB w wy)=>QkM D m g enc j s 1 i wy ⟨_,_,_,_,_,_,_,_,_,_,_,hm.below q⟩ (h.below q) J
 have o:=fun(wy:World) (q:ZB w wy)=>Qoh (hm.below q)
 have t:=Zh p
 have l:=Zh o
 have L:IntKind.i64.wrap ((i:Int)+1)=(i:Int)+1:=IntWalk.i64_in _ (by omega)
 have S:IntKind.i64.wrap ((i:Int)+1-1)=(i:Int):=by rw[IntWalk.i64_in _ (by omega)];omega
 have V:(i:Int)+1-1=(i:Int):=by omega
 have H:IntKind.i64.wrap (i:Int)=(i:Int):=IntWalk.i64_in _ (by omega)
 clear p o hm h b u r
 have a:ZB w (w.alloc (.cells #[.int .i64 0,.int .i64 0,.int .i64 0] 152)):=Qa (Below.refl _ _)
 have B:=Blk.new w 152 #[.int .i64 0,.int .i64 0,.int .i64 0]
 go_enter Tryz.func161,Tryz.ntmps161
 go_upto_region 1 with fail
 obtain⟨w1,d⟩:∃x,w.alloc (.cells #[.int .i64 0,.int .i64 0,.int .i64 0] 152)=x:=⟨_,rfl⟩
 rw[d] at a B ⊢
 have F:=Zh B
 clear B d
 refine Qg (fun w'=>ZB w1 w') (fun w'=>ZB w1 w') (fun k=>k==12 || k==15) (fun k=>k==15) (fun k=>k==16) (by kernel_rfl) (by kernel_rfl) (Below.drew (Below.refl _ _)) (fun _ h=>h) ?_
 repeat ((first
  |(refine Qc (v:=?_) (by rfl) (by rfl) (fun w6 hSw=>?_) ?_;rotate_left;(·(obtain⟨E,C⟩:=l.out _ (Qf a hSw);go_simp;try with_reducible rfl)))
  |(refine Qd (v:=?_) (by rfl) (fun w6=>?_) ?_;rotate_left;(·(go_simp;try with_reducible rfl)))
  |refine Qe (by rfl) ?_);(try simp only[Act.put,pA,pB,pC]))
 refine Qn (f:=?_) (args:=?_) (fun v w'=>(∃(T:Int) (jj:Nat),SignAt j i T/\v=.tuple #[.agg #[.int .i64 T,.int .i64 2,.int .i64 (jj:Int)],.int .i64 0])/\ZB w1 w') (by rfl) (by rfl) (fun w6 hSw=>?_) (fun w6 hSw=>?_) (.inr (fun v6 w6 hT6=>?_)) (fun v6 hv6=>?_)
 rotate_left 2
 ·(skip;go_simp;first|done|(constructor<;>with_reducible rfl)|with_reducible rfl)
 ·(refine(t.out _ (Qf a hSw)).mono ?_;rintro e w' ⟨T,A,⟨jj,rfl⟩,G⟩;exact⟨_,rfl,⟨T,jj,A,rfl⟩,Qf hSw G⟩)
 ·(exact hT6.2)
 obtain⟨wz,⟨T,jj,A,rfl⟩,-⟩:=hv6
 (try simp only[Act.put,pA,pB,pC])
 iterate 2 ((first
  |(refine Qc (v:=?_) (by rfl) (by rfl) (fun w6 hSw=>?_) ?_;rotate_left;(·(obtain⟨E,C⟩:=l.out _ (Qf a hSw);go_simp;try with_reducible rfl)))
  |(refine Qd (v:=?_) (by rfl) (fun w6=>?_) ?_;rotate_left;(·(go_simp;try with_reducible rfl)))
  |refine Qe (by rfl) ?_);(try simp only[Act.put,pA,pB,pC]))
 refine Ql (fun _ w'=>∃wx,ZB w1 wx/\w'=((wx.setCell ⟨w.heap.size,0,none⟩ (.int .i64 T)).setCell ⟨w.heap.size,1,none⟩ (.int .i64 2)).setCell ⟨w.heap.size,2,none⟩ (.int .i64 (jj:Int))) (by rfl) (by rfl) (fun w6 hSw=>?_) (.inl (by rfl)) (fun v6 hv6=>?_)
 ·(obtain⟨l0,l1,W,X,Z,Y⟩:=Qdf (F.out.below hSw.2);go_simp;exact⟨_,hSw.2,rfl⟩)
 skip
 (try simp only[Act.put,pA,pB,pC])
 repeat ((first
  |(refine Qc (v:=?_) (by rfl) (by rfl) (fun w6 hSw=>?_) ?_;rotate_left;(·(obtain⟨E,C⟩:=l.out _ (Qf a hSw);go_simp;try with_reducible rfl)))
  |(refine Qd (v:=?_) (by rfl) (fun w6=>?_) ?_;rotate_left;(·(go_simp;try with_reducible rfl)))
  |refine Qe (by rfl) ?_);(try simp only[Act.put,pA,pB,pC]))
 refine Qu ?_
 rintro w9 ⟨wx,n,rfl⟩
 go_wp2_with fail
 obtain⟨N,P,Q⟩:=QeR (x:=T) (y:=2) (z:=(jj:Int)) (F.out.below n)
 exact bodyPost_ret (v:=.tuple #[.agg #[.int .i64 T,.int .i64 2,.int .i64 (jj:Int)],.int .i64 0]) (by simp[results,Tryz.results161,go_sem,N,P,Q]) rfl ⟨_,A,⟨jj,rfl⟩,Qc5 (Qf a n) (Nat.le_refl _)⟩
theorem QqA (w:World):(binOp BinOp.eql 242 (.func (.func 161) #[] #[]) .nilFunc).run Tryz.prog w=.ok (.bool false) w:=by kernel_rfl
theorem Qhu (w:World):Calls Tryz.prog 136 #[.int .i64 15] w fun e w'=>e=.returned (.func (.func 161) #[] #[])/\w=w':=by
 go_enter Tryz.func136,Tryz.ntmps136
 go_wp2_with fail
 go_ret
 exact⟨rfl,rfl⟩
def HereAt (a:List (Int × Int))(at_:Int)(i:Nat):Prop:=∃j:Nat,ClampOk a at_ j/\j<=nC (Qbb a (Qs a at_ false))/\i=Qs a ((Qo a (Qs a at_ false)).from_+(mkb (Qbb a (Qs a at_ false)) j:Int)) false
def Qhr (a:List (Int × Int))(at_:Int)(w:World)(e:Ending)(w':World):Prop:=∃i,HereAt a at_ i/\Qe1 a i w e w'
theorem Qpf (D:Nat->Prop)(g:Nat)(enc:Int)(a:List (Int × Int))(at_:Int)(w:World)(h:TextAt w D g enc a) :
  Calls Tryz.prog 135 #[.func (.func 136) #[] #[],.pointer (some ⟨g,0,none⟩),.int .i64 at_,.int .i64 0,.agg #[.int .i64 15,.int .i64 0,.int .i64 0],.bool false] w (Qhr a at_ w):=by
 have hp:=h.pos
 have Q:=h.len
 have a7:=fun(wy:World) (k:ZB w wy)=>Qiu D g enc a at_ wy (h.below k)
 have b:=fun(y:Int) (wy:World) (k:ZB w wy)=>Qd3 D g enc a y false wy (h.below k)
 have b7:=Zh a7
 have b5:=Zh b
 have HT:=Zh h
 have HP:=Zh hp
 clear b a7 hp h
 have hM:=Blk.new w 156 #[.int .i64 15,.int .i64 0,.int .i64 0]
 have B:=hM.alloc (.cells #[.int .i64 0,.int .i64 0,.int .i64 0] 152)
 have a3:=Blk.new (w.alloc (.cells #[.int .i64 15,.int .i64 0,.int .i64 0] 156)) 152 #[.int .i64 0,.int .i64 0,.int .i64 0]
 have a6:ZB w ((w.alloc (.cells #[.int .i64 15,.int .i64 0,.int .i64 0] 156)).alloc (.cells #[.int .i64 0,.int .i64 0,.int .i64 0] 152)):=Qa (Qa (Below.refl _ _))
 rw[World.size_alloc] at a3
 have c0:=B.cell 0
 have c1:=B.cell 1
 simp at c0 c1
 have b9:=Tryz.call136
 have c4:=Tryz.call161
 have b8:=QqA
 have b6:=Zh Qhu
 go_enter Tryz.func135,Tryz.ntmps135
 go_wp2_with fail
 refine(b6.out _).mono ?_
 rintro e w1 ⟨rfl,rfl⟩
 go_wp2_with fail
 refine(b7.out _ a6).mono ?_
 rintro e w2 ⟨jc,rfl,s,a2,t⟩
 have d:=B.below t
 have n:=a3.below t
 have Z:=Qf a6 t
 clear c0 c1
 have d0:=d.cell 0
 have d1:=d.cell 1
 have d2:=d.cell 2
 simp at d0 d1 d2
 have A : ∀i,i=Qs a ((Qo a (Qs a at_ false)).from_+(mkb (Qbb a (Qs a at_ false)) jc:Int)) false->HereAt a at_ i:=fun i hi=>⟨jc,s,a2,hi⟩
 obtain⟨y,k⟩:=ZN ((Qo a (Qs a at_ false)).from_+(mkb (Qbb a (Qs a at_ false)) jc:Int))
 rw[k] at A ⊢
 have F:=QaO a y false
 have u:Qs a y false<QL a:=by have := @Qbf a;unfold Qs;simp;omega
 have E:=Q3 HP.out F
 have j:=QaE HP.out F
 have b:=b5.out y
 obtain⟨I,hI⟩:=ZN (Qs a y false)
 rw[hI] at E j b u
 have b3:=Zh (A I hI.symm)
 have b0:=Zh u
 obtain⟨L,hL⟩:=ZN (Qo a I)
 obtain⟨C,hC⟩:=ZN (Qbb a I)
 rw[hL] at E j b
 rw[hC] at j b
 have M:0<=L.from_/\L.from_<=1073741824:=by omega
 have b1:C.length<=1073741824:=by omega
 have c3:=QgS C
 obtain⟨x0,H,N,Y⟩:=L
 have r:=fun(wy:World) (k:ZB w wy)=>(b wy k).mono (fun e w' hh=>QeA hh)
 dsimp only at M
 have a5:=Zh r
 clear b r hI hL hC F j E Q k A s a2 u
 go_upto_region 5 with fail
 have s0:w2.drew.cell? ⟨w.heap.size,2,none⟩=some (.int .i64 0):=d2
 go_region_held3 (fun w'=>w'.cell? ⟨w.heap.size,2,none⟩=some (.int .i64 0)) (first|(with_reducible assumption)|(exact Qdt _ s5)) (first|(go_at_call 86;(with_reducible refine(a5.out _ (Below.drew Z)).mono ?_);rintro e q ⟨A1,n1,c1,A2,n2,c2,rfl,m,V⟩;have s5:=Qh V s0))
 all_goals
  have c:=QD V
  have J:=d.below c
  have o:=n.below c
  have R:=Qf Z c
  have a4:Blk (q.alloc (.cells #[.pointer (some ⟨g,0,none⟩),.int .i64 y,.int .i64 0,.int .i64 1,.bool false,.int .i64 0,.int .i64 0,.bool false,.bool false,.int .i64 x0,.int .i64 H,.int .i64 N,.int .i64 Y,.int .i64 (I:Int),.slice A1 n1 c1,.slice A2 n2 c2] 245)) q.heap.size 245 (mvV g y 0 1 false 0 0 (.int .i64 x0) (.int .i64 H) (.int .i64 N) (.int .i64 Y) (.int .i64 (I:Int)) (.slice A1 n1 c1) (.slice A2 n2 c2)):=Blk.new _ _ _
  have U:ZB q (q.alloc (.cells #[.pointer (some ⟨g,0,none⟩),.int .i64 y,.int .i64 0,.int .i64 1,.bool false,.int .i64 0,.int .i64 0,.bool false,.bool false,.int .i64 x0,.int .i64 H,.int .i64 N,.int .i64 Y,.int .i64 (I:Int),.slice A1 n1 c1,.slice A2 n2 c2] 245)):=Qa (Below.refl _ _)
  have S:=Qde _ ⟨x0,H,N,Y⟩ (I:Int) C _ y _ (m.below U) M (by rw[Qau];omega) (Qdy b1) QcA
  have b4:=Zh S
  have a8:=Zh o
  have a9:=Zh J
  have W:=Zh a4
  clear S d0 d1 d n m
  obtain⟨⟨g0,g1,g2,g3,g4,g5,g6⟩,⟨k0,k1⟩,k2,k3⟩:=Qp2 W.out
  clear J o a4
  go_wp2_with fail
  refine(b4.out).mono ?_
  rintro e w6 ⟨⟨jj,rfl,_⟩,a1⟩
  have K:=Qf U a1
  have f:=W.out.below a1
  obtain⟨_,⟨k0,k1⟩,k2,k3⟩:=Qp2 f
  have O:=(f.set_ 2 (.int .i64 (jj:Int))).set_ 8 (.bool false)
  have X:=a9.out.below K
  have d0:=X.cell 0
  have d1:=X.cell 1
  simp at d0 d1
  have G:=(K.setCell (p:=⟨q.heap.size,2,none⟩) (Nat.le_refl _) (.int .i64 (jj:Int))).setCell (p:=⟨q.heap.size,8,none⟩) (Nat.le_refl _) (.bool false)
  have P:=QmX D q.heap.size g enc a y (jj:Int) 0 0 false (.int .i64 x0) (.int .i64 H) (.int .i64 N) (.int .i64 Y) (.slice A1 n1 c1) (.slice A2 n2 c2) I _ O (HT.out.below (Qf R G)) b0.out
  have b2:=Zh P
  clear P O f
  go_wp2_with fail
  refine(b2.out).mono ?_
  rintro e w8 ⟨T,hT,⟨col,rfl⟩,a0⟩
  have l:=a8.out.below (Qf G a0)
  obtain⟨l0,l1,l2,l3,l4,l5⟩:=Qdf l
  go_wp2_with fail
  obtain⟨e0,e1,e2⟩:=QeR (x:=T) (y:=2) (z:=(col:Int)) l
  exact bodyPost_ret (v:=.tuple #[.agg #[.int .i64 T,.int .i64 2,.int .i64 (col:Int)],.int .i64 0]) (by simp[results,Tryz.results135,go_sem,e0,e1,e2]) rfl ⟨I,b3.out,T,hT,⟨col,rfl⟩,Qc5 (Qf R (Qf G a0)) (by omega)⟩
theorem Qmx (D:Nat->Prop)(g:Nat)(enc:Int)(j:List (Int × Int))(at_:Int)(w:World)(h:TextAt w D g enc j) :
  Calls Tryz.prog 103 #[.pointer (some ⟨g,0,none⟩),.int .i64 at_,.int .i64 0,.agg #[.int .i64 15,.int .i64 0,.int .i64 0]] w (Qhr j at_ w):=by
 have n:=Blk.new w 156 #[.int .i64 15,.int .i64 0,.int .i64 0]
 have c:=n.alloc (.cells #[.int .i64 0,.int .i64 0,.int .i64 0] 152)
 have d:=Blk.new (w.alloc (.cells #[.int .i64 15,.int .i64 0,.int .i64 0] 156)) 152 #[.int .i64 0,.int .i64 0,.int .i64 0]
 have f:ZB w ((w.alloc (.cells #[.int .i64 15,.int .i64 0,.int .i64 0] 156)).alloc (.cells #[.int .i64 0,.int .i64 0,.int .i64 0] 152)):=Qa (Qa (Below.refl _ _))
 rw[World.size_alloc] at d
 have b:=Qpf D g enc j at_ _ (h.below f)
 have k:=Zh b
 have c0:=c.cell 0
 have c1:=c.cell 1
 have c2:=c.cell 2
 simp at c0 c1 c2
 clear b h
 go_enter Tryz.func103,Tryz.ntmps103
 go_wp2_with fail
 refine(k.out).mono ?_
 rintro e B ⟨I,m,T,l,⟨col,rfl⟩,i⟩
 have a:=d.below i
 obtain⟨C,s,r,t,A,u⟩:=Qdf a
 go_wp2_with fail
 obtain⟨o,p,q⟩:=QeR (x:=T) (y:=2) (z:=(col:Int)) a
 exact bodyPost_ret (v:=.tuple #[.agg #[.int .i64 T,.int .i64 2,.int .i64 (col:Int)],.int .i64 0]) (by simp[results,Tryz.results103,go_sem,o,p,q]) rfl ⟨I,m,T,l,⟨col,rfl⟩,Qc5 (Qf f i) (by omega)⟩
theorem HereAt.le {a:List (Int × Int)}{at_:Int}{i:Nat}(h:HereAt a at_ i):i<=QaG a:=by
 obtain⟨j,_,_,rfl⟩:=h
 exact QaO _ _ _
theorem Qiw {B j r g n:Nat}{enc lim:Int}{st:BkS}{q:Array Value}{w:World}(h:DeskIs w B j r g enc lim n st q)(at_:Int) :
  Calls Tryz.prog 57 #[.pointer (some ⟨j,0,none⟩),.int .i64 at_] w fun e w'=>∃(i:Nat) (T:Int),HereAt (Qb enc st.ats) at_ i/\SignAt (Qb enc st.ats) i T/\e=.returned (.int .i64 T)/\ZB w w':=by
 have p:=Zh (fun(w':World) (a:ZB w w')=>Qae (h.below a))
 have o:=Zh (fun(w':World) (a:ZB w w')=>Qmx Any g enc (Qb enc st.ats) at_ w' (h.below a).at_)
 clear h
 have d:=Qb9
 have f:=Zh d
 go_enter Tryz.func57,Tryz.ntmps57
 go_wp2_with fail
 refine(p.out _ (Below.refl _ _)).mono ?_
 rintro e w1 ⟨rfl,rfl⟩
 go_wp2_with fail
 refine(o.out _ (Below.refl _ _)).mono ?_
 rintro e m ⟨I,l,T,k,⟨col,rfl⟩,b⟩
 have c:=Blk.new m 152 #[.int .i64 T,.int .i64 2,.int .i64 (col:Int)]
 have c0:=c.cell 0
 simp at c0
 go_wp2_with fail
 refine(f.out _).mono ?_
 rintro e w3 ⟨rfl,rfl⟩
 go_wp2_with fail
 go_ret
 exact⟨I,T,l,k,rfl,Qa b⟩
def IntsW (w:World)(v:Value)(n:Nat)(l:List Int):Prop:=∃A c,v=.slice A n c/\IntsI w A n l
theorem IntsW.at_ {w:World}{A:Option Addr}{n m c:Nat}{l:List Int}(h:IntsW w (.slice A n c) m l):n=m/\IntsI w A n l:=by
 obtain⟨a,c',e,h⟩:=h
 injection e with e1 e2 e3
 subst e1 e2
 exact⟨rfl,h⟩
theorem IntsW.form {w:World}{v:Value}{n:Nat}{l:List Int}(h:IntsW w v n l):∃A c,v=.slice A n c:=by
 obtain⟨A,c,rfl,_⟩:=h
 exact⟨A,c,rfl⟩
theorem QqJ (a b c d:Int)(w:World):(Instr.field 59 (.agg #[.int .i64 a,.int .i64 b,.int .i64 c,.int .i64 d]) 0).run Tryz.prog w=.ok (.int .i64 a) w:=by kernel_rfl
end Go.Proofs.YtgiihhikdoikgaaGreat
