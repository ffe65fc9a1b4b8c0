/-
  The walks of the document's decoder (package copyistref1), second part: eightAt, unitAt, At, Next.
-/
import Derived.Test.YtgiihhikdoikgaaGreatLGrow
import Derived.Test.YtgiihhikdoikgaaGreatLWalk
import Derived.Test.YtgiihhikdoikgaaGreatLEncode
import Derived.Test.YtgiihhikdoikgaaGreatLHeavy
import Derived.Test.YtgiihhikdoikgaaGreatLSeek
import Derived.Test.YtgiihhikdoikgaaGreatLSized
set_option linter.unusedSimpArgs false
set_option linter.unusedVariables false
set_option maxRecDepth 100000
set_option maxHeartbeats 32000000
namespace Go.Proofs.YtgiihhikdoikgaaGreat
open Go.RowKit
theorem QgD {l r:Tr}{al ar:Option Addr}{x:Pc}{W w:World}(b:ZB W w)(d:NodeAt w l al)(c:NodeAt w r ar)(h:LstOk (l.list++x::r.list)) :
  Calls Tryz.prog 195 #[.pointer al,.agg x.cells,.pointer ar] w fun e w'=>∃v,e=.returned v/\TrOut (l.list++x::r.list) W v w':=by
 refine(Qok l r al ar x w d c h).mono ?_
 rintro e w' ⟨t,a,rfl,h1,h2,f⟩
 exact⟨_,rfl,t,a,rfl,h1,h2,Qf b f⟩
theorem Qkg : ∀(n:Nat) (l r:Tr) (al ar:Option Addr) (x:Pc) (w:World),l.list.length+r.list.length<=n->NodeAt w l al->NodeAt w r ar->LstOk (l.list++x::r.list) ->
  Calls Tryz.prog 188 #[.pointer al,.agg x.cells,.pointer ar] w fun e w'=>Qkr (l.list++x::r.list) w e w':=by
 intro n
 induction n with
 |zero=>
  intro l r al ar x w hn F Y h
  have e1:l=.nil:=by cases l with|nil=>rfl|node a b c=>simp[Tr.list] at hn
  have e2:r=.nil:=by cases r with|nil=>rfl|node a b c=>simp[Tr.list] at hn
  subst e1
  subst e2
  cases F
  cases Y
  have G:ZB w (w.alloc (.cells x.cells 107)):=Qa (Below.refl _ w)
  have a1:=BoxC.of (Blk.new w 107 x.cells) (Below.refl _ _)
  have kl:=fun(w':World)=>QbX .nil none w' rfl
  have V:=fun(w':World)=>Qfp .nil .nil none none x w' rfl rfl h
  obtain⟨x0,Z,x2,x3,x4,x5,x6⟩:=a1
  have KL:=Zh kl
  have HC:=Zh V
  clear kl V hn h
  simp only[Pc.cells,Qx,Tr.tall] at *
  go_enter Tryz.func188,Tryz.ntmps188
  go_wp2_with fail
  iterate 4
   refine(KL.out _).mono ?_
   rintro e w1 ⟨rfl,rfl⟩
   go_wp2_with fail
  refine(HC.out _).mono ?_
  rintro e w3 ⟨t,a,rfl,hn,F,g⟩
  go_wp2_with fail
  go_ret
  exact⟨t,a,rfl,hn,F,Qf G g⟩
 |succ n ih=>
  intro l r al ar x w hn F Y h
  have C:=Blk.new w 107 x.cells
  have G:ZB w (w.alloc (.cells x.cells 107)):=Qa (Below.refl _ w)
  have j:=NodeAt.below G l al F
  have m:=NodeAt.below G r ar Y
  have sl:=Tr.small_of h.left.len
  have sr:=Tr.small_of h.right.tail.len
  obtain⟨W,E⟩:=ZN (w.alloc (.cells x.cells 107))
  rw[E] at C G j m
  simp only[Pc.cells,Qx] at E
  have fx:=fun(w':World) (g:ZB W w')=>BoxC.of C g
  have N:=Zh E
  have FX:=Zh fx
  have IH:=Zh ih
  clear E F Y fx C ih
  obtain⟨tl,y⟩:∃n,l.tall=n:=⟨_,rfl⟩
  obtain⟨tr,q⟩:∃n,r.tall=n:=⟨_,rfl⟩
  have kl:=QbX l al W j
  have kr:=QbX r ar W m
  rw[y] at kl
  rw[q] at kr
  obtain⟨_,_,l3,l4⟩:=sl
  obtain⟨_,_,r3,r4⟩:=sr
  rw[y] at l3 l4
  rw[q] at r3 r4
  have KL:=Zh kl
  have KR:=Zh kr
  clear kl kr
  by_cases h1:tr+1<tl
  ·cases l with
   |nil=>exfalso;simp only[Tr.tall] at y;omega
   |node ll lx lr=>
    obtain⟨b,X,U,rfl,i,u,s⟩:=j
    have fn:=fun(w':World) (g:ZB W w')=>NodeC.of i g
    have FN:=Zh fn
    have HL:=Zh u
    have HR:=Zh s
    have a0:=Zh m
    have d:(Tr.node ll lx lr).list++x::r.list=ll.list++lx::(lr.list++x::r.list):=by simp[Tr.list]
    have B:(Tr.node ll lx lr).list.length=ll.list.length+lr.list.length+1:=by simp only[Tr.list,List.length_append,List.length_cons];omega
    have o:LstOk (ll.list++lx::(lr.list++x::r.list)):=by rw[<-d];exact h
    have A:=fun(w':World) (g:ZB W w')=>IH.out lr r U ar x w' (by omega) (NodeAt.below g _ _ s) (NodeAt.below g _ _ m) o.right.tail
    have p:=Zh d
    have T:=Zh o
    have Q:=Zh A
    clear d o A m h fn y q i B hn u s IH
    have g1:(tr+1<tl)=True:=by simp;omega
    simp only[Pc.cells,Qx]
    go_enter Tryz.func188,Tryz.ntmps188
    go_wp2_with fail
    rw[N.out]
    refine(KL.out).mono ?_
    rintro e w1 ⟨rfl,rfl⟩
    go_wp2_with fail
    refine(KR.out).mono ?_
    rintro e w1 ⟨rfl,rfl⟩
    go_wp2_with fail
    refine Qg (fun w'=>ZB W w') (fun w'=>ZB W w') (fun k=>k==14 || k==15) (fun _=>false) (fun _=>false) (by kernel_rfl) (by kernel_rfl) (Below.drew (Below.refl _ _)) (fun _ h=>h) ?_
    repeat ((first
     |(refine Qc (v:=?_) (by rfl) (by rfl) (fun w6 hSw=>?_) ?_;rotate_left;(·(obtain⟨n0,n1,n2,n3,n4,n5,n6,n7,n8⟩:=FN.out _ hSw;obtain⟨x0,Z,x2,x3,x4,x5,x6⟩:=FX.out _ hSw;go_simp;try with_reducible rfl)))
     |(refine Qd (v:=?_) (by rfl) (fun w6=>?_) ?_;rotate_left;(·(go_simp;try with_reducible rfl)))
     |refine Qe (by rfl) ?_);(try simp only[Act.put,pA,pB,pC]))
    refine Qn (f:=?_) (args:=?_) (TrOut (lr.list++x::r.list) W) (by rfl) (by rfl) (fun w6 hSw=>?_) (fun w6 hSw=>?_) (.inr (fun v6 w6 hT6=>?_)) (fun v6 hv6=>?_)
    rotate_left 2
    ·(skip;go_simp;first|done|(constructor<;>with_reducible rfl)|with_reducible rfl)
    ·(refine(Q.out _ hSw).mono ?_;rintro e w5 ⟨t5,a5,rfl,R,K,I⟩;exact⟨_,rfl,t5,a5,rfl,R,K,Qf hSw I⟩)
    ·(exact hT6.bel)
    obtain⟨w7,t7,a7,rfl,M⟩:=hv6;clear M
    (try simp only[Act.put,pA,pB,pC])
    repeat ((first
     |(refine Qc (v:=?_) (by rfl) (by rfl) (fun w6 hSw=>?_) ?_;rotate_left;(·(obtain⟨n0,n1,n2,n3,n4,n5,n6,n7,n8⟩:=FN.out _ hSw;go_simp;try with_reducible rfl)))
     |(refine Qd (v:=?_) (by rfl) (fun w6=>?_) ?_;rotate_left;(·(go_simp;try with_reducible rfl)))
     |refine Qe (by rfl) ?_);(try simp only[Act.put,pA,pB,pC]))
    refine Qn (f:=?_) (args:=?_) (TrOut (ll.list++lx::(lr.list++x::r.list)) W) (by rfl) (by rfl) (fun w6 hSw=>?_) (fun w6 hSw=>?_) (.inr (fun v6 w6 hT6=>?_)) (fun v6 hv6=>?_)
    rotate_left 2
    ·(skip;go_simp;first|done|(constructor<;>with_reducible rfl)|with_reducible rfl)
    ·(obtain⟨t8,H,z,D⟩:=hSw.out;(have:=QgD D (NodeAt.below D _ _ HL.out) H (x:=lx) (by rw[z];exact T.out));rw[z] at this;exact this)
    ·(exact hT6.bel)
    obtain⟨w8,t8,a8,rfl,P⟩:=hv6;clear P
    (try simp only[Act.put,pA,pB,pC])
    repeat ((first
     |(refine Qc (v:=?_) (by rfl) (by rfl) (fun w6 hSw=>?_) ?_;rotate_left;(·(skip;go_simp;try with_reducible rfl)))
     |(refine Qd (v:=?_) (by rfl) (fun w6=>?_) ?_;rotate_left;(·(go_simp;try with_reducible rfl)))
     |refine Qe (by rfl) ?_);(try simp only[Act.put,pA,pB,pC]))
    refine Qu ?_
    intro w3 L
    obtain⟨t9,S,O,J⟩:=L.out
    go_wp2_with fail
    go_ret
    rw[p.out]
    exact⟨t9,_,rfl,S,O,Qf G J⟩
  ·by_cases h2:tl+1<tr
   ·cases r with
    |nil=>exfalso;simp only[Tr.tall] at q;omega
    |node ll lx lr=>
     obtain⟨b,X,U,rfl,i,u,s⟩:=m
     have fn:=fun(w':World) (g:ZB W w')=>NodeC.of i g
     have FN:=Zh fn
     have HL:=Zh u
     have HR:=Zh s
     have a0:=Zh j
     have d:l.list++x::(Tr.node ll lx lr).list=(l.list++x::ll.list)++lx::lr.list:=by simp[Tr.list]
     have B:(Tr.node ll lx lr).list.length=ll.list.length+lr.list.length+1:=by simp only[Tr.list,List.length_append,List.length_cons];omega
     have o:LstOk ((l.list++x::ll.list)++lx::lr.list):=by rw[<-d];exact h
     have A:=fun(w':World) (g:ZB W w')=>IH.out l ll al X x w' (by omega) (NodeAt.below g _ _ j) (NodeAt.below g _ _ u) o.left
     have p:=Zh d
     have T:=Zh o
     have Q:=Zh A
     clear d o A j h fn y q i B hn u s IH
     have g1:(tr+1<tl)=False:=by simp;omega
     have g3:(tl+1<tr)=True:=by simp;omega
     simp only[Pc.cells,Qx]
     go_enter Tryz.func188,Tryz.ntmps188
     go_wp2_with fail
     rw[N.out]
     refine(KL.out).mono ?_
     rintro e w1 ⟨rfl,rfl⟩
     go_wp2_with fail
     refine(KR.out).mono ?_
     rintro e w1 ⟨rfl,rfl⟩
     go_wp2_with fail
     refine(KR.out).mono ?_
     rintro e w1 ⟨rfl,rfl⟩
     go_wp2_with fail
     refine(KL.out).mono ?_
     rintro e w1 ⟨rfl,rfl⟩
     go_wp2_with fail
     refine Qg (fun w'=>ZB W w') (fun w'=>ZB W w') (fun k=>k==6 || k==15) (fun _=>false) (fun _=>false) (by kernel_rfl) (by kernel_rfl) (Below.drew (Below.refl _ _)) (fun _ h=>h) ?_
     repeat ((first
      |(refine Qc (v:=?_) (by rfl) (by rfl) (fun w6 hSw=>?_) ?_;rotate_left;(·(obtain⟨n0,n1,n2,n3,n4,n5,n6,n7,n8⟩:=FN.out _ hSw;obtain⟨x0,Z,x2,x3,x4,x5,x6⟩:=FX.out _ hSw;go_simp;try with_reducible rfl)))
      |(refine Qd (v:=?_) (by rfl) (fun w6=>?_) ?_;rotate_left;(·(go_simp;try with_reducible rfl)))
      |refine Qe (by rfl) ?_);(try simp only[Act.put,pA,pB,pC]))
     refine Qn (f:=?_) (args:=?_) (TrOut (l.list++x::ll.list) W) (by rfl) (by rfl) (fun w6 hSw=>?_) (fun w6 hSw=>?_) (.inr (fun v6 w6 hT6=>?_)) (fun v6 hv6=>?_)
     rotate_left 2
     ·(skip;go_simp;first|done|(constructor<;>with_reducible rfl)|with_reducible rfl)
     ·(refine(Q.out _ hSw).mono ?_;rintro e w5 ⟨t5,a5,rfl,R,K,I⟩;exact⟨_,rfl,t5,a5,rfl,R,K,Qf hSw I⟩)
     ·(exact hT6.bel)
     obtain⟨w7,t7,a7,rfl,M⟩:=hv6;clear M
     (try simp only[Act.put,pA,pB,pC])
     repeat ((first
      |(refine Qc (v:=?_) (by rfl) (by rfl) (fun w6 hSw=>?_) ?_;rotate_left;(·(obtain⟨n0,n1,n2,n3,n4,n5,n6,n7,n8⟩:=FN.out _ hSw;go_simp;try with_reducible rfl)))
      |(refine Qd (v:=?_) (by rfl) (fun w6=>?_) ?_;rotate_left;(·(go_simp;try with_reducible rfl)))
      |refine Qe (by rfl) ?_);(try simp only[Act.put,pA,pB,pC]))
     refine Qn (f:=?_) (args:=?_) (TrOut ((l.list++x::ll.list)++lx::lr.list) W) (by rfl) (by rfl) (fun w6 hSw=>?_) (fun w6 hSw=>?_) (.inr (fun v6 w6 hT6=>?_)) (fun v6 hv6=>?_)
     rotate_left 2
     ·(skip;go_simp;first|done|(constructor<;>with_reducible rfl)|with_reducible rfl)
     ·(obtain⟨t8,H,z,D⟩:=hSw.out;(have:=QgD D H (NodeAt.below D _ _ HR.out) (x:=lx) (by rw[z];exact T.out));rw[z] at this;exact this)
     ·(exact hT6.bel)
     obtain⟨w8,t8,a8,rfl,P⟩:=hv6;clear P
     (try simp only[Act.put,pA,pB,pC])
     repeat ((first
      |(refine Qc (v:=?_) (by rfl) (by rfl) (fun w6 hSw=>?_) ?_;rotate_left;(·(skip;go_simp;try with_reducible rfl)))
      |(refine Qd (v:=?_) (by rfl) (fun w6=>?_) ?_;rotate_left;(·(go_simp;try with_reducible rfl)))
      |refine Qe (by rfl) ?_);(try simp only[Act.put,pA,pB,pC]))
     refine Qu ?_
     intro w3 L
     obtain⟨t9,S,O,J⟩:=L.out
     go_wp2_with fail
     go_ret
     rw[p.out]
     exact⟨t9,_,rfl,S,O,Qf G J⟩
   ·have g1:(tr+1<tl)=False:=by simp;omega
    have g2:(tl+1<tr)=False:=by simp;omega
    have V:=fun(w':World) (g:ZB W w')=>Qfp l r al ar x w' (NodeAt.below g _ _ j) (NodeAt.below g _ _ m) h
    have HC:=Zh V
    obtain⟨x0,Z,x2,x3,x4,x5,x6⟩:=FX.out _ (Below.refl _ _)
    clear h1 h2 V j m h y q hn IH
    simp only[Pc.cells,Qx] at *
    go_enter Tryz.func188,Tryz.ntmps188
    go_wp2_with fail
    rw[N.out]
    refine(KL.out).mono ?_
    rintro e w1 ⟨rfl,rfl⟩
    go_wp2_with fail
    refine(KR.out).mono ?_
    rintro e w1 ⟨rfl,rfl⟩
    go_wp2_with fail
    refine(KR.out).mono ?_
    rintro e w1 ⟨rfl,rfl⟩
    go_wp2_with fail
    refine(KL.out).mono ?_
    rintro e w1 ⟨rfl,rfl⟩
    go_wp2_with fail
    refine(HC.out _ (Below.refl _ _)).mono ?_
    rintro e w3 ⟨t,a,rfl,hn,F,g⟩
    go_wp2_with fail
    go_ret
    exact⟨t,a,rfl,hn,F,Qf G g⟩
theorem Qho {la:List Pc}{a:Option Addr}{l r:Tr}{al ar:Option Addr}{x:Pc}{W w:World}(f:ZB W w)(j:∃t,NodeAt w t a/\t.list=la)(i:NodeAt w l al)(g:NodeAt w r ar)(h:LstOk (l.list++x::r.list)) :
  Calls Tryz.prog 188 #[.pointer al,.agg x.cells,.pointer ar] w fun e w'=>∃v,e=.returned v/\TrOut2 la (l.list++x::r.list) a W v w':=by
 obtain⟨k,c,b⟩:=j
 refine(Qkg _ l r al ar x w (Nat.le_refl _) i g h).mono ?_
 rintro e w' ⟨t,a,rfl,h1,h2,d⟩
 exact⟨_,rfl,⟨k,NodeAt.below d _ _ c,b⟩,t,a,rfl,h1,h2,Qf f d⟩
def Qo0 (ls:List Pc)(i:Nat)(w:World)(e:Ending)(w':World):Prop:=
 ∃b d a c,e=.returned (.tuple #[.pointer d,.pointer c])/\NodeAt w' b d/\NodeAt w' a c/\b.list=ls.take i/\a.list=ls.drop i/\ZB w w'
theorem QpT {α : Type}(a:List α)(x : α)(b:List α)(k m:Nat)(h:a.length=k):(a++x::b).take (k+(m+1))=a++x::b.take m:=by
 subst h
 rw[List.take_append,List.take_of_length_le (by omega),Nat.add_sub_cancel_left,List.take_succ_cons]
theorem Qog {α : Type}(a:List α)(x : α)(b:List α)(k m:Nat)(h:a.length=k):(a++x::b).drop (k+(m+1))=b.drop m:=by
 subst h
 rw[List.drop_append,List.drop_eq_nil_of_le (by omega),Nat.add_sub_cancel_left,List.drop_succ_cons,List.nil_append]
theorem Qkp : ∀(t:Tr) (a:Option Addr) (i:Int) (w:World),NodeAt w t a->LstOk t.list -> -1073741826<=i->i<=1073741826 ->
  Calls Tryz.prog 181 #[.pointer a,.int .i64 i] w fun e w'=>Qo0 t.list i.toNat w e w':=by
 intro t
 induction t with
 |nil=>
  intro a i w h _ _ _
  cases h
  go_enter Tryz.func181,Tryz.ntmps181
  go_wp2_with fail
  go_ret2
  exact⟨.nil,none,.nil,none,rfl,rfl,rfl,by simp[Tr.list],by simp[Tr.list],Below.refl _ _⟩
 |node l x r ihl ihr=>
  intro a i w C h i0 i1
  obtain⟨b,al,ar,rfl,j,p,s⟩:=C
  have y:=Tr.size_list l
  have Y:=h.left.len
  have fn:=fun(w':World) (hb:ZB w w')=>NodeC.of j hb
  have c:=Qbr l al w p
  have d:(Tr.node l x r).list=l.list++x::r.list:=rfl
  rw[y] at c
  rw[d] at h ⊢
  obtain⟨k,T⟩:=ZN (l.list.length)
  rw[T] at c Y
  obtain⟨P,n1,n2,N,U,L,V,M,Q⟩:=fn w (Below.refl _ _)
  have FN:=Zh fn
  have HC:=Zh c
  have R:=Zh T
  have J:=Zh h
  have HL:=Zh p
  have HR:=Zh s
  have IHL:=Zh (ihl al i w p h.left i0 i1)
  by_cases u:i<=(k:Int)
  ·have K:(i<=(k:Int))=True:=by simp;omega
   clear ihl ihr c T h p s fn y d j u
   go_enter Tryz.func181,Tryz.ntmps181
   go_wp2_with fail
   refine(HC.out).mono ?_
   rintro e w1 ⟨rfl,rfl⟩
   go_wp2_with fail
   refine(IHL.out).mono ?_
   rintro e w1 ⟨t1,W,t2,X,rfl,h1,h2,H,I,g⟩
   have u:i<=(k:Int):=by simpa using K
   have Z:=Zh h1
   have H2:=Zh h2
   have O:=Zh H
   have S:=Zh I
   clear P n1 n2 N U L V M Q K h1 h2 H I
   go_wp2_with fail
   refine Qg (fun w'=>ZB w1 w') (fun w'=>ZB w1 w') (fun k=>k==10) (fun _=>false) (fun _=>false) (by kernel_rfl) (by kernel_rfl) (Below.drew (Below.refl _ _)) (fun _ h=>h) ?_
   repeat ((first
    |(refine Qc (v:=?_) (by rfl) (by rfl) (fun w6 hSw=>?_) ?_;rotate_left;(·(obtain⟨P,n1,n2,N,U,L,V,M,Q⟩:=FN.out _ (Qf g hSw);go_simp;try with_reducible rfl)))
    |(refine Qd (v:=?_) (by rfl) (fun w6=>?_) ?_;rotate_left;(·(go_simp;try with_reducible rfl)))
    |refine Qe (by rfl) ?_);(try simp only[Act.put,pA,pB,pC]))
   refine Qn (f:=?_) (args:=?_) (TrOut2 (l.list.take i.toNat) (l.list.drop i.toNat++x::r.list) W w1) (by rfl) (by rfl) (fun w6 hSw=>?_) (fun w6 hSw=>?_) (.inr (fun v6 w6 hT6=>?_)) (fun v6 hv6=>?_)
   rotate_left 2
   ·(skip;go_simp;first|done|(constructor<;>with_reducible rfl)|with_reducible rfl)
   ·((have:=Qho (la:=l.list.take i.toNat) (a:=W) (x:=x) hSw ⟨t1,NodeAt.below hSw _ _ Z.out,O.out⟩ (NodeAt.below hSw _ _ H2.out) (NodeAt.below (Qf g hSw) _ _ HR.out) (by rw[S.out];have:=J.out;rw[<-List.take_append_drop i.toNat l.list,List.append_assoc] at this;exact this.right));rw[S.out] at this;exact this)
   ·(exact hT6.2.bel)
   obtain⟨w7,A,t7,a7,rfl,B⟩:=hv6;clear B A
   (try simp only[Act.put,pA,pB,pC])
   repeat ((first
    |(refine Qc (v:=?_) (by rfl) (by rfl) (fun w6 hSw=>?_) ?_;rotate_left;(·(skip;go_simp;try with_reducible rfl)))
    |(refine Qd (v:=?_) (by rfl) (fun w6=>?_) ?_;rotate_left;(·(go_simp;try with_reducible rfl)))
    |refine Qe (by rfl) ?_);(try simp only[Act.put,pA,pB,pC]))
   refine Qu ?_
   intro w3 z
   obtain⟨⟨t9,F,D⟩,q⟩:=z
   obtain⟨E,n,o,m⟩:=q.out
   have G:=Qf g m
   clear q
   go_wp2_with fail
   go_ret2
   refine⟨t9,_,E,_,rfl,F,n,?_,?_,G⟩
   ·rw[D,List.take_append_of_le_length (by rw[R.out];omega)]
   ·rw[o,List.drop_append_of_le_length (by rw[R.out];omega)]
  ·have K:(i<=(k:Int))=False:=by simp;omega
   have IHR:=Zh (ihr ar (i-k-1) w s h.right.tail (by omega) (by omega))
   have k1:IntKind.i64.wrap (i-(k:Int))=i-k:=IntWalk.i64_in _ (by omega)
   have k2:IntKind.i64.wrap (i-(k:Int)-1)=i-k-1:=IntWalk.i64_in _ (by omega)
   clear ihl ihr c T h p s fn y d j u IHL
   go_enter Tryz.func181,Tryz.ntmps181
   go_wp2_with fail
   refine(HC.out).mono ?_
   rintro e w1 ⟨rfl,rfl⟩
   go_wp2_with fail
   refine(IHR.out).mono ?_
   rintro e w1 ⟨t1,W,t2,X,rfl,h1,h2,H,I,g⟩
   have u:(k:Int)<i:=by simpa using K
   have Z:=Zh h1
   have H2:=Zh h2
   have O:=Zh H
   have S:=Zh I
   clear P n1 n2 N U L V M Q K h1 h2 H I
   go_wp2_with fail
   refine Qg (fun w'=>ZB w1 w') (fun w'=>ZB w1 w') (fun k=>k==9) (fun _=>false) (fun _=>false) (by kernel_rfl) (by kernel_rfl) (Below.drew (Below.refl _ _)) (fun _ h=>h) ?_
   repeat ((first
    |(refine Qc (v:=?_) (by rfl) (by rfl) (fun w6 hSw=>?_) ?_;rotate_left;(·(obtain⟨P,n1,n2,N,U,L,V,M,Q⟩:=FN.out _ (Qf g hSw);go_simp;try with_reducible rfl)))
    |(refine Qd (v:=?_) (by rfl) (fun w6=>?_) ?_;rotate_left;(·(go_simp;try with_reducible rfl)))
    |refine Qe (by rfl) ?_);(try simp only[Act.put,pA,pB,pC]))
   refine Qn (f:=?_) (args:=?_) (TrOut2 (r.list.drop (i-k-1).toNat) (l.list++x::r.list.take (i-k-1).toNat) X w1) (by rfl) (by rfl) (fun w6 hSw=>?_) (fun w6 hSw=>?_) (.inr (fun v6 w6 hT6=>?_)) (fun v6 hv6=>?_)
   rotate_left 2
   ·(skip;go_simp;first|done|(constructor<;>with_reducible rfl)|with_reducible rfl)
   ·((have:=Qho (la:=r.list.drop (i-k-1).toNat) (a:=X) (x:=x) hSw ⟨t2,NodeAt.below hSw _ _ H2.out,S.out⟩ (NodeAt.below (Qf g hSw) _ _ HL.out) (NodeAt.below hSw _ _ Z.out) (by rw[O.out];have:=J.out;rw[<-List.take_append_drop (i-k-1).toNat r.list,<-List.cons_append,<-List.append_assoc] at this;exact this.left));rw[O.out] at this;exact this)
   ·(exact hT6.2.bel)
   obtain⟨w7,A,t7,a7,rfl,B⟩:=hv6;clear B A
   (try simp only[Act.put,pA,pB,pC])
   repeat ((first
    |(refine Qc (v:=?_) (by rfl) (by rfl) (fun w6 hSw=>?_) ?_;rotate_left;(·(skip;go_simp;try with_reducible rfl)))
    |(refine Qd (v:=?_) (by rfl) (fun w6=>?_) ?_;rotate_left;(·(go_simp;try with_reducible rfl)))
    |refine Qe (by rfl) ?_);(try simp only[Act.put,pA,pB,pC]))
   refine Qu ?_
   intro w3 z
   obtain⟨⟨t9,F,D⟩,q⟩:=z
   obtain⟨E,n,o,m⟩:=q.out
   have G:=Qf g m
   clear q
   go_wp2_with fail
   go_ret2
   have ek:i.toNat=k+((i-k-1).toNat+1):=by omega
   refine⟨E,_,t9,_,rfl,n,F,?_,?_,G⟩
   ·rw[o,ek,QpT _ _ _ _ _ R.out]
   ·rw[D,ek,Qog _ _ _ _ _ R.out]
def QmK (ls:List Pc)(w:World)(e:Ending)(w':World):Prop:=∃x t a,e=.returned (.tuple #[.agg x.cells,.pointer a])/\NodeAt w' t a/\ls=x::t.list/\ZB w w'
def QsF (w:World)(g:Nat)(a:Array Value)(w':World):Prop:=ZB w w'/\Blk w' g 107 a
theorem Qqx (w:World)(b:Nat)(A:Option Addr)(n c:Nat)(tag:Int)(s:Sums):Fr (· = b) w (Qf2 w b A n c tag s):=
 (((((((Fr.refl _ w).set1 0 _).set1 1 _).set1 2 _).set1 3 _).set1 4 _).set1 5 _).set1 6 _
theorem Qml {w:World}{b:Nat}{A:Option Addr}{n c:Nat}{tag:Int}{s:Sums}{d:Array Value}(e:Blk w b 107 d){t:Tr}{a:Option Addr}(h:NodeAt w t a):NodeAt (Qf2 w b A n c tag s) t a:=
 NodeAt.keepBut (KeepBut.of_fr (Qqx w b A n c tag s) e) (by decide) t a h
theorem Qjo {w:World}{b:Nat}(h:Blk w b 107 (Qx none 0 0 0 Qq)) :
  (w.cell? ⟨b,0,none⟩=some (.slice none 0 0)/\w.cell? ⟨b,1,none⟩=some (.int .i64 0)/\w.cell? ⟨b,2,none⟩=some (.int .i64 0)/\w.cell? ⟨b,3,none⟩=some (.int .i64 0)/\w.cell? ⟨b,4,none⟩=some (.int .i64 0)/\w.cell? ⟨b,5,none⟩=some (.bool false)/\w.cell? ⟨b,6,none⟩=some (.bool false)) /\
  w.frozen? ⟨b,0,none⟩=false/\w.frozen? ⟨b,1,none⟩=false/\w.frozen? ⟨b,2,none⟩=false/\w.frozen? ⟨b,3,none⟩=false/\w.frozen? ⟨b,4,none⟩=false/\w.frozen? ⟨b,5,none⟩=false/\w.frozen? ⟨b,6,none⟩=false:=QG h
theorem QlE : ∀(t:Tr) (a:Option Addr) (w:World),NodeAt w t a->LstOk t.list->t≠.nil ->
    Calls Tryz.prog 189 #[.pointer a] w fun e w'=>QmK t.list w e w':=by
  intro t
  induction t with
  |nil=>intro a w _ _ h;exact absurd rfl h
  |node l x r ihl ihr=>
    intro a w C h _
    obtain⟨b,al,ar,rfl,B,E,X⟩:=C
    have fn:=fun(w':World) (hb:ZB w w')=>NodeC.of B hb
    have hW:ZB w (w.alloc (.cells (Qx none 0 0 0 Qq) 107)):=Qa (Below.refl _ w)
    have I:=Blk.new w 107 (Qx none 0 0 0 Qq)
    have m:(Tr.node l x r).list=l.list++x::r.list:=rfl
    rw[m] at h ⊢
    have FN:=Zh fn
    have a0:=Zh h
    have HR:=Zh X
    obtain⟨n0,n1,n2,n3,n4,U,n6,Z,n8⟩:=fn _ hW
    obtain⟨W,d⟩:=ZN (w.alloc (.cells (Qx none 0 0 0 Qq) 107))
    rw[d] at hW I
    simp only[Qx,Qq] at d n0 n1 n2 n3 n4 U n6 Z n8
    have D:=Zh d
    have T:=Zh I
    clear d I ihr h X m B fn
    cases l with
    |nil=>
      cases E
      clear ihl
      go_enter Tryz.func189,Tryz.ntmps189
      go_wp2_with fail
      rw[D.out]
      refine Qg (fun w'=>ZB w w') (QsF w w.heap.size (Qx none 0 0 0 Qq)) (fun k=>k==8) (fun _=>false) (fun _=>false) (by kernel_rfl) (by kernel_rfl) (⟨hW.drew,T.out.drew⟩) (fun _ h=>h.1) ?_
      repeat ((first
        |(refine Qc (v:=?_) (by rfl) (by rfl) (fun w6 hSw=>?_) ?_;rotate_left;(·(obtain⟨n0,n1,n2,n3,n4,U,n6,Z,n8⟩:=FN.out _ hSw;go_simp;try with_reducible rfl)))
        |(refine Qd (v:=?_) (by rfl) (fun w6=>?_) ?_;rotate_left;(·(go_simp;try with_reducible rfl)))
        |refine Qe (by rfl) ?_);(try simp only[Act.put,pA,pB,pC]))
      refine Ql (fun _ j=>QsF w w.heap.size x.cells j) (by rfl) (by rfl) (fun w6 hSw=>?_) (.inr (fun v6 w6 hT6=>?_)) (fun v6 hv6=>?_)
      · (obtain⟨b1,g⟩:=hSw;obtain⟨⟨P,O,R,N,Q,L,M⟩,z0,z1,z2,z3,z4,z5,z6⟩:=QG g;simp only[Qq] at P O R N Q L M;go_simp;exact⟨Qad b1 (Nat.le_refl _),QaX g⟩)
      · (exact hT6.1)
      skip
      (try simp only[Act.put,pA,pB,pC])
      repeat ((first
        |(refine Qc (v:=?_) (by rfl) (by rfl) (fun w6 hSw=>?_) ?_;rotate_left;(·(obtain⟨n0,n1,n2,n3,n4,U,n6,Z,n8⟩:=FN.out _ hSw;go_simp;try with_reducible rfl)))
        |(refine Qd (v:=?_) (by rfl) (fun w6=>?_) ?_;rotate_left;(·(go_simp;try with_reducible rfl)))
        |refine Qe (by rfl) ?_);(try simp only[Act.put,pA,pB,pC]))
      refine Qu ?_
      rintro w3 ⟨q,F⟩
      obtain⟨⟨P,O,R,N,Q,L,M⟩,-⟩:=QG (show Blk w3 _ _ (Qx x.A x.n x.c x.tag x.sum) from F)
      go_wp2_with fail
      exact bodyPost_ret (v:=.tuple #[.agg x.cells,.pointer ar]) (by simp[results,Tryz.results189,go_sem,P,O,R,N,Q,L,M,Pc.cells,Qx]) rfl ⟨x,r,ar,rfl,NodeAt.below q _ _ HR.out,rfl,q⟩
    |node ll lx lr=>
      have Y:=E
      obtain⟨lb,b4,b3,rfl,_,_,_⟩:=Y
      have S:=ihl _ W (NodeAt.below hW _ _ E) a0.out.left (by intro e;cases e)
      have a9:=Zh S
      clear ihl S
      go_enter Tryz.func189,Tryz.ntmps189
      go_wp2_with fail
      rw[D.out]
      refine(a9.out).mono ?_
      rintro e w1 ⟨y,t1,a1,rfl,h1,h2,G⟩
      clear n0 n1 n2 n3 n4 U n6 Z n8
      simp only[Pc.cells,Qx]
      go_wp2_with fail
      have s:ZB w (w1.alloc (.cells (Qx y.A y.n y.c y.tag y.sum) 107)):=Qa (Qf hW G)
      have i:=Blk.new w1 107 (Qx y.A y.n y.c y.tag y.sum)
      have u:=(T.out.below G).alloc (.cells (Qx y.A y.n y.c y.tag y.sum) 107)
      have z:=NodeAt.below (Qa (Below.refl _ w1) (o:=.cells (Qx y.A y.n y.c y.tag y.sum) 107)) _ _ h1
      simp only[Qx] at s i u z
      obtain⟨J,d⟩:=ZN (w1.alloc (.cells #[.slice y.A y.n y.c,.int .i64 y.tag,.int .i64 y.sum.atoms,.int .i64 y.sum.bytes,.int .i64 y.sum.breaks,.bool y.sum.lf,.bool y.sum.cr] 107))
      rw[d] at s i u z ⊢
      have a2:LstOk (t1.list++x::r.list):=by
        have:=a0.out
        rw[h2] at this
        exact this.tail
      have fx:=fun(w':World) (hb:ZB J w')=>BoxC.of (x:=y) i hb
      have FX:=Zh fx
      have H1:=Zh z
      have H2:=Zh h2
      have HK:=Zh a2
      have a8:=Zh u
      have p:=Zh s
      have b2:=Zh i
      have V:w1.heap.size≠w.heap.size:=by
       have:=G.size
       have e:W.heap.size=w.heap.size+1:=by rw[<-D.out];simp
       omega
      clear d fx z h1 h2 a2 u i s
      refine Qg (fun w'=>ZB w w'/\BoxC w' w1.heap.size y) (fun w'=>ZB J w') (fun k=>k==10 || k==11) (fun _=>false) (fun _=>false) (by kernel_rfl) (by kernel_rfl) (Below.drew (Below.refl _ _)) (fun w' h=>⟨Qf p.out h,FX.out w' h⟩) ?_
      repeat ((first
        |(refine Qc (v:=?_) (by rfl) (by rfl) (fun w6 hSw=>?_) ?_;rotate_left;(·(obtain⟨K,x0,x1,x2,x3,x4,x5,x6⟩:=hSw;obtain⟨n0,n1,n2,n3,n4,U,n6,Z,n8⟩:=FN.out _ K;go_simp;try with_reducible rfl)))
        |(refine Qd (v:=?_) (by rfl) (fun w6=>?_) ?_;rotate_left;(·(go_simp;try with_reducible rfl)))
        |refine Qe (by rfl) ?_);(try simp only[Act.put,pA,pB,pC]))
      refine Qn (f:=?_) (args:=?_) (TrOut (t1.list++x::r.list) J) (by rfl) (by rfl) (fun w6 hSw=>?_) (fun w6 hSw=>?_) (.inr (fun v6 w6 hT6=>?_)) (fun v6 hv6=>?_)
      rotate_left 2
      · (skip;go_simp;first|done|(constructor<;>with_reducible rfl)|with_reducible rfl)
      · (exact QgD hSw (NodeAt.below hSw _ _ H1.out) (NodeAt.below (Qf p.out hSw) _ _ HR.out) HK.out)
      · (exact⟨Qf p.out hT6.bel,FX.out _ hT6.bel⟩)
      obtain⟨w7,t7,a7,rfl,a5⟩:=hv6;clear a5
      (try simp only[Act.put,pA,pB,pC])
      repeat ((first
        |(refine Qc (v:=?_) (by rfl) (by rfl) (fun w6 hSw=>?_) ?_;rotate_left;(·(obtain⟨K,x0,x1,x2,x3,x4,x5,x6⟩:=hSw;go_simp;try with_reducible rfl)))
        |(refine Qd (v:=?_) (by rfl) (fun w6=>?_) ?_;rotate_left;(·(go_simp;try with_reducible rfl)))
        |refine Qe (by rfl) ?_);(try simp only[Act.put,pA,pB,pC]))
      refine Ql (fun _ j=>QsF w w.heap.size y.cells j/\BoxC j w1.heap.size y/\∃t,NodeAt j t a7/\t.list=t1.list++x::r.list) (by rfl) (by rfl) (fun w6 hSw=>?_) (.inr (fun v6 w6 hT6=>?_)) (fun v6 hv6=>?_)
      · (obtain⟨t8,a3,a4,H⟩:=hSw.out;have g:=a8.out.below H;obtain⟨⟨P,O,R,N,Q,L,M⟩,z0,z1,z2,z3,z4,z5,z6⟩:=Qjo g;go_simp;exact⟨⟨Qad (Qf p.out H) (Nat.le_refl _),QaX g⟩,BoxC.of (x:=y) (Qbw (b2.out.below H) V) (Below.refl _ _),t8,Qml g a3,a4⟩)
      · (exact⟨hT6.1.1,hT6.2.1⟩)
      skip
      (try simp only[Act.put,pA,pB,pC])
      repeat ((first
        |(refine Qc (v:=?_) (by rfl) (by rfl) (fun w6 hSw=>?_) ?_;rotate_left;(·(obtain⟨K,x0,x1,x2,x3,x4,x5,x6⟩:=hSw;go_simp;try with_reducible rfl)))
        |(refine Qd (v:=?_) (by rfl) (fun w6=>?_) ?_;rotate_left;(·(go_simp;try with_reducible rfl)))
        |refine Qe (by rfl) ?_);(try simp only[Act.put,pA,pB,pC]))
      refine Qu ?_
      rintro w3 ⟨⟨q,F⟩,-,t9,b0,a6⟩
      obtain⟨⟨P,O,R,N,Q,L,M⟩,-⟩:=QG (show Blk w3 _ _ (Qx y.A y.n y.c y.tag y.sum) from F)
      go_wp2_with fail
      exact bodyPost_ret (v:=.tuple #[.agg y.cells,.pointer a7]) (by simp[results,Tryz.results189,go_sem,P,O,R,N,Q,L,M,Pc.cells,Qx]) rfl ⟨y,t9,a7,rfl,b0,by rw[a6,H2.out];rfl,q⟩
theorem Qh4 (l r:Tr)(al ar:Option Addr)(w:World)(j:NodeAt w l al)(i:NodeAt w r ar)(h:LstOk (l.list++r.list)) :
  Calls Tryz.prog 182 #[.pointer al,.pointer ar] w fun e w'=>Qkr (l.list++r.list) w e w':=by
 cases r with
 |nil=>
  cases i
  go_enter Tryz.func182,Tryz.ntmps182
  go_wp2_with fail
  go_ret
  exact⟨l,al,rfl,j,by simp[Tr.list],Below.refl _ _⟩
 |node ml mx mr=>
  have m:=QlE _ ar w i h.right (by intro e;cases e)
  obtain⟨b,_,_,rfl,_,_,_⟩:=i
  obtain⟨rl,d⟩:=ZN ((Tr.node ml mx mr).list)
  rw[d] at m h ⊢
  have p:=Zh m
  have s:=Zh j
  have u:=Zh h
  clear m j h d
  go_enter Tryz.func182,Tryz.ntmps182
  go_wp2_with fail
  refine(p.out).mono ?_
  rintro e w1 ⟨x,t,a,rfl,h1,h2,k⟩
  have c:ZB w (w1.alloc (.cells x.cells 107)):=Qa k
  have f:=Qkg _ l t al a x (w1.alloc (.cells x.cells 107)) (Nat.le_refl _) (NodeAt.below c _ _ s.out) (NodeAt.below (Qa (Below.refl _ w1)) _ _ h1) (by rw[<-h2];exact u.out)
  obtain⟨x0,z,C,E,D,B,A⟩:=BoxC.of (Blk.new w1 107 x.cells) (Below.refl _ _)
  rw[<-h2] at f
  have y:=Zh f
  clear f h1 h2
  simp only[Pc.cells,Qx] at *
  go_wp2_with fail
  refine(y.out).mono ?_
  rintro e w3 ⟨q,v,rfl,n,g,o⟩
  go_wp2_with fail
  go_ret
  exact⟨q,v,rfl,n,g,Qf c o⟩
def Qo5 (ls:List Pc)(w:World)(e:Ending)(w':World):Prop:=∃t a,e=.returned (.tuple #[.agg #[.pointer a],.int .i64 0])/\NodeAt w' t a/\t.list=ls/\ZB w w'
theorem Qiv (t:Tr)(a:Option Addr)(f k:Nat)(D:Nat->Prop)(A:Option Addr)(n c:Nat)(ps:List Pc)(w:World)(h:NodeAt w t a)(L:LstOk t.list)(hp:Parts w D A n ps)(a0:f<=k)(a8:k<=t.list.length)(hc:n<=c)
  (Y:LstOk (t.list.take f++ps++t.list.drop k)) :
  Calls Tryz.prog 170 #[.agg #[.pointer a],.int .i64 (f:Int),.int .i64 (k:Int),.slice A n c] w fun e w'=>Qo5 (t.list.take f++ps++t.list.drop k) w e w':=by
 have E:=hp.len
 have r:=Y.left.right
 obtain⟨W,j⟩:=ZN ((w.alloc (.cells #[.pointer a] 102)).alloc (.cells #[.pointer none] 102))
 have Z:ZB w W:=by rw[<-j];exact Qa (Qa (Below.refl _ _))
 have d:Blk W w.heap.size 102 #[.pointer a]:=by rw[<-j];exact(Blk.new w _ _).alloc _
 have b:Blk W (w.heap.size+1) 102 #[.pointer none]:=by
  rw[<-j]
  have:=Blk.new (w.alloc (.cells #[.pointer a] 102)) 102 #[.pointer none]
  simpa using this
 have hn:=NodeAt.below Z t a h
 have fb:=fun(w':World) (l:ZB W w')=>(And.intro ((d.below l).cell 0) (And.intro ((b.below l).cell 0) ((b.below l).frozen 0)))
 have ks:=QfC t a W hn
 have M:=fun(w':World) (l:ZB W w')=>Qkp t a (f:Int) w' (NodeAt.below l _ _ hn) L (by omega) (by have:=L.len;omega)
 have Q:=fun(w':World) (l:ZB W w')=>Qkp t a (k:Int) w' (NodeAt.below l _ _ hn) L (by omega) (by have:=L.len;omega)
 have k3:=fun(w':World) (l:ZB W w')=>QhL ps.length D A n c ps w' (by omega) (Parts.below (Parts.below hp Z) l) r.good r.tot (by have:=r.len;omega) hc
 simp only[Int.toNat_natCast] at M Q
 rw[Tr.size_list] at ks
 obtain⟨c1,c2,c3⟩:=fb W (Below.refl _ _)
 have q1:((f:Int)<0)=False:=by simp
 have q2:((k:Int)<(f:Int))=False:=by simp;omega
 have q3:(((t.list.length:Nat):Int)<(k:Int))=False:=by simp;omega
 obtain⟨N,hN⟩:=ZN (t.list.length)
 rw[hN] at ks q3
 have P:=Zh j
 have FB:=Zh fb
 have KS:=Zh ks
 have K1:=Zh M
 have K2:=Zh Q
 have K3:=Zh k3
 have HL:=Zh Y
 have O:=Zh b
 simp at c1 c2
 clear j fb ks M Q k3 Y d b hn h hp hN E a8 a0
 go_enter Tryz.func170,Tryz.ntmps170
 go_wp2_with fail
 rw[P.out]
 refine(KS.out).mono ?_
 rintro e w1 ⟨rfl,d⟩
 obtain⟨J,-,-⟩:=FB.out _ d
 simp at J
 go_wp2_with fail
 refine(K1.out _ d).mono ?_
 rintro e w2 ⟨t1,a1,t2,a2,rfl,h1,h2,h3,h4,b⟩
 have g:=Qf d b
 obtain⟨G,-,-⟩:=FB.out _ g
 simp at G
 have H1:=Zh h1
 have H3:=Zh h3
 clear J h1 h2 h3 h4
 go_wp2_with fail
 refine(K2.out _ g).mono ?_
 rintro e w3 ⟨t3,a3,t4,a4,rfl,h5,h6,h7,h8,y⟩
 have m:=Qf g y
 have H6:=Zh h6
 have H8:=Zh h8
 clear G h5 h6 h7 h8
 go_wp2_with fail
 refine(K3.out _ m).mono ?_
 rintro e w4 ⟨a5,rfl,h9,p⟩
 have B:=Qf m p
 have R:(btF ps.length ps).list=ps:=QeP _ _ (Nat.le_refl _)
 have q:=Qh4 t1 (btF ps.length ps) a1 a5 w4 (NodeAt.below p _ _ (NodeAt.below y _ _ H1.out)) h9 (by rw[H3.out,R];exact HL.out.left)
 rw[H3.out,R] at q
 have T:=Zh q
 clear q h9 R
 go_wp2_with fail
 refine(T.out).mono ?_
 rintro e w5 ⟨t6,a6,rfl,C,o,I⟩
 have u:=Qf B I
 have s:=Qh4 t6 t4 a6 a4 w5 C (NodeAt.below I _ _ (NodeAt.below p _ _ H6.out)) (by rw[o,H8.out];exact HL.out)
 rw[o,H8.out] at s
 have V:=Zh s
 clear s C o
 go_wp2_with fail
 refine(V.out).mono ?_
 rintro e w6 ⟨t7,K,rfl,z,H,X⟩
 have i:=Qf u X
 obtain⟨-,d2,d3⟩:=FB.out _ i
 have x:=O.out.below i
 simp at d2
 have S:=Zh z
 have U:=Zh H
 have F:=Zh x
 clear z H x
 go_wp2_with fail
 have d4:(w6.setCell ⟨w.heap.size+1,0,none⟩ (.pointer K)).cell? ⟨w.heap.size+1,0,none⟩=some (.pointer K):=(F.out.set_ 0 _).cell 0
 refine bodyPost_ret (v:=.tuple #[.agg #[.pointer K],.int .i64 0]) (by simp[results,Tryz.results170,go_sem,d4]) rfl ⟨t7,K,rfl,?_,U.out,(Qf Z i).setCell (by simp) _⟩
 exact NodeAt.keepBut (KeepBut.of_fr ((Fr.refl _ _).set1 0 _) F.out) (by decide) _ _ S.out
theorem Qim {w:World}{p:Addr}{v:Value}(h:w.cell? p=some v):p=⟨p.block,p.off,none⟩:=by
 obtain⟨b,o,s⟩:=p
 cases s with
 |none=>rfl
 |some s=>
  unfold World.cell? at h
  split at h
  ·simp at h
  ·cases h
theorem QaF (b o j:Nat):(⟨b,o,none⟩:Addr).add j=⟨b,o+j,none⟩:=by
 unfold Addr.add
 split
 ·rename_i h;rw[h];rfl
 ·rfl
section
variable {P:Program} (w:World)
theorem QbK (base:Nat)(t ty e:TypeId)(i:TypeInfo)(z:Value)(size bytes:Nat)(M:P.underlying t=some (.slice e))(L:P.info? e=some i)(U:i.zero=some z)
  (l:i.size=size) (D:i.bytes=bytes) (W:z.cells.size=size) (S:0<size)
  (v:Value) (n:Nat) (xs:List Value) (d:w.ownsRow base e size v n xs)
  (a:Addr) (m c:Nat) (news:List Value) (C:news.length=m*size) (f : ∀j u,news[j]? = some u->w.cell? (a.add j)=some u) (h1 : ∀u ∈ news,u.oneCell'=true)
  (A:n+m<=maxLen) (h:(n+m)*bytes<=140737488355328) (I:base<=w.heap.size) :
  ∃v' w',(Builtin.append_ #[t,t] ty #[v,.slice (some a) m c]).run P w=.ok v' w'/\w'.ownsRow base e size v' (n+m) (xs++news)/\w.grownBy w' v.ownBlock /\
   (v'.ownBlock=v.ownBlock\/v'.ownBlock=some w.heap.size)/\(∀b o,v.ownBlock=some b->o<n*size->w'.cell? ⟨b,o,none⟩=w.cell? ⟨b,o,none⟩)/\(∀b,v.ownBlock=some b->∃X,Blk w' b e X):=by
 obtain⟨v',w',r,h2,h3,_,h5⟩:=run_append_own_at (P:=P) w base t ty e i z size bytes M L U l D W S v n xs d a m c news C f h1 A h I
 have s : ∀b,v.ownBlock=some b->∃X,Blk w' b e X:=by
  intro b J
  subst l
  subst D
  rcases d.2 with ⟨rfl,rfl⟩|⟨g,cap,cur,rfl,T,K,R,V,H,G⟩
  ·simp[Value.ownBlock] at J
  ·have F:g=b:=by simpa[Value.ownBlock] using J
   subst F
   by_cases hroom:n+m<=cap
   ·have q:n*i.size+news.length<=cur.size:=by rw[C,H,<-Nat.add_mul];exact Nat.mul_le_mul_right _ hroom
    have p:=run_append_room (P:=P) w t ty e i M L g n cap cur K a m c news C f h1 hroom q
    rw[p] at r
    injection r with hv hw
    rcases h2.2 with ⟨E,_⟩|⟨g',Y,N,E,_,Q,_⟩
    ·rw[E] at hv;cases hv
    ·rw[E] at hv
     injection hv with hv
     injection hv with hv
     injection hv with hv
     subst hv
     exact⟨N,Q⟩
   ·have holds : ∀j u,xs[j]? = some u->w.cell? ((⟨g,0,none⟩:Addr).add j)=some u:=d.cells (g:=g) rfl
    have p:=run_append_grow (P:=P) w t ty e i z M L U ⟨g,0,none⟩ n cap xs d.1 holds a m c news C f (by omega) (by simp only[maxLen] at A;omega) (growslice_fits (by omega) h)
    rw[p] at r
    injection r with _ hw
    rw[<-hw]
    exact⟨cur,(heap_alloc_old w.drew _ (Array.getElem?_eq_some_iff.1 K).1).trans K⟩
 refine⟨v',w',r,h2,h3,h5,fun b o J ho=>?_,s⟩
 subst l
 subst D
 have Z:=d.1
 have O:n+m<=9223372036854775807:=by simp only[maxLen] at A;omega
 obtain⟨u,hu⟩:∃u,xs[o]? = some u:=⟨xs[o],List.getElem?_eq_getElem (by omega)⟩
 have x:=d.cells J o u hu
 rw[QaF,Nat.zero_add] at x
 rcases d.2 with ⟨rfl,rfl⟩|⟨g,cap,cur,rfl,T,K,R,V,H,G⟩
 ·simp[Value.ownBlock] at J
 ·have F:g=b:=by simpa[Value.ownBlock] using J
  subst F
  by_cases hroom:n+m<=cap
  ·have q:n*i.size+news.length<=cur.size:=by rw[C,H,<-Nat.add_mul];exact Nat.mul_le_mul_right _ hroom
   have p:=run_append_room (P:=P) w t ty e i M L g n cap cur K a m c news C f h1 hroom q
   rw[p] at r
   injection r with hv hw
   have y:=h2.cells (g:=g) (by rw[<-hv];rfl) o u (by rw[List.getElem?_append_left (by omega)];exact hu)
   rw[QaF,Nat.zero_add] at y
   rw[y,x]
  ·have holds : ∀j u,xs[j]? = some u->w.cell? ((⟨g,0,none⟩:Addr).add j)=some u:=d.cells (g:=g) rfl
   have p:=run_append_grow (P:=P) w t ty e i z M L U ⟨g,0,none⟩ n cap xs d.1 holds a m c news C f (by omega) (by omega) (growslice_fits (by omega) h)
   rw[p] at r
   injection r with _ hw
   rw[<-hw]
   exact World.cell?_of_block (heap_alloc_old w.drew _ (Array.getElem?_eq_some_iff.1 K).1)
end
theorem QeN {P:Program}{T:Value->World->Prop}{o:Oper}{a:Act}{s x:Operand}{w:World}(t:TypeId)
  (L:o.op=.call { callee:=.builtin .append,args := #[s,x],argTypes := #[t,t] })
  (base:Nat) (e:TypeId) (i:TypeInfo) (z:Value) (size bytes:Nat) (K:P.underlying t=some (.slice e)) (H:P.info? e=some i) (M:i.zero=some z)
  (p:i.size=size) (A:i.bytes=bytes) (D:z.cells.size=size) (y:0<size)
  (v:Value) (n:Nat) (xs:List Value) (R:a.eval s=v) (q:w.ownsRow base e size v n xs)
  (C:Addr) (m c:Nat) (news:List Value) (I:a.eval x=.slice (some C) m c) (J:news.length=m*size) (f : ∀j u,news[j]? = some u->w.cell? (C.add j)=some u) (h1 : ∀u ∈ news,u.oneCell'=true)
  (r:n+m<=maxLen) (d:(n+m)*bytes<=140737488355328) (l:base<=w.heap.size)
  (h : ∀v' w',w'.ownsRow base e size v' (n+m) (xs++news)->w.grownBy w' v.ownBlock->(v'.ownBlock=v.ownBlock\/v'.ownBlock=some w.heap.size)->(∀b o,v.ownBlock=some b->o<n*size->w'.cell? ⟨b,o,none⟩=w.cell? ⟨b,o,none⟩)->(∀b,v.ownBlock=some b->∃Q,Blk w' b e Q)->T v' w'):HRun P T ((execOp a.eval o).run P w):=by
 obtain⟨v',w',F,h2,O,N,E,G⟩:=QbK (P:=P) w base t o.type e i z size bytes K H M p A D y v n xs q C m c news J f h1 r d l
 exact QfX L R I F (h v' w' h2 O N E G)
def Low (add:Value)(n:Nat)(p:Pc):Prop:=∀b,p.A=some b->add.ownBlock=some b.block->b.off+p.n<=n
structure PsIn (w:World) (add:Value) (n:Nat) (enc:Int) (ps:List Pc):Prop where
 ok : ∀p ∈ ps,PcOk enc p
 bts : ∀p ∈ ps,Bts w Any p.A p.n p.bytes
 low : ∀p ∈ ps,Low add n p
 tgs : ∀p ∈ ps,p.tag+p.n<=1073741824
 u8:U8s w ps
theorem PsIn.nil (w:World)(add:Value)(n:Nat)(enc:Int):PsIn w add n enc []:=⟨fun _ h=>(by cases h),fun _ h=>(by cases h),fun _ h=>(by cases h),fun _ h=>(by cases h),fun _ h=>(by cases h)⟩
theorem PsIn.sub {w:World}{add:Value}{n:Nat}{enc:Int}{ps qs:List Pc}(h:PsIn w add n enc ps)(b : ∀q ∈ qs,q ∈ ps):PsIn w add n enc qs:=
 ⟨fun p hp=>h.ok p (b p hp),fun p hp=>h.bts p (b p hp),fun p hp=>h.low p (b p hp),fun p hp=>h.tgs p (b p hp),fun p hp=>h.u8 p (b p hp)⟩
theorem PsIn.app {w:World}{add:Value}{n:Nat}{enc:Int}{ps qs:List Pc}(h:PsIn w add n enc ps)(k:PsIn w add n enc qs):PsIn w add n enc (ps++qs):=
 ⟨fun p hp=>(List.mem_append.1 hp).elim (h.ok p) (k.ok p),fun p hp=>(List.mem_append.1 hp).elim (h.bts p) (k.bts p),fun p hp=>(List.mem_append.1 hp).elim (h.low p) (k.low p),fun p hp=>(List.mem_append.1 hp).elim (h.tgs p) (k.tgs p),fun p hp=>(List.mem_append.1 hp).elim (h.u8 p) (k.u8 p)⟩
structure TreeIn (w:World) (add:Value) (n:Nat) (enc:Int) (t:Tr) (a:Option Addr):Prop where
 node:NodeAt w t a
 tot:Qbl t.list<=16777216
 pcs:PsIn w add n enc t.list
structure TStep (g:Nat) (add add':Value) (n n':Nat) (w w':World):Prop where
 fr:Fr (fun b=>b=g\/add.ownBlock=some b) w w'
 low : ∀b o,add.ownBlock=some b->o<n->w'.cell? ⟨b,o,none⟩=w.cell? ⟨b,o,none⟩
 own : ∀b,add'.ownBlock=some b->add.ownBlock=some b\/w.heap.size<=b
 le:n<=n'
 u8 : ∀b cs,Blk w b 5 cs->∃cs',Blk w' b 5 cs'
section
variable {g n n' k B:Nat} {add add' add2:Value} {w w' w'':World} {xs:List Value} {enc:Int}
theorem TStep.below (e:w.ownsRow B 5 1 add n xs)(h:ZB w w'):TStep g add add n n w w':=
 ⟨Fr.of_below h,fun b o c _=>World.cell?_of_block (w:=w) (h.block b (e.lt b c).2),fun _ h=>.inl h,Nat.le_refl _,fun _ d c=>⟨d,c.below h⟩⟩
theorem TStep.trans (h1:TStep g add add' n n' w w')(h2:TStep g add' add2 n' k w' w'')(q:w.ownsRow B 5 1 add n xs)(f:add.ownBlock≠some g):TStep g add add2 n k w w'':=by
 refine⟨h1.fr.call h2.fr (fun i r d=>?_),fun b o c l=>?_,fun b c=>?_,Nat.le_trans h1.le h2.le,fun b p c=>?_⟩
 rotate_left 3
 ·obtain⟨e,m⟩:=h1.u8 b p c
  exact h2.u8 b e m
 ·rcases d with d|d
  ·exact .inl d
  ·rcases h1.own i d with h|h
   ·exact .inr h
   ·omega
 ·have j:=(q.lt b c).2
  refine Eq.trans ?_ (h1.low b o c l)
  by_cases hB:add'.ownBlock=some b
  ·exact h2.low b o hB (Nat.lt_of_lt_of_le l h1.le)
  ·refine h2.fr.cell (Nat.lt_of_lt_of_le j h1.fr.size) ?_ o
   rintro(h|h)
   ·subst h;exact f c
   ·exact hB h
 ·rcases h2.own b c with h|h
  ·exact h1.own b h
  ·exact .inr (Nat.le_trans h1.fr.size h)
theorem TStep.set {l:Array Value}(m:w.ownsRow B 5 1 add n xs)(j:Blk w g 104 l)(f:add.ownBlock≠some g)(i:Nat)(u:Value):TStep g add add n n w (w.setCell ⟨g,i,none⟩ u):=by
 refine⟨(Fr.refl _ _).setCell (.inl (.inl rfl)) u,fun b o c _=>?_,fun _ h=>.inl h,Nat.le_refl _,fun b d c=>⟨d,c.far (fun e=>Blk.ne_ c j (by decide) e) u⟩⟩
 refine World.cell?_of_block (w:=w) (Below.heap_setCell w _ u b ?_)
 rintro rfl
 exact f c
theorem TStep.loc {S:Nat->Prop}(h:TStep g add add' n n' w w')(e:Fr S w' w'')(j : ∀b,S b->w.heap.size<=b)(r:w.ownsRow B 5 1 add n xs):TStep g add add' n n' w w'':=by
 refine⟨h.fr.call e (fun i s d=>absurd (j i d) (by omega)),fun b o c p=>?_,h.own,h.le,fun b q c=>?_⟩
 ·have l:=(r.lt b c).2
  exact(e.cell (Nat.lt_of_lt_of_le l h.fr.size) (fun d=>by have:=j b d;omega) o).trans (h.low b o c p)
 ·obtain⟨f,m⟩:=h.u8 b q c
  exact⟨f,m.fr e (fun d=>by have:=j b d;have:=c.lt;omega)⟩
theorem TStep.grow {w1:World}{m:Nat}{zs:List Value}(v:w.ownsRow B 5 1 add n xs)(d:Fr (fun b=>b=g) w w1)(p:add.ownBlock≠some g)(u:w'.ownsRow B 5 1 add' (n+m) zs)(f:w1.grownBy w' add.ownBlock)(r:add'.ownBlock=add.ownBlock\/add'.ownBlock=some w1.heap.size)
  (x : ∀b o,add.ownBlock=some b->o<n*1->w'.cell? ⟨b,o,none⟩=w1.cell? ⟨b,o,none⟩) (l : ∀b,add.ownBlock=some b->∃j,Blk w' b 5 j) (q : ∀j,¬Blk w g 5 j):TStep g add add' n (n+m) w w':=by
 refine⟨⟨f.os.trans d.os,f.tape.trans d.tape,f.output.trans d.output,Nat.le_trans d.size f.size,fun i s hn=>?_⟩,fun b o c y=>?_,fun b c=>?_,by omega,fun b j c=>?_⟩
 ·exact(f.block i (Nat.lt_of_lt_of_le s d.size) (fun e=>hn (.inr e.symm))).trans (d.block i s (fun e=>hn (.inl e)))
 ·rw[x b o c (by omega)]
  exact d.cell (v.lt b c).2 (fun e=>p (e▸c)) o
 ·rcases r with h|h
  ·exact .inl (by rw[<-h];exact c)
  ·rw[h] at c
   injection c with c
   have:=d.size
   exact .inr (by omega)
 ·by_cases hB:add.ownBlock=some b
  ·exact l b hB
  ·have h1:=c.fr d (fun e=>q j (e▸c))
   exact⟨j,h1.grown f (fun e=>hB e.symm)⟩
theorem NodeAt.keepS {w w':World}(f : ∀b d,Blk w b 147 d->w'.heap[b]? = w.heap[b]?) : ∀(t:Tr) (a:Option Addr),NodeAt w t a->NodeAt w' t a:=by
 intro t
 induction t with
 |nil=>intro a h;exact h
 |node l x r ihl ihr=>
  rintro a ⟨b,al,ar,e,h,c,i⟩
  exact⟨b,al,ar,e,(f b _ h).trans h,ihl al c,ihr ar i⟩
theorem Bts.keepS {D:Nat->Prop}{A:Option Addr}{m:Nat}{l:List Int}(h:Bts w D A m l)(s : ∀b j x,A=some b->j<m->w.cell? ⟨b.block,b.off+j,none⟩=some (.int .u8 x)->w'.cell? ⟨b.block,b.off+j,none⟩=w.cell? ⟨b.block,b.off+j,none⟩):Bts w' D A m l:=by
 refine⟨h.1,fun hn=>?_⟩
 obtain⟨b,e,r,p⟩:=h.2 hn
 refine⟨b,e,r,fun j u c=>?_⟩
 have f:∃o,(l.map (Value.int .u8))[0]? = some o:=⟨_,List.getElem?_eq_getElem (by have:=h.1;omega)⟩
 obtain⟨o,f⟩:=f
 have q:=Qim (p 0 o f)
 rw[add_zero] at q
 have d:=p j u c
 have i:j<m:=by have:=(List.getElem?_eq_some_iff.1 c).1;have:=h.1;omega
 rw[q,QaF] at d ⊢
 rw[List.getElem?_map] at c
 cases hl:l[j]? with
 |none=>rw[hl] at c;cases c
 |some x=>
  rw[hl] at c
  injection c with c
  rw[<-c] at d ⊢
  rw[s b j x e i d]
  exact d
theorem PsIn.step {ps:List Pc}{o:Array Value}(h:PsIn w add n enc ps)(i:TStep g add add' n n' w w')(l:Blk w g 104 o):PsIn w' add' n' enc ps:=by
 refine⟨h.ok,fun p hp=>Bts.keepS (h.bts p hp) (fun c j x e r m=>?_),fun p hp c e d=>?_,h.tgs,fun p hp c e=>?_⟩
 ·by_cases d:add.ownBlock=some c.block
  ·exact i.low _ _ d (by have:=h.low p hp c e d;omega)
  ·refine i.fr.cell (Qac m) ?_ _
   obtain⟨f,b⟩:=h.u8 p hp c e
   rintro(h1|h1)
   ·exact Blk.ne_ b l (by decide) h1
   ·exact d h1
 ·obtain⟨f,b⟩:=h.u8 p hp c e
  have q:=b.lt
  rcases i.own _ d with h1|h1
  ·exact Nat.le_trans (h.low p hp c e h1) i.le
  ·omega
 ·obtain⟨f,b⟩:=h.u8 p hp c e
  exact i.u8 _ _ b
theorem TreeIn.step {t:Tr}{a:Option Addr}{i:Array Value}(h:TreeIn w add n enc t a)(e:TStep g add add' n n' w w')(j:w.ownsRow B 5 1 add n xs)(d:Blk w g 104 i):TreeIn w' add' n' enc t a:=by
 refine⟨NodeAt.keepS (fun b f c=>e.fr.block b c.lt ?_) t a h.node,h.tot,h.pcs.step e d⟩
 rintro(h1|h1)
 ·exact Blk.ne_ c d (by decide) h1
 ·exact Qk j c (by decide) h1
def Far (w:World)(k:Nat):Prop:=(∃T b,Blk w k T b/\T≠104/\T≠147/\T≠5)\/(∃o,w.heap[k]? = some o/\∀b T f,o≠.cells b T f)
theorem Far.blk {T:TypeId}{b:Array Value}{k:Nat}(h:Blk w k T b)(h1:T≠104/\T≠147/\T≠5):Far w k:=.inl ⟨T,b,h,h1⟩
theorem Far.own {T:TypeId}{k base size m:Nat}{v:Value}{ys:List Value}(h:w.ownsRow base T size v m ys)(b:v.ownBlock=some k)(h1:T≠104/\T≠147/\T≠5):Far w k:=by
 rcases h.2 with ⟨rfl,_⟩|⟨g,cap,cur,rfl,_,c,_⟩
 ·cases b
 ·have:g=k:=by simpa[Value.ownBlock] using b
  subst this
  exact .inl ⟨T,cur,c,h1⟩
theorem Far.ne {k b:Nat}{f:Array Value}(h:Far w k){T:TypeId}(i:T=104\/T=147\/T=5)(c:Blk w b T f):b≠k:=by
 rintro rfl
 rcases h with ⟨l,d,h1,h2,e,j⟩|⟨o,h1,h2⟩
 ·unfold Blk at h1 c
  rw[h1] at c
  injection c with c
  injection c with _ c
  rcases i with rfl|rfl|rfl
  ·exact h2 c
  ·exact e c
  ·exact j c
 ·unfold Blk at c
  rw[h1] at c
  injection c with c
  exact h2 _ _ _ c
theorem PsIn.far {S:Nat->Prop}{ps:List Pc}(h:PsIn w add n enc ps)(d:Fr S w w')(i : ∀k,k<w.heap.size->S k->Far w k):PsIn w' add n enc ps:=by
 have key : ∀p ∈ ps,∀b,p.A=some b->b.block<w.heap.size/\¬S b.block:=fun p hp b e=>by
  obtain⟨f,c⟩:=h.u8 p hp b e
  exact⟨c.lt,fun l=>(i _ c.lt l).ne (.inr (.inr rfl)) c rfl⟩
 refine⟨h.ok,fun p hp=>Bts.keepS (h.bts p hp) (fun b j x e m c=>?_),h.low,h.tgs,fun p hp b e=>?_⟩
 ·exact d.cell (key p hp b e).1 (key p hp b e).2 _
 ·obtain⟨f,c⟩:=h.u8 p hp b e
  exact⟨f,c.fr d (key p hp b e).2⟩
theorem TreeIn.far {S:Nat->Prop}{t:Tr}{a:Option Addr}(h:TreeIn w add n enc t a)(d:Fr S w w')(e : ∀k,k<w.heap.size->S k->Far w k):TreeIn w' add n enc t a:=
 ⟨NodeAt.keepS (fun b f c=>d.block b c.lt (fun i=>(e b c.lt i).ne (.inr (.inl rfl)) c rfl)) t a h.node,h.tot,h.pcs.far d e⟩
end
structure TextM (w:World) (B g:Nat) (enc lim:Int) (n:Nat) (add:Value) (t:Tr) (a:Option Addr) (xs:List Value):Prop where
 blk:Blk w g 104 #[.int .i64 enc,.int .i64 lim,.pointer a,add]
 row:w.ownsRow B 5 1 add n xs
 enc4:enc=1\/enc=2\/enc=3\/enc=4
 base:B<=w.heap.size
 tree:TreeIn w add n enc t a
section
variable {w w':World} {B g n n':Nat} {enc lim:Int} {add:Value} {t:Tr} {a:Option Addr} {xs:List Value}
theorem TextM.ne (h:TextM w B g enc lim n add t a xs):add.ownBlock≠some g:=Qk h.row h.blk (by decide)
theorem Qj0 {enc:Int} : ∀{ps:List Pc},(∀p ∈ ps,PcOk enc p)->(ps.length:Int)<=Qbl ps:=by
 intro ps
 induction ps with
 |nil=>intro _;simp[Qbl]
 |cons p ps ih=>
  intro h
  have h1:=ih (fun q b=>h q (List.mem_cons_of_mem _ b))
  have hp:=h p List.mem_cons_self
  have h2:0<p.sum.bytes:=by
   rw[hp.sum,Qc2,hp.len]
   have:=hp.pos
   omega
  rw[QaI,List.length_cons]
  omega
theorem TextM.text (h:TextM w B g enc lim n add t a xs):TextIn w Any g enc lim t a add:=
 ⟨h.blk,h.enc4,h.tree.node,by have:=Qj0 h.tree.pcs.ok;have:=h.tree.tot;omega,by have:=h.tree.tot;omega,h.tree.pcs.ok,h.tree.pcs.bts⟩
theorem TextM.below (h:TextM w B g enc lim n add t a xs)(b:ZB w w'):TextM w' B g enc lim n add t a xs:=
 ⟨h.blk.below b,QN h.row b,h.enc4,Nat.le_trans h.base b.size,h.tree.step (g:=g) (TStep.below h.row b) h.row h.blk⟩
theorem TextL.textM {D:Nat->Prop}{c ats:List (Int × Int)}(h:TextL w D g enc lim c ats)(l:(c.map Prod.snd).sum<=65536):∃t a,TextM w 0 g enc lim 0 (.slice none 0 0) t a []/\QC enc t.list=c/\QaM enc t.list=ats:=by
 obtain⟨t,a,add,h,f,d,i,rfl,b⟩:=h
 refine⟨t,a,⟨h.blk,World.ownsRow_nil _ _ _ _,h.enc4,Nat.zero_le _,h.node,?_,h.ok,fun p hp=>Reads.more (h.bts p hp) (fun _ _ _=>trivial) (by decide),fun p _ j _ e=>(by cases e),b,f⟩,d,i⟩
 have h1:=(QI h.good).2
 rw[Qa6 h.ok,(Qm (Qai enc _)).2.2,d] at h1
 omega
end
def QgK (enc:Int)(x:Pc)(n:Nat):Pc:=⟨x.A,(szs enc x.bytes n).toNat,(szs enc x.bytes n).toNat,x.tag,Qi ((dec enc x.bytes).take n),x.bytes.take (szs enc x.bytes n).toNat⟩
def QeV (enc:Int)(x:Pc)(n:Nat):Pc:=
 ⟨if x.c=(szs enc x.bytes n).toNat then x.A else x.A.map (·.add (szs enc x.bytes n).toNat),x.n-(szs enc x.bytes n).toNat,x.c-(szs enc x.bytes n).toNat,if 0<=x.tag then x.tag+szs enc x.bytes n else x.tag,Qi ((dec enc x.bytes).drop n),x.bytes.drop (szs enc x.bytes n).toNat⟩
theorem Qmn (enc:Int)(x:Pc)(n:Nat):Qr4 enc x (n:Int)=.tuple #[.agg (QgK enc x n).cells,.agg (QeV enc x n).cells]:=rfl
theorem Qq3 (enc:Int)(l:List Int)(n:Nat)(hn:0<n)(a:0<l.length):1<=szs enc l n:=by
 obtain⟨k,rfl⟩:∃k,n=k+1:=⟨n-1,by omega⟩
 rw[Qbz enc l k a]
 have h1:=QZ enc l a
 have h2:=Qbo enc k (l.drop (QB enc l).toNat)
 omega
theorem QrD (enc:Int)(l:List Int)(n:Nat)(h:n<(dec enc l).length):szs enc l n<l.length:=by
 have h1:=Qbo enc n l
 have h2:=Qe0 enc n l
 have b:0<(l.drop (szs enc l n).toNat).length:=by
  rcases Nat.eq_zero_or_pos (l.drop (szs enc l n).toNat).length with a|a
  ·rw[List.eq_nil_of_length_eq_zero a,QcY] at h2
   have:=congrArg List.length h2
   rw[List.length_drop,List.length_nil] at this
   omega
  ·exact a
 rw[List.length_drop] at b
 omega
section
variable {enc:Int} {x:Pc} {n:Nat}
theorem Qg8:dec enc (QgK enc x n).bytes=(dec enc x.bytes).take n:=Qhi enc n x.bytes
theorem QgL:dec enc (QeV enc x n).bytes=(dec enc x.bytes).drop n:=Qe0 enc n x.bytes
theorem Qqu (h:PcOk enc x)(hn:0<n):PcOk enc (QgK enc x n):=by
 have h1:=Qbo enc n x.bytes
 have h2:=Qq3 enc x.bytes n hn (by rw[h.len];exact h.pos)
 have a:=h.len
 have b:=h.nle
 exact⟨h.byt.take _,by simp only[QgK,List.length_take];omega,by simp only[QgK];omega,by simp only[QgK];omega,Nat.le_refl _,h.tag0,h.tag1,by rw[Qg8];rfl⟩
theorem QqQ (h:PcOk enc x)(hn:n<(dec enc x.bytes).length)(a:x.tag+x.n<=1073741824):PcOk enc (QeV enc x n):=by
 have h1:=Qbo enc n x.bytes
 have h2:=QrD enc x.bytes n hn
 have c:=h.len
 have e:=h.nle
 have b:=h.cap
 have d:=h.tag0
 refine⟨h.byt.drop _,by simp only[QeV,List.length_drop];omega,by simp only[QeV];omega,by simp only[QeV];omega,by simp only[QeV];omega,?_,?_,by rw[QgL];rfl⟩
 ·simp only[QeV];split<;>omega
 ·simp only[QeV];split<;>omega
theorem QoJ:Qgt enc (QgK enc x n)=(Qgt enc x).take n:=by
 unfold Qgt
 rw[Qg8]
 show QbS x.tag 0 _=_
 rcases Nat.le_total n (dec enc x.bytes).length with a|a
 ·conv=>rhs;rw[<-List.take_append_drop n (dec enc x.bytes),Qe3]
  exact(List.take_left' (by rw[Qa5,List.length_take];omega)).symm
 ·have h1:(dec enc x.bytes).take n=dec enc x.bytes:=List.take_of_length_le a
  have h2:(QbS x.tag 0 (dec enc x.bytes)).take n=QbS x.tag 0 (dec enc x.bytes):=List.take_of_length_le (by rw[Qa5];exact a)
  rw[h1,h2]
theorem QpF {p q:Int}(hp:p<0)(b:q<0)(a:List (Int × Int)) : ∀o o',QbS p o a=QbS q o' a:=by
 induction a with
 |nil=>intro _ _;rfl
 |cons d a ih=>intro o o';simp only[QbS,if_pos hp,if_pos b,ih (o+d.2) (o'+d.2)]
theorem Qph:Qgt enc (QeV enc x n)=(Qgt enc x).drop n:=by
 unfold Qgt
 rw[QgL]
 show QbS (if 0<=x.tag then x.tag+szs enc x.bytes n else x.tag) 0 _=_
 rcases Nat.le_total n (dec enc x.bytes).length with a|a
 ·conv=>rhs;rw[<-List.take_append_drop n (dec enc x.bytes),Qe3]
  refine Eq.trans ?_ (List.drop_left' (by rw[Qa5,List.length_take];omega)).symm
  split
  ·rename_i b
   have h1:=(Qbo enc n x.bytes).1
   rw[Qem _ (by omega),Qem _ b]
   show QbS 0 (x.tag+szs enc x.bytes n+0) _=QbS 0 (x.tag+(0+szs enc x.bytes n)) _
   rw[Int.add_zero,Int.zero_add]
  ·exact QpF (by omega) (by omega) _ _ _
 ·have h1:(dec enc x.bytes).drop n=[]:=List.drop_eq_nil_of_le a
  have h2:(QbS x.tag 0 (dec enc x.bytes)).drop n=[]:=List.drop_eq_nil_of_le (by rw[Qa5];exact a)
  rw[h1,h2]
  rfl
theorem QpU {w:World}{D:Nat->Prop}(h:Bts w D x.A x.n x.bytes)(a:PcOk enc x):Bts w D (QgK enc x n).A (QgK enc x n).n (QgK enc x n).bytes:=by
 have h1:=Qbo enc n x.bytes
 have b:=a.len
 have:=Reads.take h (k:=(szs enc x.bytes n).toNat) (by omega)
 unfold Bts QgK
 rw[Nat.mul_one,<-List.map_take] at this
 exact this
theorem QpH {w:World}{D:Nat->Prop}(h:Bts w D x.A x.n x.bytes)(a:PcOk enc x):Bts w D (QeV enc x n).A (QeV enc x n).n (QeV enc x n).bytes:=by
 have h1:=Qbo enc n x.bytes
 have b:=a.len
 have:=Reads.cut h (k:=(szs enc x.bytes n).toNat) (by omega) a.cap
 unfold Bts QeV
 rw[Nat.mul_one,<-List.map_drop] at this
 exact this
theorem QoC {add:Value}{m:Nat}(h:Low add m x)(c:PcOk enc x):Low add m (QgK enc x n):=by
 intro b e a
 have h1:=Qbo enc n x.bytes
 have d:=c.len
 have:=h b e a
 simp only[QgK]
 omega
theorem QoP {add:Value}{m:Nat}(h:Low add m x)(d:PcOk enc x):Low add m (QeV enc x n):=by
 intro c e b
 have h1:=Qbo enc n x.bytes
 have i:=d.len
 have g:=d.cap
 simp only[QeV] at e ⊢
 split at e
 ·have:=h c e b
  omega
 ·cases hA:x.A with
  |none=>rw[hA] at e;cases e
  |some ad0=>
   rw[hA] at e
   injection e with e
   have a:add.ownBlock=some ad0.block:=by rw[b,<-e,Q4]
   have:=h ad0 hA a
   have j:c.off=ad0.off+(szs enc x.bytes n).toNat:=by
    rw[<-e]
    unfold Addr.add
    split
    ·rename_i f;rw[f];rfl
    ·rfl
   omega
end
theorem Qe7 {enc:Int}{ps:List Pc}{at_:Int}{i n:Nat}(k:Qgx enc ps at_ i n){p:Pc}(hp:ps[i]? = some p)(f:0<=at_) :
  n<=(dec enc p.bytes).length/\(QC enc ps).take at_.toNat=QC enc (ps.take i)++(dec enc p.bytes).take n/\(QC enc ps).drop at_.toNat=(dec enc p.bytes).drop n++QC enc (ps.drop (i+1)) /\
  (QaM enc ps).take at_.toNat=QaM enc (ps.take i)++(Qgt enc p).take n/\(QaM enc ps).drop at_.toNat=(Qgt enc p).drop n++QaM enc (ps.drop (i+1)):=by
 obtain⟨h1,h2,m⟩:=k
 have b:i<ps.length:=by
  rcases Nat.lt_or_ge i ps.length with h|h
  ·exact h
  ·rw[List.getElem?_eq_none h] at hp;cases hp
 have a:ps=ps.take i++p::ps.drop (i+1):=by
  rw[List.getElem?_eq_getElem b] at hp
  injection hp with hp
  rw[<-hp,<-List.drop_eq_getElem_cons b,List.take_append_drop]
 have hn:n<=(dec enc p.bytes).length:=by
  rcases Nat.lt_or_ge 0 n with f|f
  ·obtain⟨_,_,e⟩:=m (by omega)
   have:ps.take (i+1)=ps.take i++[p]:=by rw[List.take_add_one,hp];rfl
   rw[this,Qax,List.length_append] at e
   simp[QC] at e ⊢
   simp[QC] at h2
   omega
  ·omega
 have c:at_.toNat=(QC enc (ps.take i)).length+n:=by omega
 have l:QaM enc [p]=Qgt enc p:=Qd7 enc p
 have j:(QaM enc (ps.take i)).length=(QC enc (ps.take i)).length:=QaQ enc _
 have o:(Qgt enc p).length=(dec enc p.bytes).length:=Qa5 _ _ _
 have d:QC enc ps=QC enc (ps.take i)++(dec enc p.bytes++QC enc (ps.drop (i+1))):=by conv=>lhs;rw[a,Qax,QS]
 have g:QaM enc ps=QaM enc (ps.take i)++(Qgt enc p++QaM enc (ps.drop (i+1))):=by
  conv=>lhs;rw[a,Qa7,show p::ps.drop (i+1)=[p]++ps.drop (i+1) from rfl,Qa7,l]
 refine⟨hn,?_,?_,?_,?_⟩
 ·rw[d,c,List.take_length_add_append,List.take_append_of_le_length hn]
 ·rw[d,c,List.drop_length_add_append,List.drop_append_of_le_length hn]
 ·rw[g,c,<-j,List.take_length_add_append,List.take_append_of_le_length (by omega)]
 ·rw[g,c,<-j,List.drop_length_add_append,List.drop_append_of_le_length (by omega)]
def Qbq (enc:Int)(ps:List Pc)(i n:Nat):List Pc:=match ps[i]? with|some p=>if 0<n then [QgK enc p n] else []|none=>[]
def Qcx (enc:Int)(ps:List Pc)(j m:Nat):List Pc:=match ps[j]? with|some p=>if 0<(Qi ((dec enc p.bytes).drop m)).atoms then [QeV enc p m] else []|none=>[]
theorem QoN {enc:Int}{ps:List Pc}{at_:Int}{i n:Nat}(d:Qgx enc ps at_ i n)(g:0<=at_) :
  QC enc (ps.take i++Qbq enc ps i n)=(QC enc ps).take at_.toNat/\QaM enc (ps.take i++Qbq enc ps i n)=(QaM enc ps).take at_.toNat:=by
 unfold Qbq
 cases hp:ps[i]? with
 |none=>
  have f:ps.length<=i:=by
   rcases Nat.lt_or_ge i ps.length with h|h
   ·rw[List.getElem?_eq_getElem h] at hp;cases hp
   ·exact h
  obtain⟨h1,h2,a⟩:=d
  have e:at_=0:=by
   rcases Int.lt_or_le 0 at_ with h|h
   ·have:=(a h).1;omega
   ·omega
  subst e
  have c:(QC enc (ps.take i)).length=0:=by omega
  have b:(QaM enc (ps.take i)).length=0:=by rw[QaQ];exact c
  simp only[List.append_nil,Int.toNat_zero,List.take_zero]
  exact⟨List.eq_nil_of_length_eq_zero c,List.eq_nil_of_length_eq_zero b⟩
 |some p=>
  obtain⟨_,h1,_,a,_⟩:=Qe7 d hp g
  rw[h1,a]
  dsimp only
  split
  ·rw[Qax,Qa7,QS,Qd7,Qg8,QoJ]
   simp[QC]
  ·have hn:n=0:=by omega
   subst hn
   simp
theorem Qoj {enc:Int}{ps:List Pc}{at_:Int}{j m:Nat}(g:Qgx enc ps at_ j m)(i:0<=at_) :
  QC enc (Qcx enc ps j m++ps.drop (min (j+1) ps.length))=(QC enc ps).drop at_.toNat/\QaM enc (Qcx enc ps j m++ps.drop (min (j+1) ps.length))=(QaM enc ps).drop at_.toNat:=by
 unfold Qcx
 cases hp:ps[j]? with
 |none=>
  have c:ps.length<=j:=by
   rcases Nat.lt_or_ge j ps.length with h|h
   ·rw[List.getElem?_eq_getElem h] at hp;cases hp
   ·exact h
  obtain⟨h1,h2,q⟩:=g
  have b:at_=0:=by
   rcases Int.lt_or_le 0 at_ with h|h
   ·have:=(q h).1;omega
   ·omega
  subst b
  have l:ps.take j=ps:=List.take_of_length_le c
  rw[l] at h2
  have f:(QC enc ps).length=0:=by omega
  have d:(QaM enc ps).length=0:=by rw[QaQ];exact f
  rw[Nat.min_eq_right (by omega),List.drop_length,List.eq_nil_of_length_eq_zero f,List.eq_nil_of_length_eq_zero d]
  simp[QC,QaM]
 |some p=>
  obtain⟨_,_,h2,_,o⟩:=Qe7 g hp i
  have r:j<ps.length:=(List.getElem?_eq_some_iff.1 hp).1
  rw[h2,o,Nat.min_eq_left (by omega)]
  have a:(Qi ((dec enc p.bytes).drop m)).atoms=(((dec enc p.bytes).drop m).length:Int):=(Qm ((Qbu enc _).drop m)).2.1
  have k:(Qgt enc p).length=(dec enc p.bytes).length:=Qa5 _ _ _
  dsimp only
  rw[a]
  split
  ·rw[Qax,Qa7,QS,Qd7,QgL,Qph]
   simp[QC]
  ·have b:((dec enc p.bytes).drop m).length=0:=by omega
   have e:((Qgt enc p).drop m).length=0:=by rw[List.length_drop,k,<-List.length_drop];exact b
   rw[List.eq_nil_of_length_eq_zero b,List.eq_nil_of_length_eq_zero e]
   simp
theorem QpD {enc:Int}{ps:List Pc}{i n:Nat}{q:Pc}(h:q ∈ Qbq enc ps i n):∃p,ps[i]? = some p/\0<n/\q=QgK enc p n:=by
 unfold Qbq at h
 split at h
 ·rename_i p hp
  split at h
  ·rename_i a
   exact⟨p,hp,a,List.mem_singleton.1 h⟩
  ·cases h
 ·cases h
theorem Qpx {enc:Int}{ps:List Pc}{j m:Nat}{q:Pc}(h:q ∈ Qcx enc ps j m):∃p,ps[j]? = some p/\m<(dec enc p.bytes).length/\q=QeV enc p m:=by
 unfold Qcx at h
 split at h
 ·rename_i p hp
  split at h
  ·rename_i a
   rw[(Qm ((Qbu enc p.bytes).drop m)).2.1,List.length_drop] at a
   exact⟨p,hp,by omega,List.mem_singleton.1 h⟩
  ·cases h
 ·cases h
theorem Qfw:(Tryz.prog.info? 5).map (fun i=>(i.zero,i.size,i.bytes))=some (some (.int .u8 0),1,1):=by kernel_rfl
def Qse:Value:=.agg #[.slice none 0 0,.int .i64 0,.int .i64 0,.int .i64 0,.int .i64 0,.bool false,.bool false]
theorem QmT:(Tryz.prog.info? 107).map (fun i=>(i.zero,i.size,i.bytes))=some (some Qse,7,64):=by kernel_rfl
theorem QdR:∃i z,Tryz.prog.info? 107=some i/\i.zero=some z/\i.size=7/\i.bytes=64/\z.cells.size=7:=by
 obtain⟨i,h1,h2,a,b⟩:=info_parts QmT
 exact⟨i,Qse,h1,h2,a,b,rfl⟩
theorem QT {w w':World}{B e size n:Nat}{v:Value}{xs:List Value}(h:w.ownsRow B e size v n xs)(b:ZB w w'):w'.ownsRow B e size v n xs:=by
 refine⟨h.1,?_⟩
 rcases h.2 with hn|⟨g,cap,cur,rfl,c,a,rest⟩
 ·exact .inl hn
 ·exact .inr ⟨g,cap,cur,rfl,c,by rw[b.block g (Array.getElem?_eq_some_iff.1 a).1];exact a,rest⟩
theorem QdK (A:Option Addr)(n c:Nat)(t a b d:Int)(x y:Bool) : ∀u ∈ [Value.slice A n c,.int .i64 t,.int .i64 a,.int .i64 b,.int .i64 d,.bool x,.bool y],u.oneCell'=true:=by
 intro u e
 simp at e
 rcases e with rfl|rfl|rfl|rfl|rfl|rfl|rfl<;>rfl
theorem Qy {B:Nat}{w w1 c:World}{row:Option Nat}(a:Below B w w1)(b:w1.grownBy c row)(g : ∀k,row=some k->B<=k)(f:B<=w.heap.size:=by omega):Below B w c:=
 ⟨b.os.trans a.os,b.tape.trans a.tape,b.output.trans a.output,Nat.le_trans a.size b.size,fun k d=>(b.block k (Nat.lt_of_lt_of_le d (Nat.le_trans f a.size)) (fun e=>by have:=g k e.symm;omega)).trans (a.block k d)⟩
theorem Qj {w:World}{B e size n:Nat}{v:Value}{xs:List Value}(h:w.ownsRow B e size v n xs):∃A c,v=.slice A n c/\n<=c:=by
 rcases h.2 with ⟨rfl,a⟩|⟨g,cap,cur,rfl,_,_,b,_⟩
 ·exact⟨none,0,by rw[a],by omega⟩
 ·exact⟨_,cap,rfl,b⟩
theorem QoR {w:World}{g n:Nat}{e:TypeId}{xs:List Value}(h:w.ownsRow g e 1 (.slice (some ⟨g,0,none⟩) n n) n xs):Blk w g e xs.toArray:=by
 rcases h.2 with ⟨b,_⟩|⟨j,cap,cur,a,_,c,_,_,d,f⟩
 ·cases b
 ·injection a with a e1' e1''
  injection a with a
  injection a with a
  subst a
  have i:=h.1
  unfold Blk
  rw[c,<-f,List.take_of_length_le (by simp[d];omega)]
theorem Qcu {w w':World}(h:w.grownBy w' none):ZB w w':=⟨h.os,h.tape,h.output,h.size,fun k a=>h.block k a (by simp)⟩
theorem QpM {D:Nat->Prop}(A:Option Addr)(n c:Nat)(l:List Int)(w w1:World)(xs:List Value)(a:l.length=n)(f:xs.length=n)(d:Blk w1 w.heap.size 5 xs.toArray)(g:ZB w w1)(i:Reads w1 D 1 A n (l.map (Value.int .u8))) :
  ∃h,(Builtin.copy_ #[47,47] 3 #[.slice (some ⟨w.heap.size,0,none⟩) n n,.slice A n c]).run Tryz.prog w1=.ok (.int .i64 (n:Int)) h/\Blk h w.heap.size 5 (l.map (Value.int .u8)).toArray/\ZB w h:=by
 have e:(Tryz.prog.info? 5).map (·.size)=some 1:=by kernel_rfl
 by_cases h0:n=0
 ·subst h0
  have o:l=[]:=List.eq_nil_of_length_eq_zero a
  have p:xs=[]:=List.eq_nil_of_length_eq_zero f
  subst o
  subst p
  exact⟨w1,run_copy_none (P:=Tryz.prog) w1 47 47 3 5 _ _ 0 0 0 c Tryz.underlying47 e rfl,d,g⟩
 ·obtain⟨q,rfl,_,m⟩:=i.2 (by omega)
  have j:xs.drop n=[]:=List.drop_eq_nil_of_le (by omega)
  have b := run_copy_row (P := Tryz.prog) w1 47 47 3 5 w.heap.size 0 n n q n c xs.toArray 5 (l.map (Value.int .u8)) Tryz.underlying47 e d (by simp [a]) m (by simp [a, f]) (by
   intro v k
   obtain⟨x,_,rfl⟩:=List.mem_map.1 k
   rfl)
  rw[show (l.map (Value.int .u8)).length=n by simp[a]] at b
  refine⟨_,b,?_,below_setRow g (Nat.le_refl _) _⟩
  have:=setRow_heap w1 w.heap.size xs.toArray (xs.toArray.toList.take 0++(l.map (Value.int .u8)++xs.toArray.toList.drop (0+n))).toArray 5 _ d
  simp only[List.take_zero,List.nil_append,Nat.zero_add] at this
  rw[j,List.append_nil] at this
  simp only[List.take_zero,List.nil_append,Nat.zero_add]
  rw[j,List.append_nil]
  exact this
theorem Qrl {w:World}{g n:Nat}{T:TypeId}{l:List Int}(a:Blk w g T (l.map (Value.int .u8)).toArray)(hn:l.length=n):Bts w (· = g) (some ⟨g,0,none⟩) n l:=by
 have:=PcIn.bts (p:=⟨some ⟨g,0,none⟩,n,n,0,Qq,l⟩) (w:=w) (T:=T) (g:=g) (l:=l) ⟨0,rfl,by rw[List.drop_zero,List.take_of_length_le (by show l.length<=n;omega)],by show 0+n<=_;omega⟩ a
 exact this
def QqF (enc lim:Int)(a:Option Addr):Array Value := #[.int .i64 enc,.int .i64 lim,.pointer a,.slice none 0 0]
def QsH (enc lim:Int)(l:List Int)(w a:World)(n k:Nat)(c b:Value)(wr:World):Prop:=
 ∃(p:Nat) (ps:List Pc) (v:Value),c=v/\b=.int .i64 (p:Int)/\OpenOk enc l w.heap.size p ps/\wr.ownsRow (a.heap.size+1) 107 7 v ps.length (ps.flatMap fun p=>p.cells.toList) /\
  Blk wr w.heap.size 5 (l.map (Value.int .u8)).toArray/\Blk wr a.heap.size 104 (QqF enc lim none)/\ZB w wr/\n-p<=k/\a.heap.size+1<=wr.heap.size
def QsK (enc:Int)(l:List Int)(p n:Nat)(w0:World)(k:Nat)(a b:Value)(wr:World):Prop:=
 ∃m j:Nat,a=.int .i64 ((p+m:Nat):Int)/\b=.int .i64 (j:Int)/\Hid ((m:Int)=szs enc (l.drop p) j)/\p+m<=n/\j<=128/\Hid (0<j->0<m)/\ZB w0 wr/\n-(p+m)<=k
def QpN (enc lim:Int)(l:List Int)(w:World)(e:Ending)(w':World):Prop:=
 ∃g,e=.returned (.tuple #[.pointer (some ⟨g,0,none⟩),.int .i64 0])/\TextL w' (fun b=>w.heap.size<=b) g enc lim (dec enc l) (QbS 0 0 (dec enc l))/\w.heap.size<=g/\ZB w w'
theorem QoH (enc lim:Int)(D:Nat->Prop)(A:Option Addr)(n c:Nat)(l:List Int)(w:World)(he:enc=1\/enc=2\/enc=3\/enc=4)(hl:Bts w D A n l)(hb:Byt l)(c7:(n:Int)<=lim/\lim<=65536)(c5:n<=c) :
  Calls Tryz.prog 121 #[.int .i64 enc,.slice A n c,.int .i64 lim] w fun e w'=>QpN enc lim l w e w':=by
 have E:=hl.len
 have hn:n<=65536:=by omega
 have q2:(lim<0)=False:=by simp;omega
 have q3:(65536<lim)=False:=by simp;omega
 have q4:(lim<(n:Int))=False:=by simp;omega
 have q0:(enc<1)=False:=by simp;omega
 have q1:(4<enc)=False:=by simp;omega
 obtain⟨ib,T,K,Q,J⟩:=info_parts Qfw
 have HE:=Zh he
 clear he
 go_enter Tryz.func121,Tryz.ntmps121
 go_wp2_with (at_make;refine wpList_make_full _ rfl _ _ 47 rfl w.heap.size 5 ib (.int .u8 0) 1 Tryz.underlying47 T K Q _ _ _ _ n rfl rfl rfl rfl (by rw[J];omega) (by unfold maxLen;omega) (Nat.le_refl _) ?_)
 intro w1 B u
 obtain⟨xs,Y⟩:=ZN ((madeCells #[Value.int .u8 0] n).toList)
 rw[Y] at B
 have M:xs.length=n:=by have:=B.1;omega
 have N:Blk w1 w.heap.size 5 xs.toArray:=QoR B
 have I:ZB w w1:=Qcu u
 have W:=Reads.below hl I
 clear Y B u T K Q J ib
 obtain⟨C,hr,O,q⟩:=QpM A n c l w w1 xs E M N I W
 clear N I M xs
 go_wp2_with fail
 clear hr W w1
 go_loopg [10,11] n (fun k a3 b6 wr=>QsH enc lim l w C n k a3 b6 wr)
 case atStart=>
  refine⟨0,[],.slice none 0 0,rfl,rfl,OpenOk.start enc l _,World.ownsRow_nil _ _ _ _,O.alloc _,Blk.new C _ _,q.alloc q.size _,by omega,by simp⟩
 case round=>
  obtain⟨w1,a7⟩:∃x,x=wr:=⟨_,rfl⟩
  subst a7
  obtain⟨k1,b8⟩:∃x,x=gk:=⟨_,rfl⟩
  subst b8
  obtain⟨p,ps,v,rfl,rfl,f,ho,hB,hT,hW,hk,c9⟩:=hrel
  have HO:=Zh ho
  clear ho
  by_cases hlt:p<n
  ·go_wp2_with fail
   go_loopg [12,13] (n-p) (fun k a b w'=>QsK enc l p n w1 k a b w')
   case atStart=>exact⟨0,0,rfl,rfl,Zh rfl,by omega,by omega,Zh (fun h=>absurd h (by omega)),Below.refl _ _,by omega⟩
   case round=>
    obtain⟨wi,a4⟩:∃x,x=wr:=⟨_,rfl⟩
    subst a4
    have G:=hrel
    clear hrel
    obtain⟨m,j,rfl,rfl,hm,R,hj,b3,g,d3⟩:=G
    have r:=hB.below g
    have a0:=Qrl r E
    by_cases hgo:p+m<n/\j<128
    ·obtain⟨u,d1⟩:=hgo
     have hz:=QZ enc (l.drop (p+m)) (by rw[List.length_drop];omega)
     have t:=Qo3 enc j (l.drop p) (by rw[<-hm.out,List.length_drop];omega)
     rw[<-hm.out,Int.toNat_natCast,List.drop_drop] at t
     obtain⟨a,ha⟩:=ZN (Qa8 enc (l.drop (p+m)))
     obtain⟨z,y⟩:∃z:Nat,QB enc (l.drop (p+m))=(z:Int):=⟨(QB enc (l.drop (p+m))).toNat,by omega⟩
     have H:=QcP enc (· = w.heap.size) (some ⟨w.heap.size,0,none⟩) n n (p+m) l wi HE.out a0 hb (by omega) (Nat.le_refl _) u
     rw[ha,y] at H
     rw[y,List.length_drop] at hz
     rw[y] at t
     have HC:=Zh H
     have HS:=Zh t
     clear H ha y t
     go_wp2_with fail
     refine(HC.out).mono ?_
     rintro e w3 ⟨rfl,d⟩
     go_wp2_with fail
     go_roundg (n-(p+(m+z)))
     case measure=>omega
     case rel=>
      refine⟨m+z,j+1,by go_num,by go_num,Zh ?_,by omega,by omega,Zh (fun _=>by omega),Qf g d,by omega⟩
      rw[HS.out]
      omega
    ·have h0:0<m:=by
      rcases Nat.eq_zero_or_pos m with h|h
      ·subst h
       have:=b3.out
       omega
      ·exact h
     have b1:((p:Int)+(m:Int)<(n:Int))=False\/(((p:Int)+(m:Int)<(n:Int))=True/\((j:Int)<128)=False):=by simp;omega
     have b9:PcIn w.heap.size l (Qsl enc l w.heap.size p m):=⟨p,rfl,rfl,Nat.le_trans R (Nat.le_of_eq E.symm)⟩
     have c8:=f.len
     have c6:=f.le
     obtain⟨ip,zp,b2,c0,a9,b0,b7⟩:=QdR
     have F:=QcI enc (· = w.heap.size) (some ⟨w.heap.size,p,none⟩) m m (p:Int) ((l.drop p).take m) wi HE.out (b9.bts r) ((hb.drop _).take _) (by omega) (Nat.le_refl _)
     obtain⟨S,hS⟩:=ZN (Qi (dec enc ((l.drop p).take m)))
     rw[hS] at F
     have a2:=Zh hS
     have a5:=Zh F
     clear hS F
     rcases b1 with hx|⟨d0,hx⟩
     all_goals
      go_wp2_with fail
      refine(a5.out).mono ?_
      rintro e w3 ⟨rfl,d⟩
      unfold Qx
      have d2:C.heap.size+1<=w3.heap.size:=by have:=g.size;have:=d.size;omega
      have U:ZB w w3:=Qf (Qf hW g) d
      have X:=QT HO.out (Qf g d)
      have P:=Zh X
      clear X
      go_wp2_with (at_builtin;go_loud (refine wpList_append_own _ rfl (.tmp 70) (.tmp 79) 232 rfl (C.heap.size+1) 107 ip zp 7 64 Tryz.underlying232 b2 c0 a9 b0 b7 (by decide) u10 ps.length _ rfl (P.out.alloc _) ⟨w3.heap.size,0,none⟩ 1 1 [.slice (some ⟨w.heap.size,p,none⟩) m m,.int .i64 (p:Int),.int .i64 S.atoms,.int .i64 S.bytes,.int .i64 S.breaks,.bool S.lf,.bool S.cr] rfl rfl (QaU _ _ _) (QdK _ _ _ _ _ _ _ _ _) (by unfold maxLen;omega) (by omega) (by simp;omega) ?_))
      intro v1 w4 o i _
      have Z:=P.out.alloc (.cells #[.slice (some ⟨w.heap.size,p,none⟩) m m,.int .i64 (p:Int),.int .i64 S.atoms,.int .i64 S.bytes,.int .i64 S.breaks,.bool S.lf,.bool S.cr] 107)
      have b4:Blk w4 w.heap.size 5 (l.map (Value.int .u8)).toArray:=((r.below d).alloc _).grown i (fun e=>Qk Z ((r.below d).alloc _) (by decide) e.symm)
      have c4:Blk w4 C.heap.size 104 (QqF enc lim none):=(((hT.below g).below d).alloc _).grown i (fun e=>Qk Z (((hT.below g).below d).alloc _) (by decide) e.symm)
      have a6:ZB w w4:=Qy (U.alloc U.size _) i (fun k hk=>by have:=QaV Z hk;have:=q.size;omega)
      have c3:C.heap.size+1<=w4.heap.size:=by have:=i.size;simp at this;omega
      have H4:=Zh o
      clear o i Z
      go_wp2_with fail
      go_roundg (n-(p+m))
      case measure=>omega
      case rel=>
       have V:=f.step hb hm.out h0 (by omega) (by omega)
       refine⟨p+m,_,v1,rfl,by go_num,V,?_,b4,c4,a6,Nat.le_refl _,c3⟩
       have:=H4.out
       rw[List.length_append,List.flatMap_append]
       simp only[Qsl,a2.out]
       exact this
  ·have a1:p=l.length:=by have:=f.le;omega
   subst a1
   obtain⟨A',c',rfl,a8⟩:=Qj HO.out
   have L:=Qli (fun b=>C.heap.size+1<=b) A' ps.length c' ps w1 (Reads.of_own HO.out) f.good (by rw[f.tot];omega) (by have:=f.len;omega) a8
   have b5:=Zh L
   clear L HO
   go_wp2_with fail
   refine(b5.out).mono ?_
   rintro e w3 ⟨a,rfl,c1,d⟩
   have s:=hT.below d
   have c2:=s.cell 2
   have f2:=s.frozen 2
   simp[QqF] at c2
   go_wp2_with fail
   go_ret2
   refine⟨C.heap.size,rfl,?_,q.size,?_⟩
   ·exact f.text (by omega) HE.out ((hB.below d).far (by have:=O.lt;simp;omega) _) (Nat.le_refl _) ((s.set_ 2 _).eq_ rfl) (NodeAt.keepBut (KeepBut.of_fr ((Fr.refl _ _).set1 2 _) s) (by decide) _ _ c1)
   ·exact(Qf hW d).setCell q.size _
structure FreshS (w0:World) (B g bt bf bp bn:Nat) (enc lim:Int) (n0:Nat) (add0:Value) (a:Option Addr) (xs:List Value) (dn pd:List Int) (m:Nat) (ps:List Pc) (v add:Value) (w:World):Prop where
 tx:Blk w g 104 #[.int .i64 enc,.int .i64 lim,.pointer a,add]
 row:w.ownsRow B 5 1 add (n0+(QF enc dn).length+(QF enc pd).length) (xs++(QF enc dn++QF enc pd).map (Value.int .u8))
 step:TStep g add0 add n0 (n0+(QF enc dn).length+(QF enc pd).length) w0 w
 tb:Blk w bt 33 #[.pointer (some ⟨g,0,none⟩)]
 fb:Blk w bf 3 #[.int .i64 ((n0+(QF enc dn).length:Nat):Int)]
 pb:Blk w bp 232 #[v]
 nb:Blk w bn 3 #[.int .i64 ((m:Nat):Int)]
 prow:w.ownsRow w0.heap.size 107 7 v ps.length (ps.flatMap fun p=>p.cells.toList)
 pcs:PsIn w add (n0+(QF enc dn).length+(QF enc pd).length) enc ps
 tag : ∀p ∈ ps,p.tag = -1
 all:QC enc ps=Qat enc dn
 ge:w0.heap.size<=bt/\w0.heap.size<=bf/\w0.heap.size<=bp/\w0.heap.size<=bn/\bf≠bn
def Qoe (enc:Int)(ba F:Nat)(pd:List Int):Pc:=⟨some ⟨ba,F,none⟩,(QF enc pd).length,(QF enc pd).length,-1,Qi (dec enc (QF enc pd)),QF enc pd⟩
def QoO (w0:World)(B g bt bf bp bn:Nat)(enc lim:Int)(n0:Nat)(add0:Value)(a:Option Addr)(xs:List Value)(dn pd:List Int)(add:Value)(w:World)(e:Ending)(w':World):Prop:=
 e=.returned (.tuple #[])/\∃ps v,FreshS w0 B g bt bf bp bn enc lim n0 add0 a xs (dn++pd) [] 0 ps v add w'
section
variable {w0 w:World} {B g bt bf bp bn n0:Nat} {enc lim:Int} {add0 add v:Value} {a:Option Addr} {xs:List Value} {dn pd:List Int} {m:Nat} {ps:List Pc}
theorem FreshS.shut {w1:World}{ba cap:Nat}{v':Value}(h:FreshS w0 B g bt bf bp bn enc lim n0 add0 a xs dn pd m ps v add w)(D:w0.ownsRow B 5 1 add0 n0 xs)(d:add=.slice (some ⟨ba,0,none⟩) (n0+(QF enc dn).length+(QF enc pd).length) cap)
  (V:dec enc (QF enc pd)=Qat enc pd) (W:Fit enc pd) (hp:0<(QF enc pd).length) (hn:(QF enc pd).length<=1048576)
  (i:Fr (OwnB v) w w1) (l:w1.ownsRow w0.heap.size 107 7 v' (ps.length+1) ((ps.flatMap fun p=>p.cells.toList)++(Qoe enc ba (n0+(QF enc dn).length) pd).cells.toList)) :
  FreshS w0 B g bt bf bp bn enc lim n0 add0 a xs (dn++pd) [] 0 (ps++[Qoe enc ba (n0+(QF enc dn).length) pd]) v' add
   (((w1.setCell ⟨bp,0,none⟩ v').setCell ⟨bf,0,none⟩ (.int .i64 ((n0+(QF enc dn).length+(QF enc pd).length:Nat):Int))).setCell ⟨bn,0,none⟩ (.int .i64 0)):=by
 obtain⟨g1,g2,g3,g4,Q⟩:=h.ge
 have eL:(QF enc (dn++pd)).length=(QF enc dn).length+(QF enc pd).length:=by rw[QcD,List.length_append]
 have eN:n0+(QF enc (dn++pd)).length+(QF enc ([]:List Int)).length=n0+(QF enc dn).length+(QF enc pd).length:=by rw[eL,QaW];simp;omega
 have ov : ∀{T:TypeId} {y:Array Value} {b:Nat},Blk w b T y->107≠T->¬OwnB v b:=fun o N=>Qk h.prow o N
 have K:=h.tx.fr i (ov h.tx (by decide))
 have L:=h.tb.fr i (ov h.tb (by decide))
 have G:=h.fb.fr i (ov h.fb (by decide))
 have x:=h.pb.fr i (ov h.pb (by decide))
 have z:=h.nb.fr i (ov h.nb (by decide))
 have n1:g≠bp:=Blk.ne_ K x (by decide)
 have n2:g≠bf:=Blk.ne_ K G (by decide)
 have Y:g≠bn:=Blk.ne_ K z (by decide)
 have n4:bt≠bp:=Blk.ne_ L x (by decide)
 have X:bt≠bf:=Blk.ne_ L G (by decide)
 have n6:bt≠bn:=Blk.ne_ L z (by decide)
 have S:bp≠bf:=Blk.ne_ x G (by decide)
 have R:bp≠bn:=Blk.ne_ x z (by decide)
 have F:Fr (fun b=>OwnB v b\/b=bp\/b=bf\/b=bn) w (((w1.setCell ⟨bp,0,none⟩ v').setCell ⟨bf,0,none⟩ (.int .i64 ((n0+(QF enc dn).length+(QF enc pd).length:Nat):Int))).setCell ⟨bn,0,none⟩ (.int .i64 0)):=
  (((i.more (fun _ _ h=>.inl h)).setCell (.inl (.inr (.inl rfl))) _).setCell (.inl (.inr (.inr (.inl rfl)))) _).setCell (.inl (.inr (.inr (.inr rfl)))) _
 have O : ∀b,add.ownBlock=some b->¬(OwnB v b\/b=bp\/b=bf\/b=bn):=by
  rintro b o J
  have f:∃y,Blk w b 5 y:=by
   rcases h.row.2 with ⟨rfl,_⟩|⟨q,c,cur,rfl,_,E,_⟩
   ·cases o
   ·have:q=b:=by simpa[Value.ownBlock] using o
    subst this
    exact⟨cur,E⟩
  obtain⟨y,f⟩:=f
  rcases J with J|rfl|rfl|rfl
  ·exact ov f (by decide) J
  ·exact Blk.ne_ f h.pb (by decide) rfl
  ·exact Blk.ne_ f h.fb (by decide) rfl
  ·exact Blk.ne_ f h.nb (by decide) rfl
 have I : ∀k,k<w.heap.size->(OwnB v k\/k=bp\/k=bf\/k=bn)->Far w k:=by
  rintro k _ (s|rfl|rfl|rfl)
  ·exact Far.own h.prow s (by decide)
  ·exact Far.blk h.pb (by decide)
  ·exact Far.blk h.fb (by decide)
  ·exact Far.blk h.nb (by decide)
 have C:World.ownsRow (((w1.setCell ⟨bp,0,none⟩ v').setCell ⟨bf,0,none⟩ (.int .i64 ((n0+(QF enc dn).length+(QF enc pd).length:Nat):Int))).setCell ⟨bn,0,none⟩ (.int .i64 0)) B 5 1 add (n0+(QF enc dn).length+(QF enc pd).length) (xs++(QF enc dn++QF enc pd).map (Value.int .u8)):=by
  refine⟨h.row.1,?_⟩
  rcases h.row.2 with M|⟨r,c,cur,e,h1,h2,P⟩
  ·exact .inl M
  ·refine .inr ⟨r,c,cur,e,h1,?_,P⟩
   rw[F.block r (Array.getElem?_eq_some_iff.1 h2).1 (O r (by rw[e];rfl))]
   exact h2
 have H:Bts w Any (some ⟨ba,n0+(QF enc dn).length,none⟩) (QF enc pd).length (QF enc pd):=by
  refine⟨by simp,fun _=>⟨_,rfl,trivial,fun j u U=>?_⟩⟩
  rw[QaF]
  have := h.row.cells (g := ba) (by rw [d]; rfl) (n0 + (QF enc dn).length + j) u (by
   have hx:=D.1
   rw[List.getElem?_append_right (by omega),List.map_append,List.getElem?_append_right (by rw[List.length_map];omega),List.length_map]
   rw[<-U]
   congr 1
   omega)
  rw[QaF,Nat.zero_add] at this
  exact this
 have E:PsIn w add (n0+(QF enc dn).length+(QF enc pd).length) enc [Qoe enc ba (n0+(QF enc dn).length) pd]:=by
  refine⟨?_,?_,?_,?_,?_⟩
  all_goals
   intro p hp
   rw[List.mem_singleton] at hp
   subst hp
  ·exact⟨Qj9 enc pd W,rfl,hp,by simp only[Qoe];omega,Nat.le_refl _,by simp[Qoe],by simp[Qoe],rfl⟩
  ·exact H
  ·intro Z e o
   injection e with e
   subst e
   exact Nat.le_refl _
  ·simp only[Qoe];omega
  ·intro Z e
   injection e with e
   subst e
   rcases h.row.2 with ⟨n,_⟩|⟨q,c,cur,n,_,E,_⟩
   ·rw[n] at d;cases d
   ·rw[d] at n
    injection n with n
    injection n with n
    injection n with n
    subst n
    exact⟨cur,E⟩
 have A:QC enc [Qoe enc ba (n0+(QF enc dn).length) pd]=Qat enc pd:=by
  rw[QS,show QC enc []=[] from rfl,List.append_nil]
  exact V
 refine⟨((K.far n1 _).far n2 _).far Y _,?_,?_,((L.far n4 _).far X _).far n6 _,?_,?_,?_,?_,?_,?_,?_,h.ge⟩
 ·rw[eN,QcD,QaW,List.append_nil]
  exact C
 ·rw[eN]
  exact h.step.loc F (by
   rintro b (J|rfl|rfl|rfl)
   ·exact(h.prow.lt b J).1
   all_goals assumption) D
 ·have:=((G.far (p:=⟨bp,0,none⟩) (Ne.symm S) v').set_ 0 (.int .i64 ((n0+(QF enc dn).length+(QF enc pd).length:Nat):Int))).far (p:=⟨bn,0,none⟩) Q (.int .i64 0)
  refine this.eq_ ?_
  rw[eL,Nat.add_assoc]
  rfl
 ·exact(((x.set_ 0 v').far S _).far R _).eq_ rfl
 ·exact(((z.far (p:=⟨bp,0,none⟩) (Ne.symm R) v').far (p:=⟨bf,0,none⟩) (Ne.symm Q) _).set_ 0 _).eq_ rfl
 ·have t : ∀{T:TypeId} {y:Array Value} {b:Nat},Blk w1 b T y->107≠T->∀k,v'.ownBlock=some k->b≠k:=fun o N k s e=>Qk l o N (e▸s)
  rw[List.length_append,List.flatMap_append,List.flatMap_singleton]
  refine⟨l.1,?_⟩
  rcases l.2 with M|⟨r,c,cur,e,h1,h2,P⟩
  ·exact .inl M
  ·refine .inr ⟨r,c,cur,e,h1,?_,P⟩
   have s:v'.ownBlock=some r:=by rw[e];rfl
   rw[Below.heap_setCell _ _ _ r (Ne.symm (t z (by decide) r s)),Below.heap_setCell _ _ _ r (Ne.symm (t G (by decide) r s)),Below.heap_setCell _ _ _ r (Ne.symm (t x (by decide) r s))]
   exact h2
 ·rw[eN]
  exact(h.pcs.app E).far F I
 ·intro p hp
  rcases List.mem_append.1 hp with hp|hp
  ·exact h.tag p hp
  ·rw[List.mem_singleton] at hp
   rw[hp]
   rfl
 ·rw[Qax,h.all,A]
  unfold Qat
  rw[List.map_append]
end
theorem Qmf {l:List Int}(a:Byt l){n:Nat}(b:1<=n)(h1:n<=4) : -134217728<=QaK l n/\QaK l n<=134217728:=by
 rw[Qgh l b h1]
 have:=a.at_ 0
 exact Qmj a (by unfold Qhd;(repeat' split)<;>omega) h1
theorem Qqw {l:List Int}{n:Nat}(c:1<=n)(h1:n<=4)(b:okR l n=true)(a : ∀k,1<=k->k<n->okR l k=false):QlJ l=(QaK l n,(n:Int)):=by
 unfold QlJ
 match n,c,h1 with
 | 1,_,_=>rw[if_pos b];rfl
 | 2,_,_=>rw[if_neg (by rw[a 1 (by omega) (by omega)];decide),if_pos b];rfl
 | 3,_,_=>rw[if_neg (by rw[a 1 (by omega) (by omega)];decide),if_neg (by rw[a 2 (by omega) (by omega)];decide),if_pos b];rfl
 | 4,_,_=>rw[if_neg (by rw[a 1 (by omega) (by omega)];decide),if_neg (by rw[a 2 (by omega) (by omega)];decide),if_neg (by rw[a 3 (by omega) (by omega)];decide),if_pos b];rfl
theorem Qmp {l:List Int}(a : ∀k,1<=k->k<=4->okR l k=false):QlJ l=(-1-l.getD 0 0,1):=by
 unfold QlJ
 rw[if_neg (by rw[a 1 (by omega) (by omega)];decide),if_neg (by rw[a 2 (by omega) (by omega)];decide),if_neg (by rw[a 3 (by omega) (by omega)];decide),if_neg (by rw[a 4 (by omega) (by omega)];decide)]
theorem QlD {a:Int}(h:QbJ a=true):0<=a/\a<=1114111:=by
 unfold QbJ at h
 rw[Bool.or_eq_true,decide_eq_true_eq,decide_eq_true_eq] at h
 omega
theorem QkV (a:Int):1<=(Qa9 a).length/\(Qa9 a).length<=4:=by unfold Qa9;(repeat' split)<;>simp
def E8R (L:List Int)(w0:World)(k:Nat)(q:Value)(wr:World):Prop:=
 ∃n:Nat,q=.int .i64 (n:Int)/\1<=n/\n<=5/\5-n<=k/\Hid (∀k,1<=k->k<n->okR L k=false)/\ZB w0 wr
theorem Qhz (D:Nat->Prop)(A:Option Addr)(N c p:Nat)(l:List Int)(w:World)(hl:Bts w D A N l)(hB:Byt l)(hN:N<=2147483648)(hp:p<N) :
  Calls Tryz.prog 185 #[.slice A N c,.int .i64 (p:Int)] w fun e w'=>e=.returned (.tuple #[.int .i64 (QlJ (l.drop p)).1,.int .i64 (QlJ (l.drop p)).2])/\ZB w w':=by
 have P:=hl.len
 have hL:(l.drop p).length=N-p:=by rw[List.length_drop,P]
 have E:(l.drop p).getD 0 0=l.getD p 0:=by rw[Qa2,Nat.add_zero]
 have Z:=hB.drop p
 have hm:=fun(n:Nat) (w':World) (h:n=1\/n=2\/n=3\/n=4) (h2:p+n<=N) (B:ZB w w')=>QkG D A N c p n l w' (Reads.below hl B) hB hN h h2
 have hg:=fun(m c':Nat) (A':Option Addr) (x:List Int) (w':World) (hx:Bts w' Any A' m x) (hm:m<=16) (B:ZB w w')=>Qjj D Any A A' N c m c' p l x w' (Reads.below hl B) hx hN hm (Nat.le_of_lt hp)
 have a:=fun(x:List Int) (h:p+x.length<=N)=>Qrr l p x (by rw[P];exact h)
 obtain⟨L,K⟩:=ZN (l.drop p)
 rw[K] at hm hL E Z a
 rw[K]
 have HM:=Zh hm
 have HG:=Zh hg
 have a2:=Zh a
 have HL:=Zh hL
 have a3:=Zh E
 clear hm hg a hL E K
 go_enter Tryz.func185,Tryz.ntmps185
 go_wp2_with fail
 go_loopg [6] 5 (fun k q wr=>E8R L w k q wr)
 case atStart=>exact⟨1,rfl,by omega,by omega,by omega,Zh (fun k h1 h2=>absurd h2 (by omega)),Below.refl _ _⟩
 case round=>
  obtain⟨n,rfl,Y,b2,hk,u,B⟩:=hrel
  by_cases hgo:n<=4/\p+n<=N
  ·obtain⟨U,a1⟩:=hgo
   have q1:((p:Int)+(n:Int)<=(N:Int))=True:=by simp;omega
   have a5:=Qmf Z Y U
   have J:=HM.out n wr (by omega) a1 B
   have g:okR L n=(decide (n<=L.length) && QbJ (QaK L n) && (Qa9 (QaK L n)==L.take n)):=rfl
   have G:=fun(h:okR L n=true)=>Qqw Y U h u.out
   obtain⟨M,hM⟩:=ZN (QaK L n)
   rw[hM] at a5 J g G
   have a7:=HL.out
   have C:decide (n<=L.length)=true:=by simp;omega
   rw[C,Bool.true_and] at g
   have b1:=Zh J
   have HR:=Zh G
   have I:=Zh g
   clear J G g C hM
   go_wp2_with fail
   refine(b1.out).mono ?_
   rintro e w1 ⟨rfl,a8⟩
   have V:=Qf B a8
   cases hsc:QbJ M with
   |false=>
    have F:=QfE M w1
    rw[hsc] at F
    have HS:=Zh F
    have z:=Zh hsc
    clear F hsc
    go_wp2_with fail
    refine(HS.out).mono ?_
    rintro e w2 ⟨rfl,rfl⟩
    go_wp2_with fail
    go_roundg (5-(n+1))
    case measure=>omega
    case rel=>
     refine⟨n+1,by go_num,by omega,by omega,by omega,Zh (fun k h1 h2=>?_),V⟩
     rcases Nat.lt_or_ge k n with h|h
     ·exact u.out k h1 h
     ·rw[show k=n by omega,I.out,z.out];rfl
   |true=>
    have F:=QfE M w1
    rw[hsc] at F
    have R:=QlD hsc
    have HS:=Zh F
    have z:=Zh hsc
    clear F hsc
    go_wp2_with fail
    refine(HS.out).mono ?_
    rintro e w2 ⟨rfl,rfl⟩
    go_wp2_with fail
    refine(Qlb M w1 R.1 R.2).mono ?_
    rintro e w3 ⟨v,rfl,i,a4⟩
    obtain⟨A',c',rfl,_⟩:=Qj i
    have Q:=QkV M
    obtain⟨X,hX⟩:=ZN (Qa9 M)
    rw[hX] at i Q
    rw[hX]
    have t:=Qf V a4
    have s:=HG.out X.length c' A' X w3 (Reads.more (Reads.of_own i) (fun _ _ _=>trivial) (by decide)) (by omega) t
    have a:X.length=n->Qqm l p X=decide (L.take X.length=X):=fun h=>a2.out X (by omega)
    obtain⟨m,hm⟩:=ZN (X.length)
    rw[hm] at s Q a
    rw[hm]
    obtain⟨b,T⟩:=ZN (Qqm l p X)
    rw[T] at s a
    have O:=Zh s
    have S:=Zh a
    have HX:=Zh hX
    have b0:=Zh hm
    clear s a T hX hm i
    by_cases hok:okR L n=true
    ·have y:=I.out
     rw[hok,z.out,HX.out,Bool.true_and] at y
     have H:X=L.take n:=by rw[eq_comm,beq_iff_eq] at y;exact y
     have d:m=n:=by
      have:=congrArg List.length H
      rw[List.length_take,b0.out] at this
      omega
     have a0:b=true:=by
      rw[S.out d,decide_eq_true_eq,d]
      exact H.symm
     subst d
     subst a0
     have W:=Zh hok
     clear hok y H
     go_wp2_with fail
     refine(O.out).mono ?_
     rintro e w4 ⟨rfl,o⟩
     have q2:((m:Int)==(m:Int))=true:=by simp
     go_wp2_with fail
     go_ret2
     exact⟨by rw[HR.out W.out];rfl,Qf t o⟩
    ·have r:okR L n=false:=by
      cases h:okR L n with
      |true=>exact absurd h hok
      |false=>rfl
     have j : Hid (∀ k, 1 <= k -> k < n + 1 -> okR L k = false) := Zh (fun k h1 h2=>by
      rcases Nat.lt_or_ge k n with h|h
      ·exact u.out k h1 h
      ·rw[show k=n by omega];exact r)
     by_cases d:m=n
     ·have a9:b=false:=by
       cases hb0:b with
       |false=>rfl
       |true=>
        exfalso
        apply hok
        have h1:=S.out d
        rw[hb0,eq_comm,decide_eq_true_eq,d] at h1
        rw[I.out,z.out,HX.out,Bool.true_and,beq_iff_eq]
        exact h1.symm
      subst d
      subst a9
      clear hok r
      go_wp2_with fail
      refine(O.out).mono ?_
      rintro e w4 ⟨rfl,o⟩
      have q2:((m:Int)==(m:Int))=true:=by simp
      go_wp2_with fail
      go_roundg (5-(m+1))
      case measure=>omega
      case rel=>exact⟨m+1,by go_num,by omega,by omega,by omega,j,Qf t o⟩
     ·clear hok r
      go_wp2_with fail
      refine(O.out).mono ?_
      rintro e w4 ⟨rfl,o⟩
      have q2:((m:Int)==(n:Int))=false:=by rw[beq_eq_false_iff_ne];omega
      go_wp2_with fail
      go_roundg (5-(n+1))
      case measure=>omega
      case rel=>exact⟨n+1,by go_num,by omega,by omega,by omega,j,Qf t o⟩
  ·have f : QlJ L = (-1 - L.getD 0 0, 1) := Qmp (fun k h1 h2=>by
    rcases Nat.lt_or_ge k n with h|h
    ·exact u.out k h1 h
    ·unfold okR
     have:=HL.out
     rw[show decide (k<=L.length)=false by rw[decide_eq_false_iff_not];omega]
     rfl)
   rw[a3.out] at f
   obtain⟨ad,rfl,_,c0⟩:=Bts.at_ (Reads.below hl B) hp
   obtain⟨x,hx⟩:=ZN (l.getD p 0)
   have bx:=hB.at_ p
   rw[hx] at c0 f bx
   have HF:=Zh f
   clear f hx
   have a6:((n:Int)<=4)=False\/(((n:Int)<=4)=True/\((p:Int)+(n:Int)<=(N:Int))=False):=by simp;omega
   rcases a6 with q1|⟨q1,q2⟩
   all_goals
    go_wp2_with fail
    go_ret2
    exact⟨by rw[HF.out];rfl,B⟩
theorem Qfg (o:Int)(D:Nat->Prop)(A:Option Addr)(N c p:Nat)(l:List Int)(w:World)(j:o=0\/o=1)(d:Bts w D A N l)(h:Byt l)(C:N<=2147483648)(hp:p<=N+2) :
  Calls Tryz.prog 186 #[.int .i64 (o+2),.slice A N c,.int .i64 (p:Int)] w fun e w'=>e=.returned (.int .i64 (QV o (l.drop p)))/\ZB w w':=by
 have q:=d.len
 by_cases h2:p+2<=N
 ·obtain⟨m,rfl,_,c0⟩:=d.at_ (show p<N by omega)
  obtain⟨b,k,_,c1⟩:=d.at_ (show p+1<N by omega)
  obtain rfl:m=b:=by injection k
  have r:=h.at_ p
  have n:=h.at_ (p+1)
  have a:QV o (l.drop p)=if o=0 then l.getD p 0+l.getD (p+1) 0*256 else l.getD (p+1) 0+l.getD p 0*256:=by
   unfold QV Qa4
   rw[if_neg (by rw[List.length_drop];omega),Qa2,Qa2,Nat.add_zero]
  obtain⟨x,g⟩:=ZN (l.getD p 0)
  obtain⟨y,f⟩:∃x,l.getD (p+1) 0=x:=⟨_,rfl⟩
  rw[g] at c0 r a
  rw[f] at c1 n a
  have s:((N:Int)<(p:Int)+2)=False:=by simp;omega
  have i:=Zh a
  clear a g f k
  have E:(0:Int)<=(p:Int):=by omega
  have F:(p:Int)<(N:Int):=by omega
  have B:(0:Int)<=(p:Int)+1:=by omega
  have I:(p:Int)+1<(N:Int):=by omega
  have t:((p:Int)+1).toNat=p+1:=by omega
  rw[Qb6 m (p+1) (by omega)] at c1
  have z:IntKind.i64.wrap x=x:=IntWalk.i64_in _ (by omega)
  have m2:IntKind.i64.wrap y=y:=IntWalk.i64_in _ (by omega)
  have v:IntKind.i64.wrap (256*x)=256*x:=IntWalk.i64_in _ (by omega)
  have J:IntKind.i64.wrap (256*y)=256*y:=IntWalk.i64_in _ (by omega)
  have u:IntKind.i64.wrap (x+256*y)=x+256*y:=IntWalk.i64_in _ (by omega)
  have G:IntKind.i64.wrap (256*x+y)=256*x+y:=IntWalk.i64_in _ (by omega)
  have H:IntKind.i64.wrap ((p:Int)+1)=(p:Int)+1:=IntWalk.i64_in _ (by omega)
  rcases j with rfl|rfl
  ·go_enter Tryz.func186,Tryz.ntmps186
   go_wp2_with fail
   go_quiet (fail)
   go_wp2_with fail
   go_ret
   exact⟨QaB (by rw[i.out];simp;omega),Q6 (Below.refl _ _) _⟩
  ·go_enter Tryz.func186,Tryz.ntmps186
   go_wp2_with fail
   go_quiet (fail)
   go_wp2_with fail
   go_ret
   exact⟨QaB (by rw[i.out];simp;omega),Q6 (Below.refl _ _) _⟩
 ·have s:((N:Int)<(p:Int)+2)=True:=by simp;omega
  have a:QV o (l.drop p) = -1:=by unfold QV;rw[if_pos (by rw[List.length_drop];omega)]
  rw[a]
  clear a
  rcases j with rfl|rfl
  all_goals
   go_enter Tryz.func186,Tryz.ntmps186
   go_wp2_with fail
   go_ret
   exact⟨rfl,Below.refl _ _⟩
theorem Qih (o:Int)(l:List Int)(h:Byt l) : -1<=QV o l/\QV o l<65536:=by
 unfold QV
 have:=QcG o l h
 split<;>omega
theorem Qro (enc:Int)(D:Nat->Prop)(A:Option Addr)(N c p:Nat)(l:List Int)(w:World)(M:enc=1\/enc=2\/enc=3\/enc=4)(q:Bts w D A N l)(h:Byt l)(B:N<=2147483648)(hp:p<N) :
  Calls Tryz.prog 176 #[.int .i64 enc,.slice A N c,.int .i64 (p:Int)] w fun e w'=>e=.returned (.tuple #[.int .i64 (QiG enc (l.drop p)).1,.int .i64 (QiG enc (l.drop p)).2])/\ZB w w':=by
 have b:(l.drop p).getD 0 0=l.getD p 0:=by rw[Qa2,Nat.add_zero]
 have bx:=h.at_ p
 obtain⟨s,rfl,_,c0⟩:=q.at_ hp
 obtain⟨x,n⟩:=ZN (l.getD p 0)
 rw[n] at b c0 bx
 have f : ∀o:Int,o=0\/o=1->Calls Tryz.prog 176 #[.int .i64 (o+2),.slice (some s) N c,.int .i64 (p:Int)] w fun e w'=>e=.returned (.tuple #[.int .i64 (QhM o (l.drop p)).1,.int .i64 (QhM o (l.drop p)).2])/\ZB w w':=by
  intro o y
  have J:=Qih o (l.drop p) (h.drop p)
  have H:=Qih o (l.drop (p+2)) (h.drop _)
  have r:QhM o (l.drop p)=if QV o (l.drop p)<0 then (-1-x,1) else if 55296<=QV o (l.drop p)/\QV o (l.drop p)<56320/\56320<=QV o (l.drop (p+2))/\QV o (l.drop (p+2))<57344 then (65536+(QV o (l.drop p)-55296)*1024+QV o (l.drop (p+2))-56320,4) else (QV o (l.drop p),2):=by
   unfold QhM
   rw[b,List.drop_drop]
  have v:=fun(w':World) (i:ZB w w')=>Qfg o D (some s) N c p l w' y (Reads.below q i) h B (by omega)
  have g:=fun(w':World) (i:ZB w w')=>Qfg o D (some s) N c (p+2) l w' y (Reads.below q i) h B (by omega)
  obtain⟨U,C⟩:∃x,QV o (l.drop p)=x:=⟨_,rfl⟩
  obtain⟨V,F⟩:∃x,QV o (l.drop (p+2))=x:=⟨_,rfl⟩
  rw[C] at v r J
  rw[F] at g r H
  have E:=Zh r
  have O:=Zh v
  have I:=Zh g
  clear r v g C F n b
  have j:=fun(w':World) (i:ZB w w')=>Qh i c0
  have L:=Zh j
  clear c0 j
  have G:((p+2:Nat):Int)=(p:Int)+2:=by omega
  have HS:=Zh G
  clear G
  rcases y with rfl|rfl
  all_goals
   go_enter Tryz.func176,Tryz.ntmps176
   go_wp2_with fail
   refine(O.out _ (Below.refl _ _)).mono ?_
   rintro e w1 ⟨rfl,d⟩
   by_cases h1:U<0
   ·have c1:=L.out w1 d
    go_wp2_with fail
    go_ret2
    exact⟨by rw[E.out,if_pos h1];rfl,d⟩
   ·go_wp2_with fail
    have g:=I.out w1 d
    rw[HS.out] at g
    refine(g).mono ?_
    rintro e P ⟨rfl,u⟩
    clear g
    go_wp2_with fail
    all_goals
     go_light
     go_ret2
     refine⟨?_,Qf d u⟩
     rw[E.out,if_neg (by omega)]
     first
     |(rw[if_pos (by omega)];rfl)
     |(rw[if_neg (by omega)];rfl)
 rcases M with rfl|rfl|rfl|rfl
 ·have t:=Qhz D (some s) N c p l w q h B hp
  have k:QiG 1 (l.drop p)=QlJ (l.drop p):=rfl
  rw[k]
  obtain⟨a,z,m⟩:∃a z,QlJ (l.drop p)=(a,z):=⟨_,_,rfl⟩
  rw[m] at t ⊢
  have K:=Zh t
  clear t m k c0 n b f
  go_enter Tryz.func176,Tryz.ntmps176
  go_wp2_with fail
  refine(K.out).mono ?_
  rintro e w1 ⟨rfl,d⟩
  go_wp2_with fail
  go_ret2
  exact⟨rfl,d⟩
 ·exact f 0 (.inl rfl)
 ·exact f 1 (.inr rfl)
 ·have k:QiG 4 (l.drop p)=(x,1):=by unfold QiG;rw[b];rfl
  rw[k]
  clear k n b f
  go_enter Tryz.func176,Tryz.ntmps176
  go_wp2_with fail
  go_ret2
  exact⟨rfl,Below.refl _ _⟩
theorem Qlj (enc:Int)(w:World):Calls Tryz.prog 175 #[.int .i64 enc] w fun e w'=>e=.returned (.bool (decide (1<=enc/\enc<=4)))/\w=w':=by
 go_enter Tryz.func175,Tryz.ntmps175
 go_wp2
 all_goals
  go_light
  go_ret
  refine⟨Qb3 ?_,rfl⟩
  rw[Bool.eq_iff_iff]
  simp
  (try omega)
theorem Qmq (enc:Int)(D:Nat->Prop)(A:Option Addr)(N c p:Nat)(l:List Int)(w:World)(g:enc=1\/enc=2\/enc=3\/enc=4)(b:Bts w D A N l)(h:Byt l)(r:N<=2147483648)(j:N<=c)(hp:p<N) :
  Calls Tryz.prog 165 #[.int .i64 enc,.slice A N c,.int .i64 (p:Int)] w fun e w'=>e=.returned (.tuple #[.int .i64 (Qa8 enc (l.drop p)),.int .i64 (QB enc (l.drop p))])/\ZB w w':=by
 have m:=b.len
 have hcut:=Reads.cut b (Nat.le_of_lt hp) j
 rw[if_neg (by omega),Nat.mul_one,<-List.map_drop] at hcut
 obtain⟨o,rfl,_,c0⟩:=b.at_ hp
 have a:=fun(w':World) (i:ZB w w')=>Qro enc D (some (o.add p)) (N-p) (c-p) 0 (l.drop p) w' g (Reads.below hcut i) (h.drop _) (by omega) (by omega)
 rw[List.drop_zero,Qoz g (h.drop p) (by rw[List.length_drop];omega)] at a
 have f:=Qlj enc w
 rw[show decide (1<=enc/\enc<=4)=true by rw[decide_eq_true_eq];omega] at f
 have n:=Zh f
 have k:=Zh a
 have u : ¬c=p:=by omega
 have t:(0:Int)<=(p:Int):=by omega
 have s:(p:Int)<=(N:Int):=by omega
 have q:(p:Int)<=(c:Int):=by omega
 clear f a hcut c0 g
 go_enter Tryz.func165,Tryz.ntmps165
 go_wp2_with fail
 refine(n.out).mono ?_
 rintro e w1 ⟨rfl,rfl⟩
 go_wp2_with fail
 refine(k.out _ (Below.refl _ _)).mono ?_
 rintro e w1 ⟨rfl,d⟩
 go_wp2_with fail
 go_ret2
 exact⟨rfl,d⟩
end Go.Proofs.YtgiihhikdoikgaaGreat
