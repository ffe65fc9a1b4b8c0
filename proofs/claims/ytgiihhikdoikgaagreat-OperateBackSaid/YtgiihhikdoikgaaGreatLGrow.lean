/-
  The walks of package tree at the pieces, ninth part: lists that may lie in a tree; of, with them. The walks of package tree at the pieces: even.
-/
import Derived.Test.YtgiihhikdoikgaaGreatLTree8
import Derived.Test.YtgiihhikdoikgaaGreatLHeavy
set_option linter.unusedSimpArgs false
set_option linter.unusedVariables false
set_option maxRecDepth 100000
set_option maxHeartbeats 32000000
namespace Go.Proofs.YtgiihhikdoikgaaGreat
open Go.RowKit
structure LstOk (ls:List Pc):Prop where
 good:AllGood ls
 tot:Qbl ls<=2147483648
 len:ls.length<=1073741824
theorem AllGood.left {a b:List Pc}(h:AllGood (a++b)):AllGood a:=fun p hp=>h p (List.mem_append_left _ hp)
theorem AllGood.right {a b:List Pc}(h:AllGood (a++b)):AllGood b:=fun p hp=>h p (List.mem_append_right _ hp)
theorem LstOk.left {a b:List Pc}(h:LstOk (a++b)):LstOk a:=by
 have h1:=Qby a b
 have h2:=Q7 h.good.right
 have d:=h.tot
 have c:=h.len
 rw[List.length_append] at c
 exact⟨h.good.left,by omega,by omega⟩
theorem LstOk.right {a b:List Pc}(h:LstOk (a++b)):LstOk b:=by
 have h1:=Qby a b
 have h2:=Q7 h.good.left
 have d:=h.tot
 have c:=h.len
 rw[List.length_append] at c
 exact⟨h.good.right,by omega,by omega⟩
theorem LstOk.tail {x:Pc}{b:List Pc}(h:LstOk (x::b)):LstOk b:=LstOk.right (a:=[x]) h
theorem LstOk.sum {t:Tr}(h:LstOk t.list):t.sum.ok:=by
 obtain⟨h1,h2⟩:=Tr.sum_good t h.good
 exact h1.ok (by rw[h2];exact h.tot)
def Qkr (ls:List Pc)(w:World)(e:Ending)(w':World):Prop:=∃t a,e=.returned (.pointer a)/\NodeAt w' t a/\t.list=ls/\ZB w w'
theorem Qfp (l r:Tr)(al ar:Option Addr)(x:Pc)(w:World)(j:NodeAt w l al)(i:NodeAt w r ar)(h:LstOk (l.list++x::r.list)) :
  Calls Tryz.prog 177 #[.pointer al,.agg x.cells,.pointer ar] w fun e w'=>Qkr (l.list++x::r.list) w e w':=by
 have h1:=h.left
 have h2:=h.right
 have f:=h2.good x (by simp)
 have b:=h2.tail
 have c:x.sum.bytes<=2147483648:=by
  have:=QaI x r.list
  have:=Q7 b.good
  have:=h2.tot
  omega
 obtain⟨k,m⟩:=QfB l x h1.good f
 have d:Qbl l.list+x.sum.bytes<=2147483648:=by
  have p:=Qby l.list (x::r.list)
  have q:=QaI x r.list
  have n:=Q7 b.good
  have o:=h.tot
  omega
 refine(Qnt l r al ar x w j i (Tr.small_of h1.len) (Tr.small_of b.len) (f.ok c) h1.sum b.sum (k.ok (by rw[m];exact d))).mono ?_
 rintro e w' ⟨a,rfl,hn,g⟩
 exact⟨_,a,rfl,hn,rfl,g⟩
def TrOut (ls:List Pc)(W:World)(v:Value)(w':World):Prop:=∃t a,v=.pointer a/\NodeAt w' t a/\t.list=ls/\ZB W w'
theorem TrOut.bel {ls:List Pc}{W w':World}{v:Value}(h:TrOut ls W v w'):ZB W w':=by obtain⟨_,_,_,_,_,h⟩:=h;exact h
theorem TrOut.out {ls:List Pc}{W w':World}{a:Option Addr}(h:TrOut ls W (.pointer a) w'):∃t,NodeAt w' t a/\t.list=ls/\ZB W w':=by
 obtain⟨t,c,e,h1,h2,b⟩:=h
 injection e with e
 subst e
 exact⟨t,h1,h2,b⟩
def TrOut2 (la lb:List Pc)(a:Option Addr)(W:World)(v:Value)(w':World):Prop:=(∃t,NodeAt w' t a/\t.list=la)/\TrOut lb W v w'
def NodeC (w:World)(b:Nat)(al ar:Option Addr)(x:Pc):Prop:=w.cell? ⟨b,0,none⟩=some (.pointer al)/\w.cell? ⟨b,1,none⟩=some (.pointer ar) /\
  w.cell? ⟨b,2,none⟩=some (.slice x.A x.n x.c)/\w.cell? ⟨b,3,none⟩=some (.int .i64 x.tag)/\w.cell? ⟨b,4,none⟩=some (.int .i64 x.sum.atoms)/\w.cell? ⟨b,5,none⟩=some (.int .i64 x.sum.bytes) /\
  w.cell? ⟨b,6,none⟩=some (.int .i64 x.sum.breaks)/\w.cell? ⟨b,7,none⟩=some (.bool x.sum.lf)/\w.cell? ⟨b,8,none⟩=some (.bool x.sum.cr)
def BoxC (w:World)(b:Nat)(x:Pc):Prop :=
  w.cell? ⟨b,0,none⟩=some (.slice x.A x.n x.c)/\w.cell? ⟨b,1,none⟩=some (.int .i64 x.tag)/\w.cell? ⟨b,2,none⟩=some (.int .i64 x.sum.atoms)/\w.cell? ⟨b,3,none⟩=some (.int .i64 x.sum.bytes) /\
  w.cell? ⟨b,4,none⟩=some (.int .i64 x.sum.breaks)/\w.cell? ⟨b,5,none⟩=some (.bool x.sum.lf)/\w.cell? ⟨b,6,none⟩=some (.bool x.sum.cr)
theorem NodeC.of {w w':World}{b:Nat}{al ar:Option Addr}{x:Pc}{sz tl:Int}{s:Sums}(h:Blk w b 147 (Qef al ar x sz tl s))(a:ZB w w'):NodeC w' b al ar x:=by
 have h:=h.below a
 exact⟨h.cell 0,h.cell 1,h.cell 2,h.cell 3,h.cell 4,h.cell 5,h.cell 6,h.cell 7,h.cell 8⟩
theorem BoxC.of {w w':World}{b:Nat}{x:Pc}(h:Blk w b 107 x.cells)(a:ZB w w'):BoxC w' b x:=by
 have h:=h.below a
 exact⟨h.cell 0,h.cell 1,h.cell 2,h.cell 3,h.cell 4,h.cell 5,h.cell 6⟩
theorem QfS {l r:Tr}{al ar:Option Addr}{x:Pc}{W w:World}(b:ZB W w)(d:NodeAt w l al)(c:NodeAt w r ar)(h:LstOk (l.list++x::r.list)) :
  Calls Tryz.prog 177 #[.pointer al,.agg x.cells,.pointer ar] w fun e w'=>∃v,e=.returned v/\TrOut (l.list++x::r.list) W v w':=by
 refine(Qfp l r al ar x w d c h).mono ?_
 rintro e w' ⟨t,a,rfl,h1,h2,f⟩
 exact⟨_,rfl,t,a,rfl,h1,h2,Qf b f⟩
theorem QdY {t:Tr}{a:Option Addr}{W w:World}(b:ZB W w)(h:NodeAt w t a) :
  Calls Tryz.prog 187 #[.pointer a] w fun e w'=>e=.returned (.int .i64 t.tall)/\ZB W w':=by
 refine(QbX t a w h).mono ?_
 rintro e w' ⟨rfl,rfl⟩
 exact⟨rfl,b⟩
theorem TrOut2.of {la:List Pc}{a:Option Addr}{l r:Tr}{al ar:Option Addr}{x:Pc}{W w:World}(j:TrOut la W (.pointer a) w)(i:NodeAt w l al)(g:NodeAt w r ar)(h:LstOk (l.list++x::r.list)) :
  Calls Tryz.prog 177 #[.pointer al,.agg x.cells,.pointer ar] w fun e w'=>∃v,e=.returned v/\TrOut2 la (l.list++x::r.list) a W v w':=by
 obtain⟨t,hn,b,d⟩:=j.out
 refine(Qfp l r al ar x w i g h).mono ?_
 rintro e w' ⟨k,f,rfl,h1,h2,c⟩
 exact⟨_,rfl,⟨t,NodeAt.below c _ _ hn,b⟩,k,f,rfl,h1,h2,Qf d c⟩
theorem Qm9 {la lb:List Pc}{a b:Option Addr}{x:Pc}{W w:World}(f:TrOut2 la lb a W (.pointer b) w)(h:LstOk (la++x::lb)) :
  Calls Tryz.prog 177 #[.pointer a,.agg x.cells,.pointer b] w fun e w'=>∃v,e=.returned v/\TrOut (la++x::lb) W v w':=by
 obtain⟨⟨t,hn,rfl⟩,h2⟩:=f
 obtain⟨g,c,rfl,d⟩:=h2.out
 exact QfS d hn c h
theorem Qok (l r:Tr)(al ar:Option Addr)(x:Pc)(w:World)(hl:NodeAt w l al)(hr:NodeAt w r ar)(h:LstOk (l.list++x::r.list)) :
  Calls Tryz.prog 195 #[.pointer al,.agg x.cells,.pointer ar] w fun e w'=>Qkr (l.list++x::r.list) w e w':=by
 have a1:=Blk.new w 107 x.cells
 have hW:ZB w (w.alloc (.cells x.cells 107)):=Qa (Below.refl _ w)
 have H:=NodeAt.below hW l al hl
 have L:=NodeAt.below hW r ar hr
 have sl:=Tr.small_of h.left.len
 have sr:=Tr.small_of h.right.tail.len
 obtain⟨W,a3⟩:=ZN (w.alloc (.cells x.cells 107))
 rw[a3] at a1 hW H L
 simp only[Pc.cells,Qx] at a3
 have fx:=fun(w':World) (i:ZB W w')=>BoxC.of a1 i
 have Y:=Zh a3
 have FX:=Zh fx
 clear a3 hl hr fx a1
 obtain⟨tl,S⟩:∃n,l.tall=n:=⟨_,rfl⟩
 obtain⟨tr,P⟩:∃n,r.tall=n:=⟨_,rfl⟩
 have kl:=QbX l al W H
 have kr:=QbX r ar W L
 rw[S] at kl
 rw[P] at kr
 obtain⟨_,_,l3,l4⟩:=sl
 obtain⟨_,_,r3,r4⟩:=sr
 rw[S] at l3 l4
 rw[P] at r3 r4
 have KL:=Zh kl
 have KR:=Zh kr
 clear kl kr
 by_cases h1:tr+1<tl
 ·cases l with
  |nil=>exfalso;simp only[Tr.tall] at S;omega
  |node ll lx lr=>
   obtain⟨b,b3,b0,rfl,D,R,Q⟩:=H
   have fn:=fun(w':World) (i:ZB W w')=>NodeC.of D i
   have FN:=Zh fn
   have HL:=Zh R
   have HR:=Zh Q
   have T:=Zh L
   have g:(Tr.node ll lx lr).list++x::r.list=ll.list++lx::(lr.list++x::r.list):=by simp[Tr.list]
   obtain⟨tfar,a0⟩:∃n,ll.tall=n:=⟨_,rfl⟩
   obtain⟨tnear,A⟩:∃n,lr.tall=n:=⟨_,rfl⟩
   have e0:=(Tr.tall_le ll).1
   have e1:=(Tr.tall_le lr).1
   have kf:=fun(w':World) (i:ZB W w')=>QdY i (NodeAt.below i ll b3 R)
   have kn:=fun(w':World) (i:ZB W w')=>QdY i (NodeAt.below i lr b0 Q)
   rw[a0] at kf e0
   rw[A] at kn e1
   have KF:=Zh kf
   have KN:=Zh kn
   have B:=Zh g
   have b4:=Zh A
   have V:LstOk (ll.list++lx::(lr.list++x::r.list)):=by rw[<-g];exact h
   have O:=Zh V
   clear g V L h kf kn a0 fn S P D
   have g1:(tr+1<tl)=True:=by simp;omega
   by_cases h3:tnear<=tfar
   ·have g2:(tnear<=tfar)=True:=by simp;omega
    clear h3 A
    simp only[Pc.cells,Qx]
    go_enter Tryz.func195,Tryz.ntmps195
    go_wp2_with fail
    rw[Y.out]
    refine(KL.out).mono ?_
    rintro e w1 ⟨rfl,rfl⟩
    go_wp2_with fail
    refine(KR.out).mono ?_
    rintro e w1 ⟨rfl,rfl⟩
    go_wp2_with fail
    refine Qg (fun w'=>ZB W w') (fun w'=>ZB W w') (fun k=>k==4 || k==9) (fun _=>false) (fun _=>false) (by kernel_rfl) (by kernel_rfl) (Below.drew (Below.refl _ _)) (fun _ h=>h) ?_
    repeat ((first
     |(refine Qc (v:=?_) (by rfl) (by rfl) (fun w6 hSw=>?_) ?_;rotate_left;(·(obtain⟨p,n1,n2,o,s,j,u,m,q⟩:=FN.out _ hSw;go_simp;try with_reducible rfl)))
     |(refine Qd (v:=?_) (by rfl) (fun w6=>?_) ?_;rotate_left;(·(go_simp;try with_reducible rfl)))
     |refine Qe (by rfl) ?_);(try simp only[Act.put,pA,pB,pC]))
    refine QW (f:=?_) (args:=?_) (v:=.int .i64 tfar) (by rfl) (by rfl) (fun w6 hSw=>?_) (fun _ h=>h) (fun w6 hSw=>?_) ?_
    rotate_left 2
    ·(skip;go_simp;first|done|(constructor<;>with_reducible rfl)|with_reducible rfl)
    ·(exact KF.out _ hSw)
    (try simp only[Act.put,pA,pB,pC])
    repeat ((first
     |(refine Qc (v:=?_) (by rfl) (by rfl) (fun w6 hSw=>?_) ?_;rotate_left;(·(obtain⟨p,n1,n2,o,s,j,u,m,q⟩:=FN.out _ hSw;go_simp;try with_reducible rfl)))
     |(refine Qd (v:=?_) (by rfl) (fun w6=>?_) ?_;rotate_left;(·(go_simp;try with_reducible rfl)))
     |refine Qe (by rfl) ?_);(try simp only[Act.put,pA,pB,pC]))
    refine QW (f:=?_) (args:=?_) (v:=.int .i64 tnear) (by rfl) (by rfl) (fun w6 hSw=>?_) (fun _ h=>h) (fun w6 hSw=>?_) ?_
    rotate_left 2
    ·(skip;go_simp;first|done|(constructor<;>with_reducible rfl)|with_reducible rfl)
    ·(exact KN.out _ hSw)
    (try simp only[Act.put,pA,pB,pC])
    repeat ((first
     |(refine Qc (v:=?_) (by rfl) (by rfl) (fun w6 hSw=>?_) ?_;rotate_left;(·(obtain⟨p,n1,n2,o,s,j,u,m,q⟩:=FN.out _ hSw;go_simp;try with_reducible rfl)))
     |(refine Qd (v:=?_) (by rfl) (fun w6=>?_) ?_;rotate_left;(·(go_simp;try with_reducible rfl)))
     |refine Qe (by rfl) ?_);(try simp only[Act.put,pA,pB,pC]))
    refine Qu ?_
    intro w2 y
    go_wp2_with fail
    refine Qg (fun w'=>ZB W w') (fun w'=>ZB W w') (fun k=>k==14 || k==15) (fun _=>false) (fun _=>false) (by kernel_rfl) (by kernel_rfl) (Below.drew y) (fun _ h=>h) ?_
    repeat ((first
     |(refine Qc (v:=?_) (by rfl) (by rfl) (fun w6 hSw=>?_) ?_;rotate_left;(·(obtain⟨p,n1,n2,o,s,j,u,m,q⟩:=FN.out _ hSw;obtain⟨x0,x1,x2,x3,x4,x5,x6⟩:=FX.out _ hSw;go_simp;try with_reducible rfl)))
     |(refine Qd (v:=?_) (by rfl) (fun w6=>?_) ?_;rotate_left;(·(go_simp;try with_reducible rfl)))
     |refine Qe (by rfl) ?_);(try simp only[Act.put,pA,pB,pC]))
    refine Qn (f:=?_) (args:=?_) (TrOut (lr.list++x::r.list) W) (by rfl) (by rfl) (fun w6 hSw=>?_) (fun w6 hSw=>?_) (.inr (fun v6 w6 hT6=>?_)) (fun v6 hv6=>?_)
    rotate_left 2
    ·(skip;go_simp;first|done|(constructor<;>with_reducible rfl)|with_reducible rfl)
    ·(exact QfS hSw (NodeAt.below hSw _ _ HR.out) (NodeAt.below hSw _ _ T.out) O.out.right.tail)
    ·(exact hT6.bel)
    obtain⟨w7,t7,a7,rfl,J⟩:=hv6;clear J
    (try simp only[Act.put,pA,pB,pC])
    repeat ((first
     |(refine Qc (v:=?_) (by rfl) (by rfl) (fun w6 hSw=>?_) ?_;rotate_left;(·(obtain⟨p,n1,n2,o,s,j,u,m,q⟩:=FN.out _ hSw;go_simp;try with_reducible rfl)))
     |(refine Qd (v:=?_) (by rfl) (fun w6=>?_) ?_;rotate_left;(·(go_simp;try with_reducible rfl)))
     |refine Qe (by rfl) ?_);(try simp only[Act.put,pA,pB,pC]))
    refine Qn (f:=?_) (args:=?_) (TrOut (ll.list++lx::(lr.list++x::r.list)) W) (by rfl) (by rfl) (fun w6 hSw=>?_) (fun w6 hSw=>?_) (.inr (fun v6 w6 hT6=>?_)) (fun v6 hv6=>?_)
    rotate_left 2
    ·(skip;go_simp;first|done|(constructor<;>with_reducible rfl)|with_reducible rfl)
    ·(obtain⟨t8,a4,U,a2⟩:=hSw.out;(have:=QfS a2 (NodeAt.below a2 _ _ HL.out) a4 (x:=lx) (by rw[U];exact O.out));rw[U] at this;exact this)
    ·(exact hT6.bel)
    obtain⟨w8,t8,a8,rfl,M⟩:=hv6;clear M
    (try simp only[Act.put,pA,pB,pC])
    repeat ((first
     |(refine Qc (v:=?_) (by rfl) (by rfl) (fun w6 hSw=>?_) ?_;rotate_left;(·(skip;go_simp;try with_reducible rfl)))
     |(refine Qd (v:=?_) (by rfl) (fun w6=>?_) ?_;rotate_left;(·(go_simp;try with_reducible rfl)))
     |refine Qe (by rfl) ?_);(try simp only[Act.put,pA,pB,pC]))
    refine Qu ?_
    intro w3 I
    obtain⟨t9,N,K,G⟩:=I.out
    go_wp2_with fail
    go_ret
    rw[B.out]
    exact⟨t9,_,rfl,N,K,Qf hW G⟩
   ·have g2:(tnear<=tfar)=False:=by simp;omega
    cases lr with
    |nil=>exfalso;simp only[Tr.tall] at A;omega
    |node ml mx mr=>
     obtain⟨c,cl,cr,rfl,E,Z,X⟩:=Q
     have fm:=fun(w':World) (i:ZB W w')=>NodeC.of E i
     have FM:=Zh fm
     have a6:=Zh Z
     have a5:=Zh X
     have d:ll.list++lx::((Tr.node ml mx mr).list++x::r.list)=(ll.list++lx::ml.list)++mx::(mr.list++x::r.list):=by simp[Tr.list]
     have C:=Zh d
     have F:LstOk ((ll.list++lx::ml.list)++mx::(mr.list++x::r.list)):=by rw[<-d];exact O.out
     have z:=Zh F
     clear h3 A fm E Z X d F
     simp only[Pc.cells,Qx]
     go_enter Tryz.func195,Tryz.ntmps195
     go_wp2_with fail
     rw[Y.out]
     refine(KL.out).mono ?_
     rintro e w1 ⟨rfl,rfl⟩
     go_wp2_with fail
     refine(KR.out).mono ?_
     rintro e w1 ⟨rfl,rfl⟩
     go_wp2_with fail
     refine Qg (fun w'=>ZB W w') (fun w'=>ZB W w') (fun k=>k==4 || k==9) (fun _=>false) (fun _=>false) (by kernel_rfl) (by kernel_rfl) (Below.drew (Below.refl _ _)) (fun _ h=>h) ?_
     repeat ((first
      |(refine Qc (v:=?_) (by rfl) (by rfl) (fun w6 hSw=>?_) ?_;rotate_left;(·(obtain⟨p,n1,n2,o,s,j,u,m,q⟩:=FN.out _ hSw;go_simp;try with_reducible rfl)))
      |(refine Qd (v:=?_) (by rfl) (fun w6=>?_) ?_;rotate_left;(·(go_simp;try with_reducible rfl)))
      |refine Qe (by rfl) ?_);(try simp only[Act.put,pA,pB,pC]))
     refine QW (f:=?_) (args:=?_) (v:=.int .i64 tfar) (by rfl) (by rfl) (fun w6 hSw=>?_) (fun _ h=>h) (fun w6 hSw=>?_) ?_
     rotate_left 2
     ·(skip;go_simp;first|done|(constructor<;>with_reducible rfl)|with_reducible rfl)
     ·(exact KF.out _ hSw)
     (try simp only[Act.put,pA,pB,pC])
     repeat ((first
      |(refine Qc (v:=?_) (by rfl) (by rfl) (fun w6 hSw=>?_) ?_;rotate_left;(·(obtain⟨p,n1,n2,o,s,j,u,m,q⟩:=FN.out _ hSw;go_simp;try with_reducible rfl)))
      |(refine Qd (v:=?_) (by rfl) (fun w6=>?_) ?_;rotate_left;(·(go_simp;try with_reducible rfl)))
      |refine Qe (by rfl) ?_);(try simp only[Act.put,pA,pB,pC]))
     refine QW (f:=?_) (args:=?_) (v:=.int .i64 tnear) (by rfl) (by rfl) (fun w6 hSw=>?_) (fun _ h=>h) (fun w6 hSw=>?_) ?_
     rotate_left 2
     ·(skip;go_simp;first|done|(constructor<;>with_reducible rfl)|with_reducible rfl)
     ·(exact KN.out _ hSw)
     (try simp only[Act.put,pA,pB,pC])
     repeat ((first
      |(refine Qc (v:=?_) (by rfl) (by rfl) (fun w6 hSw=>?_) ?_;rotate_left;(·(obtain⟨p,n1,n2,o,s,j,u,m,q⟩:=FN.out _ hSw;go_simp;try with_reducible rfl)))
      |(refine Qd (v:=?_) (by rfl) (fun w6=>?_) ?_;rotate_left;(·(go_simp;try with_reducible rfl)))
      |refine Qe (by rfl) ?_);(try simp only[Act.put,pA,pB,pC]))
     refine Qu ?_
     intro w2 y
     obtain⟨p,n1,n2,o,s,j,u,m,q⟩:=FN.out _ y
     obtain⟨m0,m1,m2,m3,m4,m5,m6,m7,m8⟩:=FM.out _ y
     go_wp2_with fail
     clear p n1 n2 o s j u m q m0 m1 m2 m3 m4 m5 m6 m7 m8
     refine Qg (fun w'=>ZB W w') (fun w'=>ZB W w') (fun k=>k==12 || k==23 || k==24) (fun _=>false) (fun _=>false) (by kernel_rfl) (by kernel_rfl) (Below.drew y) (fun _ h=>h) ?_
     repeat ((first
      |(refine Qc (v:=?_) (by rfl) (by rfl) (fun w6 hSw=>?_) ?_;rotate_left;(·(obtain⟨p,n1,n2,o,s,j,u,m,q⟩:=FN.out _ hSw;obtain⟨m0,m1,m2,m3,m4,m5,m6,m7,m8⟩:=FM.out _ hSw;obtain⟨x0,x1,x2,x3,x4,x5,x6⟩:=FX.out _ hSw;go_simp;try with_reducible rfl)))
      |(refine Qd (v:=?_) (by rfl) (fun w6=>?_) ?_;rotate_left;(·(go_simp;try with_reducible rfl)))
      |refine Qe (by rfl) ?_);(try simp only[Act.put,pA,pB,pC]))
     refine Qn (f:=?_) (args:=?_) (TrOut (ll.list++lx::ml.list) W) (by rfl) (by rfl) (fun w6 hSw=>?_) (fun w6 hSw=>?_) (.inr (fun v6 w6 hT6=>?_)) (fun v6 hv6=>?_)
     rotate_left 2
     ·(skip;go_simp;first|done|(constructor<;>with_reducible rfl)|with_reducible rfl)
     ·(exact QfS hSw (NodeAt.below hSw _ _ HL.out) (NodeAt.below hSw _ _ a6.out) z.out.left)
     ·(exact hT6.bel)
     obtain⟨w7,t7,a7,rfl,J⟩:=hv6;clear J
     (try simp only[Act.put,pA,pB,pC])
     repeat ((first
      |(refine Qc (v:=?_) (by rfl) (by rfl) (fun w6 hSw=>?_) ?_;rotate_left;(·(obtain⟨p,n1,n2,o,s,j,u,m,q⟩:=FN.out _ hSw;obtain⟨m0,m1,m2,m3,m4,m5,m6,m7,m8⟩:=FM.out _ hSw;obtain⟨x0,x1,x2,x3,x4,x5,x6⟩:=FX.out _ hSw;go_simp;try with_reducible rfl)))
      |(refine Qd (v:=?_) (by rfl) (fun w6=>?_) ?_;rotate_left;(·(go_simp;try with_reducible rfl)))
      |refine Qe (by rfl) ?_);(try simp only[Act.put,pA,pB,pC]))
     refine Qn (f:=?_) (args:=?_) (TrOut2 (ll.list++lx::ml.list) (mr.list++x::r.list) a7 W) (by rfl) (by rfl) (fun w6 hSw=>?_) (fun w6 hSw=>?_) (.inr (fun v6 w6 hT6=>?_)) (fun v6 hv6=>?_)
     rotate_left 2
     ·(skip;go_simp;first|done|(constructor<;>with_reducible rfl)|with_reducible rfl)
     ·(exact TrOut2.of hSw (NodeAt.below hSw.bel _ _ a5.out) (NodeAt.below hSw.bel _ _ T.out) z.out.right.tail)
     ·(exact hT6.2.bel)
     obtain⟨w8,b1,t8,a8,rfl,M⟩:=hv6;clear M b1
     (try simp only[Act.put,pA,pB,pC])
     repeat ((first
      |(refine Qc (v:=?_) (by rfl) (by rfl) (fun w6 hSw=>?_) ?_;rotate_left;(·(obtain⟨p,n1,n2,o,s,j,u,m,q⟩:=FN.out _ hSw;obtain⟨m0,m1,m2,m3,m4,m5,m6,m7,m8⟩:=FM.out _ hSw;obtain⟨x0,x1,x2,x3,x4,x5,x6⟩:=FX.out _ hSw;go_simp;try with_reducible rfl)))
      |(refine Qd (v:=?_) (by rfl) (fun w6=>?_) ?_;rotate_left;(·(go_simp;try with_reducible rfl)))
      |refine Qe (by rfl) ?_);(try simp only[Act.put,pA,pB,pC]))
     refine Qn (f:=?_) (args:=?_) (TrOut ((ll.list++lx::ml.list)++mx::(mr.list++x::r.list)) W) (by rfl) (by rfl) (fun w6 hSw=>?_) (fun w6 hSw=>?_) (.inr (fun v6 w6 hT6=>?_)) (fun v6 hv6=>?_)
     rotate_left 2
     ·(skip;go_simp;first|done|(constructor<;>with_reducible rfl)|with_reducible rfl)
     ·(exact Qm9 hSw z.out)
     ·(exact hT6.bel)
     obtain⟨w9,t9,a9,rfl,b2⟩:=hv6;clear b2
     (try simp only[Act.put,pA,pB,pC])
     repeat ((first
      |(refine Qc (v:=?_) (by rfl) (by rfl) (fun w6 hSw=>?_) ?_;rotate_left;(·(skip;go_simp;try with_reducible rfl)))
      |(refine Qd (v:=?_) (by rfl) (fun w6=>?_) ?_;rotate_left;(·(go_simp;try with_reducible rfl)))
      |refine Qe (by rfl) ?_);(try simp only[Act.put,pA,pB,pC]))
     refine Qu ?_
     intro w3 I
     obtain⟨t9,N,K,G⟩:=I.out
     go_wp2_with fail
     go_ret
     rw[B.out,C.out]
     exact⟨t9,_,rfl,N,K,Qf hW G⟩
 ·by_cases h2:tl+1<tr
  ·cases r with
   |nil=>exfalso;simp only[Tr.tall] at P;omega
   |node ll lx lr=>
    obtain⟨b,b3,b0,rfl,D,R,Q⟩:=L
    have fn:=fun(w':World) (i:ZB W w')=>NodeC.of D i
    have FN:=Zh fn
    have HL:=Zh R
    have HR:=Zh Q
    have T:=Zh H
    have g:l.list++x::(Tr.node ll lx lr).list=(l.list++x::ll.list)++lx::lr.list:=by simp[Tr.list]
    obtain⟨tfar,a0⟩:∃n,lr.tall=n:=⟨_,rfl⟩
    obtain⟨tnear,A⟩:∃n,ll.tall=n:=⟨_,rfl⟩
    have e0:=(Tr.tall_le lr).1
    have e1:=(Tr.tall_le ll).1
    have kf:=fun(w':World) (i:ZB W w')=>QdY i (NodeAt.below i lr b0 Q)
    have kn:=fun(w':World) (i:ZB W w')=>QdY i (NodeAt.below i ll b3 R)
    rw[a0] at kf e0
    rw[A] at kn e1
    have KF:=Zh kf
    have KN:=Zh kn
    have B:=Zh g
    have b4:=Zh A
    have V:LstOk ((l.list++x::ll.list)++lx::lr.list):=by rw[<-g];exact h
    have O:=Zh V
    clear g V H h kf kn a0 fn S P D
    have g1:(tr+1<tl)=False:=by simp;omega
    have g3:(tl+1<tr)=True:=by simp;omega
    by_cases h3:tnear<=tfar
    ·have g2:(tnear<=tfar)=True:=by simp;omega
     clear h3 A
     simp only[Pc.cells,Qx]
     go_enter Tryz.func195,Tryz.ntmps195
     go_wp2_with fail
     rw[Y.out]
     refine(KL.out).mono ?_
     rintro e w1 ⟨rfl,rfl⟩
     go_wp2_with fail
     refine(KR.out).mono ?_
     rintro e w1 ⟨rfl,rfl⟩
     go_wp2_with fail
     refine(KR.out).mono ?_
     rintro e w1 ⟨rfl,rfl⟩
     go_wp2_with fail
     refine(KL.out).mono ?_
     rintro e w1 ⟨rfl,rfl⟩
     go_wp2_with fail
     refine Qg (fun w'=>ZB W w') (fun w'=>ZB W w') (fun k=>k==4 || k==9) (fun _=>false) (fun _=>false) (by kernel_rfl) (by kernel_rfl) (Below.drew (Below.refl _ _)) (fun _ h=>h) ?_
     repeat ((first
      |(refine Qc (v:=?_) (by rfl) (by rfl) (fun w6 hSw=>?_) ?_;rotate_left;(·(obtain⟨p,n1,n2,o,s,j,u,m,q⟩:=FN.out _ hSw;go_simp;try with_reducible rfl)))
      |(refine Qd (v:=?_) (by rfl) (fun w6=>?_) ?_;rotate_left;(·(go_simp;try with_reducible rfl)))
      |refine Qe (by rfl) ?_);(try simp only[Act.put,pA,pB,pC]))
     refine QW (f:=?_) (args:=?_) (v:=.int .i64 tfar) (by rfl) (by rfl) (fun w6 hSw=>?_) (fun _ h=>h) (fun w6 hSw=>?_) ?_
     rotate_left 2
     ·(skip;go_simp;first|done|(constructor<;>with_reducible rfl)|with_reducible rfl)
     ·(exact KF.out _ hSw)
     (try simp only[Act.put,pA,pB,pC])
     repeat ((first
      |(refine Qc (v:=?_) (by rfl) (by rfl) (fun w6 hSw=>?_) ?_;rotate_left;(·(obtain⟨p,n1,n2,o,s,j,u,m,q⟩:=FN.out _ hSw;go_simp;try with_reducible rfl)))
      |(refine Qd (v:=?_) (by rfl) (fun w6=>?_) ?_;rotate_left;(·(go_simp;try with_reducible rfl)))
      |refine Qe (by rfl) ?_);(try simp only[Act.put,pA,pB,pC]))
     refine QW (f:=?_) (args:=?_) (v:=.int .i64 tnear) (by rfl) (by rfl) (fun w6 hSw=>?_) (fun _ h=>h) (fun w6 hSw=>?_) ?_
     rotate_left 2
     ·(skip;go_simp;first|done|(constructor<;>with_reducible rfl)|with_reducible rfl)
     ·(exact KN.out _ hSw)
     (try simp only[Act.put,pA,pB,pC])
     repeat ((first
      |(refine Qc (v:=?_) (by rfl) (by rfl) (fun w6 hSw=>?_) ?_;rotate_left;(·(obtain⟨p,n1,n2,o,s,j,u,m,q⟩:=FN.out _ hSw;go_simp;try with_reducible rfl)))
      |(refine Qd (v:=?_) (by rfl) (fun w6=>?_) ?_;rotate_left;(·(go_simp;try with_reducible rfl)))
      |refine Qe (by rfl) ?_);(try simp only[Act.put,pA,pB,pC]))
     refine Qu ?_
     intro w2 y
     go_wp2_with fail
     refine Qg (fun w'=>ZB W w') (fun w'=>ZB W w') (fun k=>k==6 || k==15) (fun _=>false) (fun _=>false) (by kernel_rfl) (by kernel_rfl) (Below.drew y) (fun _ h=>h) ?_
     repeat ((first
      |(refine Qc (v:=?_) (by rfl) (by rfl) (fun w6 hSw=>?_) ?_;rotate_left;(·(obtain⟨p,n1,n2,o,s,j,u,m,q⟩:=FN.out _ hSw;obtain⟨x0,x1,x2,x3,x4,x5,x6⟩:=FX.out _ hSw;go_simp;try with_reducible rfl)))
      |(refine Qd (v:=?_) (by rfl) (fun w6=>?_) ?_;rotate_left;(·(go_simp;try with_reducible rfl)))
      |refine Qe (by rfl) ?_);(try simp only[Act.put,pA,pB,pC]))
     refine Qn (f:=?_) (args:=?_) (TrOut (l.list++x::ll.list) W) (by rfl) (by rfl) (fun w6 hSw=>?_) (fun w6 hSw=>?_) (.inr (fun v6 w6 hT6=>?_)) (fun v6 hv6=>?_)
     rotate_left 2
     ·(skip;go_simp;first|done|(constructor<;>with_reducible rfl)|with_reducible rfl)
     ·(exact QfS hSw (NodeAt.below hSw _ _ T.out) (NodeAt.below hSw _ _ HL.out) O.out.left)
     ·(exact hT6.bel)
     obtain⟨w7,t7,a7,rfl,J⟩:=hv6;clear J
     (try simp only[Act.put,pA,pB,pC])
     repeat ((first
      |(refine Qc (v:=?_) (by rfl) (by rfl) (fun w6 hSw=>?_) ?_;rotate_left;(·(obtain⟨p,n1,n2,o,s,j,u,m,q⟩:=FN.out _ hSw;go_simp;try with_reducible rfl)))
      |(refine Qd (v:=?_) (by rfl) (fun w6=>?_) ?_;rotate_left;(·(go_simp;try with_reducible rfl)))
      |refine Qe (by rfl) ?_);(try simp only[Act.put,pA,pB,pC]))
     refine Qn (f:=?_) (args:=?_) (TrOut ((l.list++x::ll.list)++lx::lr.list) W) (by rfl) (by rfl) (fun w6 hSw=>?_) (fun w6 hSw=>?_) (.inr (fun v6 w6 hT6=>?_)) (fun v6 hv6=>?_)
     rotate_left 2
     ·(skip;go_simp;first|done|(constructor<;>with_reducible rfl)|with_reducible rfl)
     ·(obtain⟨t8,a4,U,a2⟩:=hSw.out;(have:=QfS a2 a4 (NodeAt.below a2 _ _ HR.out) (x:=lx) (by rw[U];exact O.out));rw[U] at this;exact this)
     ·(exact hT6.bel)
     obtain⟨w8,t8,a8,rfl,M⟩:=hv6;clear M
     (try simp only[Act.put,pA,pB,pC])
     repeat ((first
      |(refine Qc (v:=?_) (by rfl) (by rfl) (fun w6 hSw=>?_) ?_;rotate_left;(·(skip;go_simp;try with_reducible rfl)))
      |(refine Qd (v:=?_) (by rfl) (fun w6=>?_) ?_;rotate_left;(·(go_simp;try with_reducible rfl)))
      |refine Qe (by rfl) ?_);(try simp only[Act.put,pA,pB,pC]))
     refine Qu ?_
     intro w3 I
     obtain⟨t9,N,K,G⟩:=I.out
     go_wp2_with fail
     go_ret
     rw[B.out]
     exact⟨t9,_,rfl,N,K,Qf hW G⟩
    ·have g2:(tnear<=tfar)=False:=by simp;omega
     cases ll with
     |nil=>exfalso;simp only[Tr.tall] at A;omega
     |node ml mx mr=>
      obtain⟨c,cl,cr,rfl,E,Z,X⟩:=R
      have fm:=fun(w':World) (i:ZB W w')=>NodeC.of E i
      have FM:=Zh fm
      have a6:=Zh Z
      have a5:=Zh X
      have d:(l.list++x::(Tr.node ml mx mr).list)++lx::lr.list=(l.list++x::ml.list)++mx::(mr.list++lx::lr.list):=by simp[Tr.list]
      have C:=Zh d
      have F:LstOk ((l.list++x::ml.list)++mx::(mr.list++lx::lr.list)):=by rw[<-d];exact O.out
      have z:=Zh F
      clear h3 A fm E Z X d F
      simp only[Pc.cells,Qx]
      go_enter Tryz.func195,Tryz.ntmps195
      go_wp2_with fail
      rw[Y.out]
      refine(KL.out).mono ?_
      rintro e w1 ⟨rfl,rfl⟩
      go_wp2_with fail
      refine(KR.out).mono ?_
      rintro e w1 ⟨rfl,rfl⟩
      go_wp2_with fail
      refine(KR.out).mono ?_
      rintro e w1 ⟨rfl,rfl⟩
      go_wp2_with fail
      refine(KL.out).mono ?_
      rintro e w1 ⟨rfl,rfl⟩
      go_wp2_with fail
      refine Qg (fun w'=>ZB W w') (fun w'=>ZB W w') (fun k=>k==4 || k==9) (fun _=>false) (fun _=>false) (by kernel_rfl) (by kernel_rfl) (Below.drew (Below.refl _ _)) (fun _ h=>h) ?_
      repeat ((first
       |(refine Qc (v:=?_) (by rfl) (by rfl) (fun w6 hSw=>?_) ?_;rotate_left;(·(obtain⟨p,n1,n2,o,s,j,u,m,q⟩:=FN.out _ hSw;go_simp;try with_reducible rfl)))
       |(refine Qd (v:=?_) (by rfl) (fun w6=>?_) ?_;rotate_left;(·(go_simp;try with_reducible rfl)))
       |refine Qe (by rfl) ?_);(try simp only[Act.put,pA,pB,pC]))
      refine QW (f:=?_) (args:=?_) (v:=.int .i64 tfar) (by rfl) (by rfl) (fun w6 hSw=>?_) (fun _ h=>h) (fun w6 hSw=>?_) ?_
      rotate_left 2
      ·(skip;go_simp;first|done|(constructor<;>with_reducible rfl)|with_reducible rfl)
      ·(exact KF.out _ hSw)
      (try simp only[Act.put,pA,pB,pC])
      repeat ((first
       |(refine Qc (v:=?_) (by rfl) (by rfl) (fun w6 hSw=>?_) ?_;rotate_left;(·(obtain⟨p,n1,n2,o,s,j,u,m,q⟩:=FN.out _ hSw;go_simp;try with_reducible rfl)))
       |(refine Qd (v:=?_) (by rfl) (fun w6=>?_) ?_;rotate_left;(·(go_simp;try with_reducible rfl)))
       |refine Qe (by rfl) ?_);(try simp only[Act.put,pA,pB,pC]))
      refine QW (f:=?_) (args:=?_) (v:=.int .i64 tnear) (by rfl) (by rfl) (fun w6 hSw=>?_) (fun _ h=>h) (fun w6 hSw=>?_) ?_
      rotate_left 2
      ·(skip;go_simp;first|done|(constructor<;>with_reducible rfl)|with_reducible rfl)
      ·(exact KN.out _ hSw)
      (try simp only[Act.put,pA,pB,pC])
      repeat ((first
       |(refine Qc (v:=?_) (by rfl) (by rfl) (fun w6 hSw=>?_) ?_;rotate_left;(·(obtain⟨p,n1,n2,o,s,j,u,m,q⟩:=FN.out _ hSw;go_simp;try with_reducible rfl)))
       |(refine Qd (v:=?_) (by rfl) (fun w6=>?_) ?_;rotate_left;(·(go_simp;try with_reducible rfl)))
       |refine Qe (by rfl) ?_);(try simp only[Act.put,pA,pB,pC]))
      refine Qu ?_
      intro w2 y
      obtain⟨p,n1,n2,o,s,j,u,m,q⟩:=FN.out _ y
      obtain⟨m0,m1,m2,m3,m4,m5,m6,m7,m8⟩:=FM.out _ y
      go_wp2_with fail
      clear p n1 n2 o s j u m q m0 m1 m2 m3 m4 m5 m6 m7 m8
      refine Qg (fun w'=>ZB W w') (fun w'=>ZB W w') (fun k=>k==6 || k==23 || k==24) (fun _=>false) (fun _=>false) (by kernel_rfl) (by kernel_rfl) (Below.drew y) (fun _ h=>h) ?_
      repeat ((first
       |(refine Qc (v:=?_) (by rfl) (by rfl) (fun w6 hSw=>?_) ?_;rotate_left;(·(obtain⟨p,n1,n2,o,s,j,u,m,q⟩:=FN.out _ hSw;obtain⟨m0,m1,m2,m3,m4,m5,m6,m7,m8⟩:=FM.out _ hSw;obtain⟨x0,x1,x2,x3,x4,x5,x6⟩:=FX.out _ hSw;go_simp;try with_reducible rfl)))
       |(refine Qd (v:=?_) (by rfl) (fun w6=>?_) ?_;rotate_left;(·(go_simp;try with_reducible rfl)))
       |refine Qe (by rfl) ?_);(try simp only[Act.put,pA,pB,pC]))
      refine Qn (f:=?_) (args:=?_) (TrOut (l.list++x::ml.list) W) (by rfl) (by rfl) (fun w6 hSw=>?_) (fun w6 hSw=>?_) (.inr (fun v6 w6 hT6=>?_)) (fun v6 hv6=>?_)
      rotate_left 2
      ·(skip;go_simp;first|done|(constructor<;>with_reducible rfl)|with_reducible rfl)
      ·(exact QfS hSw (NodeAt.below hSw _ _ T.out) (NodeAt.below hSw _ _ a6.out) z.out.left)
      ·(exact hT6.bel)
      obtain⟨w7,t7,a7,rfl,J⟩:=hv6;clear J
      (try simp only[Act.put,pA,pB,pC])
      repeat ((first
       |(refine Qc (v:=?_) (by rfl) (by rfl) (fun w6 hSw=>?_) ?_;rotate_left;(·(obtain⟨p,n1,n2,o,s,j,u,m,q⟩:=FN.out _ hSw;obtain⟨m0,m1,m2,m3,m4,m5,m6,m7,m8⟩:=FM.out _ hSw;obtain⟨x0,x1,x2,x3,x4,x5,x6⟩:=FX.out _ hSw;go_simp;try with_reducible rfl)))
       |(refine Qd (v:=?_) (by rfl) (fun w6=>?_) ?_;rotate_left;(·(go_simp;try with_reducible rfl)))
       |refine Qe (by rfl) ?_);(try simp only[Act.put,pA,pB,pC]))
      refine Qn (f:=?_) (args:=?_) (TrOut2 (l.list++x::ml.list) (mr.list++lx::lr.list) a7 W) (by rfl) (by rfl) (fun w6 hSw=>?_) (fun w6 hSw=>?_) (.inr (fun v6 w6 hT6=>?_)) (fun v6 hv6=>?_)
      rotate_left 2
      ·(skip;go_simp;first|done|(constructor<;>with_reducible rfl)|with_reducible rfl)
      ·(exact TrOut2.of hSw (NodeAt.below hSw.bel _ _ a5.out) (NodeAt.below hSw.bel _ _ HR.out) z.out.right.tail)
      ·(exact hT6.2.bel)
      obtain⟨w8,b1,t8,a8,rfl,M⟩:=hv6;clear M b1
      (try simp only[Act.put,pA,pB,pC])
      repeat ((first
       |(refine Qc (v:=?_) (by rfl) (by rfl) (fun w6 hSw=>?_) ?_;rotate_left;(·(obtain⟨p,n1,n2,o,s,j,u,m,q⟩:=FN.out _ hSw;obtain⟨m0,m1,m2,m3,m4,m5,m6,m7,m8⟩:=FM.out _ hSw;obtain⟨x0,x1,x2,x3,x4,x5,x6⟩:=FX.out _ hSw;go_simp;try with_reducible rfl)))
       |(refine Qd (v:=?_) (by rfl) (fun w6=>?_) ?_;rotate_left;(·(go_simp;try with_reducible rfl)))
       |refine Qe (by rfl) ?_);(try simp only[Act.put,pA,pB,pC]))
      refine Qn (f:=?_) (args:=?_) (TrOut ((l.list++x::ml.list)++mx::(mr.list++lx::lr.list)) W) (by rfl) (by rfl) (fun w6 hSw=>?_) (fun w6 hSw=>?_) (.inr (fun v6 w6 hT6=>?_)) (fun v6 hv6=>?_)
      rotate_left 2
      ·(skip;go_simp;first|done|(constructor<;>with_reducible rfl)|with_reducible rfl)
      ·(exact Qm9 hSw z.out)
      ·(exact hT6.bel)
      obtain⟨w9,t9,a9,rfl,b2⟩:=hv6;clear b2
      (try simp only[Act.put,pA,pB,pC])
      repeat ((first
       |(refine Qc (v:=?_) (by rfl) (by rfl) (fun w6 hSw=>?_) ?_;rotate_left;(·(skip;go_simp;try with_reducible rfl)))
       |(refine Qd (v:=?_) (by rfl) (fun w6=>?_) ?_;rotate_left;(·(go_simp;try with_reducible rfl)))
       |refine Qe (by rfl) ?_);(try simp only[Act.put,pA,pB,pC]))
      refine Qu ?_
      intro w3 I
      obtain⟨t9,N,K,G⟩:=I.out
      go_wp2_with fail
      go_ret
      rw[B.out,C.out]
      exact⟨t9,_,rfl,N,K,Qf hW G⟩
  ·have g1:(tr+1<tl)=False:=by simp;omega
   have g2:(tl+1<tr)=False:=by simp;omega
   have hc:=fun(w':World) (i:ZB W w')=>Qfp l r al ar x w' (NodeAt.below i _ _ H) (NodeAt.below i _ _ L) h
   have HC:=Zh hc
   obtain⟨x0,x1,x2,x3,x4,x5,x6⟩:=FX.out _ (Below.refl _ _)
   clear h1 h2 hc H L h S P
   simp only[Pc.cells,Qx] at *
   go_enter Tryz.func195,Tryz.ntmps195
   go_wp2_with fail
   rw[Y.out]
   refine(KL.out).mono ?_
   rintro e w1 ⟨rfl,rfl⟩
   go_wp2_with fail
   refine(KR.out).mono ?_
   rintro e w1 ⟨rfl,rfl⟩
   go_wp2_with fail
   refine(KR.out).mono ?_
   rintro e w1 ⟨rfl,rfl⟩
   go_wp2_with fail
   refine(KL.out).mono ?_
   rintro e w1 ⟨rfl,rfl⟩
   go_wp2_with fail
   refine(HC.out _ (Below.refl _ _)).mono ?_
   rintro e w3 ⟨t,a,rfl,hn,hl,i⟩
   go_wp2_with fail
   go_ret
   exact⟨t,a,rfl,hn,hl,Qf hW i⟩
end Go.Proofs.YtgiihhikdoikgaaGreat
