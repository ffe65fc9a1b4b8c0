/-
  The walks of package tree at the pieces, eighth part: Find.
-/
import Derived.Test.YtgiihhikdoikgaaGreatLTree7
set_option linter.unusedSimpArgs false
set_option linter.unusedVariables false
set_option maxRecDepth 100000
set_option maxHeartbeats 32000000
namespace Go.Proofs.YtgiihhikdoikgaaGreat
open Go.RowKit
def Qsv (kk n R:Int)(W:World)(k:Nat)(b c:Value)(wr:World):Prop:=
 ∃(t:Tr) (a:Option Addr) (i:Int) (s:Sums),b=.pointer a/\c=.int .i64 i/\NodeAt W t a/\t.list.length<=k/\0<=i/\i+t.list.length<=1073741824 /\
  AllGood t.list/\s.good/\s.bytes+Qbl t.list<=2147483648/\Qdi s kk<n/\i+QbT kk n s t.list=R /\
  ZB W wr/\Blk wr (W.heap.size+1) 99 s.cells
theorem Qku (t:Tr)(a:Option Addr)(kk n:Int)(w:World)(h:NodeAt w t a)(ht:t.list.length<=1073741824)(hg:AllGood t.list)(hB:Qbl t.list<=2147483648) :
  Calls Tryz.prog 114 #[.agg #[.pointer a],.int .i64 kk,.int .i64 n] w fun e w'=>e=.returned (.int .i64 (if n<=0 then 0 else QbT kk n Qq t.list))/\ZB w w':=by
 by_cases hn:n<=0
 ·rw[if_pos hn]
  go_enter Tryz.func114,Tryz.ntmps114
  go_wp2_with fail
  go_ret
  exact⟨rfl,Qa (Below.refl _ _)⟩
 rw[if_neg hn]
 obtain⟨R,hR⟩:=ZN (QbT kk n Qq t.list)
 rw[hR]
 have HR:=Zh hR
 clear hR
 have hW:ZB w ((w.alloc (.cells #[.pointer a] 102)).alloc (.cells Qq.cells 99)):=Qa (Qa (Below.refl _ w))
 have b1:Blk ((w.alloc (.cells #[.pointer a] 102)).alloc (.cells Qq.cells 99)) (w.heap.size+1) 99 Qq.cells:=by
  have:=Blk.new (w.alloc (.cells #[.pointer a] 102)) 99 Qq.cells
  simpa only[World.size_alloc] using this
 have hz:Qdi Qq kk<n:=by unfold Qdi;simp only[Qq];split<;>(try split)<;>omega
 go_enter Tryz.func114,Tryz.ntmps114
 go_wp2_with fail
 go_loopg [9,8] t.list.length (fun k q9 q8 wr=>Qsv kk n R w k q9 q8 wr)
 case atStart=>exact⟨t,a,0,Qq,rfl,rfl,h,Nat.le_refl _,by omega,by omega,hg,Qa0,by simp only[Qq];omega,hz,by rw[Int.zero_add];exact HR.out,hW,b1⟩
 case round=>
  obtain⟨t1,a1,i,s,rfl,rfl,b2,hk,i1,i2,a3,hs,b1,c6,hF,J,I⟩:=hrel
  have HF:=Zh hF
  clear hF HR hz hn
  cases t1 with
  |nil=>
   cases b2
   have e:i+1=R:=HF.out
   have HE:=Zh e
   clear e
   have c9:i<=1073741824:=by omega
   go_wp2_with fail
   go_ret
   exact⟨QaB HE.out,J⟩
  |node l x r=>
   have a4:=Tr.size_list l
   have a2:(Tr.node l x r).list.length=l.list.length+r.list.length+1:=by simp only[Tr.list,List.length_append,List.length_cons];omega
   have a8:Qbl (Tr.node l x r).list=Qbl l.list+(x.sum.bytes+Qbl r.list):=by rw[Tr.list,Qby,QaI]
   have gl:=Tr.good_l a3
   have gr:=Tr.good_r a3
   have gx:=Tr.good_x a3
   have tl:=Q7 gl
   have tr:=Q7 gr
   have tx:0<=x.sum.bytes:=by obtain⟨p1,p2,p3,_⟩:=gx;omega
   have ts:0<=s.bytes:=by obtain⟨p1,p2,p3,_⟩:=hs;omega
   obtain⟨b,al,ar,rfl,G,p,b0⟩:=b2
   have hb:=G.below J
   obtain⟨sz,Z⟩:∃s,l.size=s:=⟨_,rfl⟩
   have P : ∀w1,ZB w w1->Calls Tryz.prog 142 #[.pointer al] w1 fun e w'=>e=.returned (.int .i64 sz)/\w1=w':=by
    intro w1 h1
    rw[<-Z]
    exact Qbr l al _ (NodeAt.below h1 _ _ p)
   have gll:=QI gl
   have o:=QiS hs l gl
   have m:=Qga kk n (x::r.list) l.list s hs gl (by omega)
   have f:=Qfi kk n (x::r.list) l.list s hs gl
   rw[<-o] at m f
   rw[Z] at a4
   rw[<-a4] at f
   have d2:0<=sz:=by omega
   have d3:i+sz+1+r.list.length<=1073741824:=by omega
   have c7:i+l.list.length<=1073741824:=by omega
   have d5:=show l.list.length<_ from Nat.lt_of_lt_of_le (by omega) hk
   have d6:=show r.list.length<_ from Nat.lt_of_lt_of_le (by omega) hk
   have c8:s.bytes+Qbl l.list<=2147483648:=by omega
   have gac:(Qfj s l).good/\(Qfj s l).bytes=s.bytes+Qbl l.list:=by
    rw[o]
    have:=QE hs gll.1
    exact⟨this.1,by rw[this.2.2,gll.2]⟩
   have okx:x.sum.ok:=gx.ok (by omega)
   have oks:s.ok:=hs.ok (by omega)
   have okl:l.sum.ok:=(Tr.sum_good l gl).1.ok (by rw[(Tr.sum_good l gl).2];omega)
   have oka:(Qfj s l).ok:=gac.1.ok (by omega)
   have gnx:=QE gac.1 gx
   have a5:(QM (Qfj s l) x.sum).bytes+Qbl r.list<=2147483648:=by omega
   have HC:=Zh P
   have HL:=Zh m
   have HR:=Zh f
   have HG:=Zh gnx
   clear P Z a4 a2 hk m f a8 gac gnx o gll
   obtain⟨T,n1,n2,S,Y,X,O,m2,Q,V⟩:=Qw I
   go_upto_region 7 with fail
   go_cut [8,9,10] (fun q8 q9 y wx=>q8=.int .i64 i/\q9=.pointer (some ⟨b,0,none⟩)/\∃g,y=.pointer (some ⟨g,0,none⟩)/\w.heap.size+1<g/\ZB w wx/\Blk wx (w.heap.size+1) 99 s.cells/\Blk wx g 99 s.cells)
   case first=>
    go_wp2_with fail
    go_meet
    exact⟨rfl,rfl,wr.heap.size,rfl,I.lt,Qa J,I.alloc _,Blk.new wr _ s.cells⟩
   case rest=>
    obtain⟨rfl,rfl,g,rfl,d0,C,L,D⟩:=hcut
    clear T n1 n2 S Y X O m2 Q V J I hb
    obtain⟨c0,c1,q⟩:=QaJ (G.below C)
    clear q
    go_upto_if 22 with fail
    go_cut [8,9,10] (fun q8 q9 y wx=>q8=.int .i64 i/\q9=.pointer (some ⟨b,0,none⟩)/\y=.pointer (some ⟨g,0,none⟩)/\ZB w wx/\Blk wx (w.heap.size+1) 99 s.cells/\Blk wx g 99 (Qfj s l).cells)
    case first=>
     cases l with
     |nil=>
      cases p
      go_wp2_with fail
      go_meet
      exact⟨rfl,rfl,rfl,C,L,D⟩
     |node la lx lr=>
      obtain⟨bl,d4,d1,rfl,b3,_,_⟩:=p
      obtain⟨p0,p1,p2,p3,p4,_,_,_,_,_⟩:=Qaz (b3.below C)
      obtain⟨T,n1,n2,S,Y,X,O,m2,Q,V⟩:=Qw D
      obtain⟨v0,v1,v2,v3,v4,_,_,_,_,_⟩:=Qw L
      have o:Qfj s (.node la lx lr)=QM s (Tr.node la lx lr).sum:=rfl
      obtain⟨sl,a9⟩:∃s,(Tr.node la lx lr).sum=s:=⟨_,rfl⟩
      rw[a9] at p0 p1 p2 p3 p4 okl o
      have c5:=Zh o
      have E:=Qgp s
      simp only[Sums.cells] at E
      have W:=D
      clear o a9 D HC HL HR HG
      go_wp2_with fail
      go_region_with (first|(go_at_call 118;refine(QbB s sl _ oks okl).mono ?_;rintro e w4 ⟨rfl,j⟩;obtain⟨j0,j1,j2,j3,j4,j5,j6,j7,j8,j9⟩:=Qw (W.below (QD j))))
      all_goals
       go_wp2_with fail
       go_meet
       refine⟨rfl,rfl,rfl,Qay (s':=QM s sl) (Qf C (QD j)) (by omega),QdH (s':=QM s sl) (L.below (QD j)) (by omega),?_⟩
       rw[c5.out]
       exact Qdb (W.below (QD j))
    case rest=>
     obtain⟨rfl,rfl,rfl,a7,b7,a6⟩:=hcut
     clear C L D c0 c1
     obtain⟨T,n1,n2,S,Y,X,O,m2,Q,V⟩:=Qw a6
     have E:=Qql (Qfj s l)
     have d:=Qn0 (Qfj s l) kk
     have M:=Zh d
     clear d
     obtain⟨ky,d⟩:=ZN (Qdi (Qfj s l) kk)
     rw[d] at M HL HR
     clear d
     simp only[Sums.cells] at E M
     go_wp2_with fail
     refine(M.out _).mono ?_
     rintro e w1 ⟨rfl,u⟩
     have z:=Qf a7 u
     have v:=b7.below u
     have N:=a6.below u
     clear T n1 n2 S Y X O m2 Q V E M b7 a6 a7
     obtain⟨c0,c1,q⟩:=QaJ (G.below z)
     by_cases hk3:n<=ky
     ·clear q
      go_wp2_with fail
      go_roundg l.list.length
      case measure=>omega
      case rel=>exact⟨l,al,i,s,rfl,rfl,p,Nat.le_refl _,i1,c7,gl,hs,c8,c6,by rw[<-HL.out hk3];exact HF.out,z,v⟩
     ·have H:i+QbT kk n (Qfj s l) (x::r.list)+sz=R:=by
       have h1:=HR.out (by omega)
       have h2:i+QbT kk n s (l.list++x::r.list)=R:=HF.out
       omega
      have b8:QbT kk n (Qfj s l) (x::r.list)=if n<=Qdi (QM (Qfj s l) x.sum) kk then 1 else QbT kk n (QM (Qfj s l) x.sum) r.list+1:=rfl
      rw[b8] at H
      obtain⟨s2,U⟩:=ZN (Qfj s l)
      rw[U] at N oka a5 H HG
      have K:=Zh H
      clear H U HF HL HR b8
      go_wp2_with fail
      refine(HC.out _ z).mono ?_
      rintro e w2 ⟨rfl,rfl⟩
      clear c0 c1 HC
      obtain⟨i0,b6,b5,i3,i4,i5,i6⟩:=q
      simp only[Nat.zero_add,Nat.reduceAdd] at i0 b6 b5 i3 i4 i5 i6
      have E:=Qgp s2
      have f2:=Qer x.A x.n x.c x.tag x.sum
      simp only[Sums.cells] at E
      simp only[Qx] at f2
      obtain⟨T,n1,n2,S,Y,X,O,m2,Q,V⟩:=Qw N
      obtain⟨v0,v1,v2,v3,v4,u0,u1,u2,u3,u4⟩:=Qw v
      go_upto_region 13 with fail
      go_cut [8,9,10] (fun q8 q9 y wx=>q8=.int .i64 (i+(sz+1))/\q9=.pointer (some ⟨b,0,none⟩)/\y=.pointer (some ⟨g,0,none⟩)/\ZB w wx/\Blk wx (w.heap.size+1) 99 (QM s2 x.sum).cells)
      case first=>
       go_region_with (first|(go_at_call 220;refine(QdB x.A x.n x.c x.tag x.sum _).mono ?_;rintro e w3 ⟨rfl,B⟩;obtain⟨k0,k1,k2,k3,k4,k5,k6,k7,k8,k9⟩:=Qw (v.below (QD B));obtain⟨g0,g1,g2,g3,g4,_,_,_,_,_⟩:=Qw (N.below (QD B)))|(go_at_call 118;refine(QbB s2 x.sum _ oka okx).mono ?_;rintro e w4 ⟨rfl,j⟩;obtain⟨j0,j1,j2,j3,j4,j5,j6,j7,j8,j9⟩:=Qw (v.below (Qf (QD B) j))))
       all_goals
        go_wp2_with fail
        go_meet
        exact⟨rfl,rfl,rfl,Qay (s':=QM s2 x.sum) (Qf z (Qf (QD B) j)) (by omega),Qdb (v.below (Qf (QD B) j))⟩
      case rest=>
       obtain⟨rfl,rfl,rfl,b9,F⟩:=hcut
       clear i0 b6 b5 i3 i4 i5 i6 E f2 T n1 n2 S Y X O m2 Q V v0 v1 v2 v3 v4 u0 u1 u2 u3 u4 v N z
       obtain⟨s3,b4⟩:=ZN (QM s2 x.sum)
       rw[b4] at F K a5 HG
       clear b4
       obtain⟨T,n1,n2,S,Y,X,O,m2,Q,V⟩:=Qw F
       have E:=Qql s3
       have d:=Qn0 s3 kk
       have M:=Zh d
       clear d
       obtain⟨c3,d⟩:∃ky,Qdi s3 kk=ky:=⟨_,rfl⟩
       have c4:=Zh d
       rw[d] at M K
       clear d
       simp only[Sums.cells] at E M
       go_wp2_with fail
       refine(M.out _).mono ?_
       rintro e w1 ⟨rfl,u⟩
       have a0:=Qf b9 u
       have c2:=F.below u
       clear T n1 n2 S Y X O m2 Q V E M F b9
       obtain⟨c0,c1,q⟩:=QaJ (G.below a0)
       clear q
       by_cases hk4:n<=c3
       ·have he:i+(sz+1)=R:=by have:=K.out;rw[if_pos hk4] at this;omega
        have HE:=Zh he
        clear he
        go_wp2_with fail
        go_ret
        exact⟨QaB HE.out,a0⟩
       ·have he:i+(sz+1)+QbT kk n s3 r.list=R:=by have:=K.out;rw[if_neg hk4] at this;omega
        have HE:=Zh he
        clear he
        go_wp2_with fail
        go_roundg r.list.length
        case measure=>omega
        case rel=>exact⟨r,ar,i+(sz+1),s3,rfl,rfl,b0,Nat.le_refl _,by omega,by omega,gr,HG.out.1,a5,by rw[c4.out];omega,HE.out,a0,c2⟩
end Go.Proofs.YtgiihhikdoikgaaGreat
