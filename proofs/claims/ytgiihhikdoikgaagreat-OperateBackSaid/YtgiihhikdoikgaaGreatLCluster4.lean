/-
  The walks of package cluster, fourth part: safe, Breaks, Next.
-/
import Derived.Test.YtgiihhikdoikgaaGreatLCluster2
set_option linter.unusedSimpArgs false
set_option linter.unusedVariables false
set_option maxRecDepth 100000
set_option maxHeartbeats 32000000
namespace Go.Proofs.YtgiihhikdoikgaaGreat
open Go.RowKit
noncomputable def Qbv (a:Int):Scan:=QfP ⟨0,0,0,0⟩ (Qaa a) (QiY a)
theorem QnZ (a:Int)(w:World) :
  Calls Tryz.prog 128 #[.int .i64 a] w fun e w'=>e=.returned (.agg (Qbv a).cells)/\ZB w w':=by
 go_enter Tryz.func128,Tryz.ntmps128
 go_wp2_with fail
 refine(QdQ _ _).mono ?_
 rintro e w1 ⟨rfl,d⟩
 go_wp2_with fail
 refine(QeG _ _).mono ?_
 rintro e g ⟨rfl,c⟩
 have f:=Qf d c
 have o:Blk g (w.heap.size+1) 200 (Scan.mk 0 0 0 0).cells:=by
  have:=Blk.new (w.alloc (.cells (Scan.mk 0 0 0 0).cells 200)) 200 (Scan.mk 0 0 0 0).cells
  simp only[World.size_alloc] at this
  exact this.below f
 have m:Blk g w.heap.size 200 (Scan.mk 0 0 0 0).cells:=by
  have:=(Blk.new w 200 (Scan.mk 0 0 0 0).cells).alloc (.cells (Scan.mk 0 0 0 0).cells 200)
  exact this.below f
 have n:ZB w g:=(((Below.refl _ w).alloc (Nat.le_refl _) _).alloc (by simp) _).trans (f.mono (by simp;omega))
 clear d c f
 go_wp2_with fail
 refine(QjN _ _ _ _ _ o (by constructor<;>decide)).mono ?_
 rintro e w3 ⟨rfl,hn⟩
 have b:=m.fr hn.2 (by omega)
 obtain⟨c0,c1,c2,t,u,A,p,r⟩:=hn.facts
 have h:=b.cell 0
 have j:=b.cell 1
 have k:=b.cell 2
 have l:=b.cell 3
 have q:=b.frozen 0
 have y:=b.frozen 1
 have z:=b.frozen 2
 have x:=b.frozen 3
 simp[Scan.cells] at h j k l
 go_wp2
 refine bodyPost_ret (v:=.agg (Qbv a).cells) (by simp[results,Tryz.results128,go_sem,h,j,k,l,Qbv,Scan.cells]) rfl ⟨rfl,?_⟩
 exact((((bfr n hn.2 (fun i s=>by omega)).setCell (Nat.le_refl _) _).setCell (Nat.le_refl _) _).setCell (Nat.le_refl _) _).setCell (Nat.le_refl _) _
theorem QlG (a:Int)(w:World):Calls Tryz.prog 128 #[.int .i64 a] w fun e w'=>
  e=.returned (.agg #[.int .i64 (Qbv a).last,.int .i64 (Qbv a).flags,.int .i64 (Qbv a).pict,.int .i64 (Qbv a).conj])/\ZB w w':=QnZ a w
noncomputable def QnL (s:Scan):List Int->Nat
 | []=>0
 |a::r=>if Qdm s a=true then QnL (QcX s a) r+1 else 0
theorem Qqz (s:Scan)(l:List Int):QnL s l<=l.length:=by
 induction l generalizing s with
 |nil=>simp[QnL]
 |cons a r ih=>simp only[QnL];split<;>simp[ih]
noncomputable def QcZ (l:List Int)(p:Nat):Nat:=p+1+QnL (Qbv (l.getD p 0)) (l.drop (p+1))
theorem QeS (l:List Int)(p:Nat):p<QcZ l p:=by unfold QcZ;omega
theorem QoA (l:List Int)(p:Nat)(h:p<l.length):QcZ l p<=l.length:=by
 unfold QcZ
 have:=Qqz (Qbv (l.getD p 0)) (l.drop (p+1))
 simp at this ⊢
 omega
noncomputable def Qin (l:List Int):Nat->Nat->List Nat
 | 0,_=>[]
 |f+1,p=>if p<l.length then QcZ l p::Qin l f (QcZ l p) else []
theorem QgU (l:List Int)(f p:Nat)(h:l.length<=p):Qin l f p=[]:=by
 cases f<;>simp[Qin];omega
theorem Qlp (l:List Int) : ∀(f a p:Nat),l.length-p<=f->l.length-p<=a->Qin l f p=Qin l a p:=by
 intro f
 induction f with
 |zero=>intro a p h b;rw[QgU l a p (by omega)];rfl
 |succ f ih=>
  intro a p h b
  cases a with
  |zero=>rw[QgU l (f+1) p (by omega)];rfl
  |succ a=>
   simp only[Qin]
   split
   ·have:=QeS l p
    rw[ih a (QcZ l p) (by omega) (by omega)]
   ·rfl
noncomputable def QeI (l:List Int)(p:Nat):List Nat:=Qin l l.length p
theorem Qg1 (l:List Int)(p:Nat)(h:p<l.length):QeI l p=QcZ l p::QeI l (QcZ l p):=by
 unfold QeI
 have a:=QeS l p
 rw[Qlp l l.length (l.length+1) p (by omega) (by omega)]
 simp only[Qin,if_pos h]
theorem QgG (l:List Int)(p:Nat)(h:l.length<=p):QeI l p=[]:=QgU l _ p h
def Qdl {σ : Type}(step : σ -> Nat->Bool × σ) : σ -> List Nat -> σ
 |s,[]=>s
 |s,k::r=>if (step s k).1=true then Qdl step (step s k).2 r else (step s k).2
structure Yields (F:FuncId) (caps:Array Value) (S:Nat->Prop) (B:Nat) {σ : Type} (J : σ -> World->Prop) (step : σ -> Nat->Bool × σ) (N:Nat) (bound : σ -> Nat):Prop where
 rises : ∀s k,bound s<k->bound (step s k).2<=k
 call : ∀s k w,k<=N->bound s<k->J s w->B<=w.heap.size->Calls Tryz.prog F (#[.int .i64 (k:Int)]++caps) w fun e w'=>e=.returned (.bool (step s k).1)/\J (step s k).2 w'/\Fr S w w'
 enter : ∀args w,(callFunc F args).run Tryz.prog w=.ok (.enter F args) w
 keep : ∀s w w',J s w->KeepBut 200 w w'->J s w'
def QsS {σ : Type}(J : σ -> World->Prop)(step : σ -> Nat->Bool × σ)(bound : σ -> Nat)(a : σ)(S:Nat->Prop)(l:List Int)(p n:Nat)(w0:World)(k:Nat)(q:Value)(wr:World):Prop:=
 ∃(m:Nat) (s : σ),q=.int .i64 (m:Int)/\J s wr/\Fr S w0 wr/\Qdl step s (QeI l m)=Qdl step a (QeI l p)/\m<=2147483648/\n-m<=k/\bound s<=m
def InR (J:World->Prop)(S:Nat->Prop)(l:List Int)(q n:Nat)(w0:World)(g:Nat)(k:Nat)(b a:Value)(wr:World):Prop:=
 ∃(m:Nat) (st:Scan),b=.int .i64 (q:Int)/\a=.int .i64 (m:Int)/\Blk wr g 200 st.cells/\J wr/\Fr S w0 wr/\QcZ l q=m+QnL st (l.drop m) /\
  0<=st.flags/\st.flags<=(m:Int)/\q<m/\m<=n/\n-m<=k
theorem Qds (s:Scan)(c p:Int)(h:0<=s.flags):0<=(QfP s c p).flags/\(QfP s c p).flags<=s.flags+1:=by unfold QfP;simp only;split<;>omega
theorem Qil (a:Int):0<=(Qbv a).flags:=(Qds ⟨0,0,0,0⟩ _ _ (by decide)).1
theorem Qg0 (a:Int):(Qbv a).flags<=1:=(Qds ⟨0,0,0,0⟩ _ _ (by decide)).2
theorem QhC (s:Scan)(a:Int)(h:0<=s.flags):0<=(QcX s a).flags/\(QcX s a).flags<=s.flags+1:=by
 unfold QcX
 split
 ·exact Qds _ _ _ h
 ·omega
theorem QhE {σ : Type}(F:FuncId)(caps:Array Value)(S D:Nat->Prop)(J : σ -> World->Prop)(step : σ -> Nat->Bool × σ)(bound : σ -> Nat)(A:Option Addr)(n c:Nat)(l:List Int)(p:Nat)(L : σ)(w:World)
  (Q:Ints w D A n l) (hd : ∀b,D b->b<w.heap.size->¬S b) (hn:n<=2147483648) (hp:p<=2147483648) (v:Yields F caps S w.heap.size J step n bound) (hJ:J L w) (U:bound L<=p) :
  Calls Tryz.prog 94 #[.slice A n c,.int .i64 (p:Int),.func (.func F) #[] caps] w fun e w'=>e=.returned (.tuple #[])/\J (Qdl step L (QeI l p)) w'/\Fr S w w':=by
 have a4:l.length<=n:=Nat.le_of_eq Q.len
 have a5:n<=l.length:=Nat.le_of_eq Q.len.symm
 go_enter Tryz.func94,Tryz.ntmps94
 go_wp2_with fail
 go_step3
 go_wp2_with fail
 go_step3
 go_wp2_with fail
 go_loopg [6] (n-p) (fun k q wr=>QsS J step bound L S l p n w k q wr)
 case atStart=>exact⟨p,L,rfl,hJ,Fr.refl _ _,rfl,hp,Nat.le_refl _,U⟩
 case round=>
  obtain⟨q,s,rfl,hs,P,j,hq,hk,b0⟩:=hrel
  have R:=Zh j
  clear j
  have a3:=Reads.fr Q P hd
  by_cases hlt:q<n
  ·obtain⟨ad,rfl,hD,hc⟩:=Ints.at_ a3 hlt
   obtain⟨H,z⟩:∃a,l.getD q 0=a:=⟨_,rfl⟩
   rw[z] at hc
   have HA:=Zh z
   clear z
   go_wp2_with fail
   refine(QlG _ _).mono ?_
   rintro e w1 ⟨rfl,u⟩
   go_wp2_with fail
   have hW:Fr S w (w1.alloc (.cells (Qbv H).cells 200)):=(P.bel u).alloc _
   have Y:J s (w1.alloc (.cells (Qbv H).cells 200)):=v.keep s _ _ hs (KeepBut.of_below (u.alloc u.size _))
   have hg:w.heap.size<=w1.heap.size:=Nat.le_trans P.size u.size
   have hB:=Blk.new w1 200 (Qbv H).cells
   go_loopg [6,8] (n-(q+1)) (fun k q6 q8 a2=>InR (J s) S l q n w w1.heap.size k q6 q8 a2)
   case atStart=>
    refine⟨q+1,Qbv H,rfl,by go_num,hB,Y,hW,?_,Qil H,?_,by omega,by omega,by omega⟩
    ·rw[<-HA.out];rfl
    ·have:=Qg0 H;omega
   case round=>
    obtain⟨m,st,rfl,rfl,O,E,f,K,B,a7,a9,a6,b1⟩:=hrel
    have Z:=Zh K
    clear K
    have V:=Reads.fr Q f hd
    by_cases hmlt:m<n
    ·obtain⟨a8,o,_,W⟩:=Ints.at_ V hmlt
     injection o with o
     subst o
     obtain⟨G,x⟩:∃a,l.getD m 0=a:=⟨_,rfl⟩
     rw[x] at W
     have M:l.drop m=G::l.drop (m+1):=by rw[<-x];exact QfH l m (by omega)
     have HD:=Zh M
     clear x hc M
     cases hj:Qdm st G
     ·go_wp2_with fail
      refine(Qh7 _ st G _ O ⟨B,by omega⟩).mono ?_
      rintro e w3 ⟨rfl,g⟩
      have he:=v.enter
      have d:Fr S w w3:=f.call g.2 (fun i hi y=>absurd y (by omega))
      have C:J s w3:=v.keep s _ _ E (KeepBut.of_fr g.2 O)
      go_wp2_with fail
      refine(v.call s m w3 (by omega) (by omega) C d.size).mono ?_
      rintro e w4 ⟨rfl,t,r⟩
      have h:QeI l q=m::QeI l m:=by
       have X:QcZ l q=m:=by rw[Z.out,HD.out];simp[QnL,hj]
       rw[Qg1 l q (by omega),X]
      have T:=Zh h
      clear h he
      cases hst:(step s m).1
      ·go_wp2_with fail
       simp only[Exit.noGoto]
       go_end0
       refine⟨rfl,?_,d.trans r⟩
       rw[<-R.out,T.out]
       simp only[Qdl,hst]
       exact t
      ·go_wp2_with fail
       go_roundg (n-m)
       case measure=>omega
       case rel=>
        refine⟨m,(step s m).2,rfl,t,d.trans r,?_,by omega,Nat.le_refl _,v.rises s m (by omega)⟩
        rw[<-R.out,T.out]
        simp only[Qdl,hst,if_true]
     ·go_wp2_with fail
      refine(Qh7 _ st G _ O ⟨B,by omega⟩).mono ?_
      rintro e w3 ⟨rfl,g⟩
      go_wp2_with fail
      go_roundg (n-(m+1))
      case measure=>omega
      case rel=>
       have d:Fr S w w3:=f.call g.2 (fun i hi y=>absurd y (by omega))
       have C:J s w3:=v.keep s _ _ E (KeepBut.of_fr g.2 O)
       have N:=QhC st G B
       refine⟨m+1,QcX st G,rfl,by go_num,g.1,C,d,?_,N.1,by omega,by omega,by omega,by omega⟩
       rw[Z.out,HD.out]
       simp only[QnL,hj,if_true]
       omega
    ·have I:m=n:=by omega
     have d:=f
     subst I
     have he:=v.enter
     go_wp2_with fail
     refine(v.call s m _ (by omega) (by omega) E f.size).mono ?_
     rintro e w4 ⟨rfl,t,r⟩
     have h:QeI l q=[m]:=by
      have X:QcZ l q=m:=by rw[Z.out,List.drop_eq_nil_of_le (by omega)];simp[QnL]
      rw[Qg1 l q (by omega),X,QgG l m (by omega)]
     have T:=Zh h
     clear h he
     go_wp2_with fail
     simp only[Exit.noGoto]
     go_end0
     refine⟨rfl,?_,f.trans r⟩
     rw[<-R.out,T.out]
     simp only[Qdl,ite_self]
     exact t
  ·go_wp2_with fail
   simp only[Exit.noGoto]
   go_end0
   refine⟨rfl,?_,P⟩
   rw[<-R.out,QgG l q (by omega)]
   exact hs
noncomputable def QgI (a b:Int):Bool:=(QdL (Qaa a) || QdL (Qaa b)) && !(Qaa a==1 && Qaa b==2)
noncomputable def Qei (l:List Int):Nat->Nat
 | 0=>0
 |k+1=>if QgI (l.getD k 0) (l.getD (k+1) 0)=true then k+1 else Qei l k
noncomputable def Qfs (l:List Int)(p:Nat):Nat:=Qei l (min p l.length-1)
def QsT (l:List Int)(p n:Nat)(w0:World)(k:Nat)(a:Value)(wr:World):Prop:=
 ∃q:Int,Qei l q.toNat=Qfs l p /\ -1<=q/\q<n/\q<k/\ZB w0 wr/\a=.int .i64 q
theorem Qpt (D:Nat->Prop)(A:Option Addr)(n c:Nat)(l:List Int)(p:Nat)(w:World)(v:Ints w D A n l)(hn:n<=2147483648)(hp:p<=2147483648) :
    Calls Tryz.prog 95 #[.slice A n c,.int .i64 (p:Int)] w fun e w'=>e=.returned (.int .i64 (Qfs l p:Nat))/\ZB w w':=by
  have B:l.length<=n:=Nat.le_of_eq v.len
  have z:n<=l.length:=Nat.le_of_eq v.len.symm
  go_enter Tryz.func95,Tryz.ntmps95
  go_wp2_with fail
  all_goals
    go_loopg [5] (min p n) (fun k q wr=>QsT l p n w k q wr)
    case atStart=>
      refine⟨_,?_,?_,?_,?_,Below.refl _ _,rfl⟩
      · unfold Qfs;congr 1;omega
      · omega
      · omega
      · omega
    case round=>
      obtain⟨q,y,F,J,O,s,rfl⟩:=hrel
      have x:=Zh y
      clear y
      have m:=Reads.below v s
      by_cases hpos:0<q
      · obtain⟨k,rfl⟩:∃k:Nat,q=(k:Int)+1:=⟨(q-1).toNat,by omega⟩
        obtain⟨t,rfl,P,u⟩:=Ints.at_ m (show k<n by omega)
        obtain⟨E,d,_,f⟩:=Ints.at_ m (show k+1<n by omega)
        injection d with d
        subst d
        rw[Qb6 t (k+1) (by omega)] at f
        obtain⟨j,h⟩:∃a,l.getD k 0=a:=⟨_,rfl⟩
        obtain⟨i,g⟩:∃a,l.getD (k+1) 0=a:=⟨_,rfl⟩
        rw[h] at u
        rw[g] at f
        have r:Qei l ((k:Int)+1).toNat=if QgI j i=true then k+1 else Qei l k:=by
          rw[show ((k:Int)+1).toNat=k+1 by omega,Qei,h,g]
        have HS:=Zh r
        clear h g r
        go_upto_region 4 with fail
        have x0:IntKind.i64.wrap (k:Int)=(k:Int):=IntWalk.i64_in _ (by omega)
        have C:(0:Int)<=(k:Int)+1:=by omega
        have K:(k:Int)+1<(n:Int):=by omega
        have N:((k:Int)+1).toNat=k+1:=by omega
        have M:(k:Int)<(n:Int):=by omega
        have I:k<n:=by omega
        go_cut [6,7] (fun L H wx=>L=.int .i64 (Qaa j)/\H=.int .i64 (Qaa i)/\ZB wr wx)
        case first=>
          go_region_held3 (fun w'=>w'.cell? (t.add k)=some (.int .i64 j)/\w'.cell? ⟨t.block,t.off+(k+1),none⟩=some (.int .i64 i)) (first|assumption|exact⟨u,f⟩|exact QeM (by assumption) (by assumption)) (first|(go_at_call 130;refine(QdQ _ _).mono ?_;rintro e w1 ⟨rfl,G⟩))
          all_goals
            go_wp2_with fail
            go_meet
            exact⟨rfl,rfl,Qf (QD (by assumption)) (by assumption)⟩
        case rest=>
          obtain⟨rfl,rfl,o⟩:=hcut
          clear x0 C K N M I u f
          cases h1:QdL (Qaa j)<;>cases h2:QdL (Qaa i)<;>cases h3:(Qaa j==1)<;>cases h4:(Qaa i==2)
          all_goals
            go_wp2_with (go_at_call 131;refine(Qhs _ _).mono ?_;rintro e w1 ⟨rfl,rfl⟩)
            first
              | (go_ret
                 refine⟨QaB ?_,Qf s o⟩
                 rw[<-x.out,HS.out]
                 simp[QgI,h1,h2,h3,h4];done)
              | (go_roundg (k+1)
                 case measure=>omega
                 case rel=>
                   refine⟨k,?_,by omega,by omega,by omega,Qf s o,by go_num⟩
                   rw[<-x.out,HS.out]
                   simp[QgI,h1,h2,h3,h4])
      · have b:Qfs l p=0:=by rw[<-x.out,show q.toNat=0 by omega];rfl
        have HS:=Zh b
        clear b
        go_wp2_with fail
        go_ret
        exact⟨QaB (by rw[HS.out];rfl),s⟩
theorem Qjx (W:World)(g k:Nat)(xs:List Int)(w:World)(h:OutAt w W.heap.size g xs)(p:W.heap.size<=g)(z:W.heap.size<=w.heap.size)(hn:xs.length<=2147483648) :
  Calls Tryz.prog 100 #[.int .i64 (k:Int),.pointer (some ⟨g,0,none⟩)] w fun e w'=>
   e=.returned (.bool true)/\OutAt w' W.heap.size g (xs++[(k:Int)])/\Fr (fun b=>W.heap.size<=b) w w':=by
 obtain⟨v,d,j⟩:=h
 obtain⟨x,s,l,n,m⟩:=info_parts Qa3
 have c0:=d.cell 0
 have t:=d.frozen 0
 simp at c0
 have o:=d.lt
 go_enter Tryz.func100,Tryz.ntmps100
 go_wp2_with (at_builtin;refine wpList_append_own _ rfl (.tmp 4) (.tmp 6) 36 rfl W.heap.size 3 x (.int .i64 0) 1 8 Tryz.underlying36 s l n m rfl (by decide) v xs.length _ rfl (j.alloc _) ⟨w.heap.size,0,none⟩ 1 1 [.int .i64 (k:Int)] rfl rfl ?c1 ?c2 ?c3 ?c4 ?c5 ?_)
 case c1=>exact cell_one_new _ _ _
 case c2=>simp[Value.oneCell']
 case c3=>unfold maxLen;omega
 case c4=>omega
 case c5=>simp;omega
 intro y w1 a f _
 have c:Blk w1 g 36 #[v]:=(d.alloc _).grown f (fun e=>Qk j d (by decide) e.symm)
 have i:Fr (fun b=>W.heap.size<=b) w w1:=((Fr.refl _ w).alloc _).grown f (fun r q _=>QaV j q)
 have c1:=c.cell 0
 have A:=c.frozen 0
 simp at c1
 clear c0 t
 obtain⟨r,cap,rfl,_,u⟩:=a.form (by omega)
 go_wp2_with fail
 go_ret
 refine⟨rfl,⟨_,c.set_ 0 _,?_⟩,i.setCell (.inl p) _⟩
 rw[List.length_append,List.map_append]
 exact ownsRow_setCell_other a (Qk a c (by decide)) _
theorem Qn8 (r:List Nat) : ∀s:List Int,Qdl (fun s (k:Nat)=>(true,s++[(k:Int)])) s r=s++r.map (fun k:Nat=>(k:Int)):=by
 induction r with
 |nil=>intro s;simp[Qdl]
 |cons k r ih=>intro s;simp[Qdl,ih]
noncomputable def Qbi (l:List Int):List Int:=0::(QeI l 0).map (fun k:Nat=>(k:Int))
theorem QkO (D:Nat->Prop)(A:Option Addr)(n c:Nat)(l:List Int)(w:World)(u:Ints w D A n l)(hn:n<=2147483647) :
    Calls Tryz.prog 48 #[.slice A n c] w fun e w'=>∃v,e=.returned v/\w'.ownsRow w.heap.size 3 1 v (Qbi l).length ((Qbi l).map (Value.int .i64))/\ZB w w':=by
  go_enter Tryz.func48,Tryz.ntmps48
  go_wp2_with fail
  have j:OutAt ((w.alloc (.cells #[.int .i64 0] 3)).alloc (.cells #[.slice (some ⟨w.heap.size,0,none⟩) 1 1] 36)) w.heap.size (w.heap.size+1) [0]:=by
    refine⟨.slice (some ⟨w.heap.size,0,none⟩) 1 1,?_,rfl,.inr ⟨w.heap.size,1,#[.int .i64 0],rfl,Nat.le_refl _,?_,Nat.le_refl _,by unfold maxLen;omega,rfl,rfl⟩⟩
    · have:=Blk.new (w.alloc (.cells #[.int .i64 0] 3)) 36 #[.slice (some ⟨w.heap.size,0,none⟩) 1 1]
      simpa using this
    · exact(Blk.new w 3 #[.int .i64 0]).alloc _
  have p:ZB w ((w.alloc (.cells #[.int .i64 0] 3)).alloc (.cells #[.slice (some ⟨w.heap.size,0,none⟩) 1 1] 36)):=((Below.refl _ w).alloc (Nat.le_refl _) _).alloc (by simp) _
  have g:Ints ((w.alloc (.cells #[.int .i64 0] 3)).alloc (.cells #[.slice (some ⟨w.heap.size,0,none⟩) 1 1] 36)) (fun b=>b<w.heap.size) A n l:=
    Reads.below (Reads.more u (fun b _ h=>h) (by omega)) p
  have t:Yields 100 #[.pointer (some ⟨w.heap.size+1,0,none⟩)] (fun b=>w.heap.size<=b) ((w.alloc (.cells #[.int .i64 0] 3)).alloc (.cells #[.slice (some ⟨w.heap.size,0,none⟩) 1 1] 36)).heap.size
      (fun s w'=>OutAt w' w.heap.size (w.heap.size+1) s) (fun s (k:Nat)=>(true,s++[(k:Int)])) n (fun s=>s.length-1):=by
    constructor
    · intro s k h
      simp only[List.length_append,List.length_singleton]
      omega
    · intro s k w1 o m f y
      simp only[World.size_alloc] at y
      exact Qjx w (w.heap.size+1) k s w1 f (by omega) (by omega) (by omega)
    · exact Tryz.call100
    · intro s w1 E f o
      exact f.keep o (by decide) (by decide)
  refine(QhE _ _ _ _ _ _ _ A n c l 0 [0] _ g (fun b h _ C=>by omega) (by omega) (by omega) t j (by simp)).mono ?_
  rintro e w1 ⟨rfl,f,z⟩
  rw[Qn8] at f
  obtain⟨v,m,d⟩:=f
  have c0:=m.cell 0
  simp at c0
  have a:w1.ownsRow w.heap.size 3 1 v (Qbi l).length ((Qbi l).map (Value.int .i64)):=d
  clear d
  obtain⟨r,cap,rfl,_,B⟩:=a.form (by simp[Qbi])
  have x:=Zh a
  clear a
  go_wp2_with fail
  go_ret
  exact⟨_,rfl,x.out,bfr p z (fun i q=>q)⟩
end Go.Proofs.YtgiihhikdoikgaaGreat
