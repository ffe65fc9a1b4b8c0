/-
  The walks of package motion, fourth part: column.
-/
import Derived.Test.YtgiihhikdoikgaaGreatLSeek
import Derived.Test.YtgiihhikdoikgaaGreatLCluster4
import Derived.Test.YtgiihhikdoikgaaGreatLRf2
set_option linter.unusedSimpArgs false
set_option linter.unusedVariables false
set_option maxRecDepth 100000
set_option maxHeartbeats 32000000
namespace Go.Proofs.YtgiihhikdoikgaaGreat
open Go.RowKit
structure Ln where
 from_:Int
 to_:Int
 next:Int
 brk:Int
def Ln.cells (l:Ln):Array Value := #[.int .i64 l.from_,.int .i64 l.to_,.int .i64 l.next,.int .i64 l.brk]
def Qb8 (A:List Int)(from_ next:Nat):Ln:=
 if A.getD (next-1) 0=13 then ⟨from_,next-1,next,3⟩ else if from_+2<=next/\A.getD (next-2) 0=13 then ⟨from_,next-2,next,2⟩ else ⟨from_,next-1,next,1⟩
theorem QqH (l:List Int)(k:Nat)(h:k+1<l.length):seg (k:Int) ((k:Int)+2) l=[l.getD k 0,l.getD (k+1) 0]:=by
 unfold seg
 rw[show ((k:Int)+2).toNat-(k:Int).toNat=2 by omega,Int.toNat_natCast,List.drop_eq_getElem_cons (by omega),List.drop_eq_getElem_cons (by omega),List.getD_eq_getElem?_getD,List.getElem?_eq_getElem (by omega),List.getD_eq_getElem?_getD,List.getElem?_eq_getElem (by omega)]
 rfl
theorem QK {w:World}{b:Nat}{l:Ln}(h:Blk w b 59 l.cells) :
  (w.cell? ⟨b,0,none⟩=some (.int .i64 l.from_)/\w.cell? ⟨b,1,none⟩=some (.int .i64 l.to_)/\w.cell? ⟨b,2,none⟩=some (.int .i64 l.next)/\w.cell? ⟨b,3,none⟩=some (.int .i64 l.brk)) /\
  w.frozen? ⟨b,0,none⟩=false/\w.frozen? ⟨b,1,none⟩=false/\w.frozen? ⟨b,2,none⟩=false/\w.frozen? ⟨b,3,none⟩=false:=
 ⟨⟨h.cell 0,h.cell 1,h.cell 2,h.cell 3⟩,h.frozen 0,h.frozen 1,h.frozen 2,h.frozen 3⟩
theorem Qam {w w1:World}{b:Nat}{u1 u2 u3 u4:Value}(h:ZB w w1)(a:w.heap.size<=b) :
  ZB w ((((w1.setCell ⟨b,0,none⟩ u1).setCell ⟨b,1,none⟩ u2).setCell ⟨b,2,none⟩ u3).setCell ⟨b,3,none⟩ u4):=
 (((h.setCell a _).setCell a _).setCell a _).setCell a _
theorem Qla (D:Nat->Prop)(g:Nat)(enc:Int)(s:List (Int × Int))(from_ next:Nat)(w:World)(h:TextAt w D g enc s)(h1:from_<next)(h2:next<=s.length) :
  Calls Tryz.prog 66 #[.pointer (some ⟨g,0,none⟩),.int .i64 (from_:Int),.int .i64 (next:Int)] w fun e w'=>e=.returned (.agg (Qb8 (s.map Prod.fst) from_ next).cells)/\ZB w w':=by
 have J:=h.len
 obtain⟨R,I⟩:=ZN (Qb8 (s.map Prod.fst) from_ next)
 rw[I]
 obtain⟨n,rfl⟩:∃n,next=n+1:=⟨next-1,by omega⟩
 obtain⟨y,B⟩:=ZN ((s.map Prod.fst).getD n 0)
 obtain⟨x,C⟩:=ZN ((s.map Prod.fst).getD (n-1) 0)
 have G:R=if y=13 then ⟨from_,n,n+1,3⟩ else if from_+1<=n/\x=13 then ⟨from_,(n:Int)-1,n+1,2⟩ else ⟨from_,n,n+1,1⟩:=by
  rw[<-I]
  unfold Qb8
  have O:(((n+1:Nat):Int)-1)=n:=by omega
  have P:(((n+1:Nat):Int)-2)=(n:Int)-1:=by omega
  have M:((n+1:Nat):Int)=(n:Int)+1:=by omega
  have N:(from_+2<=n+1/\x=13)↔(from_+1<=n/\x=13):=by omega
  rw[show n+1-1=n by omega,show n+1-2=n-1 by omega,B,C,O,P,M]
  simp only[N]
 have o:ZB w (w.alloc (.cells (Ln.mk 0 0 0 0).cells 59)):=Qa (Below.refl _ w)
 have A:Blk (w.alloc (.cells (Ln.mk 0 0 0 0).cells 59)) w.heap.size 59 (Ln.mk 0 0 0 0).cells:=Blk.new w _ _
 have d:((n+1:Nat):Int)=(n:Int)+1:=by omega
 rw[d]
 have b:=Zh G
 clear I G d
 have K:(s.map Prod.fst).length=s.length:=List.length_map ..
 by_cases hc:from_=n
 ·subst hc
  have k:=Qap D g enc s (from_:Int) ((from_:Int)+1) _ (h.below o) (by omega) (by omega)
  rw[Qjd _ _ (by omega),B] at k
  have f:=Zh k
  clear k K C B
  go_enter Tryz.func66,Tryz.ntmps66
  go_wp2_with fail
  refine(f.out).mono ?_
  rintro e w1 ⟨v,rfl,a,c⟩
  obtain⟨⟨u,t,p,l⟩,L,u1,u2,u3⟩:=QK (A.below c)
  obtain⟨r,cap,rfl,H,F⟩:=a.form (by simp)
  have E:=a.cells (g:=r) rfl 0 (.int .i64 y) (by simp)
  simp[Addr.add] at E
  clear a f A
  by_cases hy13:y=13
  ·subst hy13
   have i:=Zh (show R=⟨from_,from_,(from_:Int)+1,3⟩ from by rw[b.out,if_pos rfl])
   clear b
   go_wp2_with fail
   refine bodyPost_ret (v:=.agg (Ln.mk from_ from_ ((from_:Int)+1) 3).cells) (by simp[results,Tryz.results66,go_sem,Ln.cells,u,t,p,l]<;>omega) rfl ⟨by rw[i.out],?_⟩
   exact Qam (Qf o c) (Nat.le_refl _)
  ·have q:(y==13)=false:=by rw[beq_eq_false_iff_ne];exact hy13
   have i:=Zh (show R=⟨from_,from_,(from_:Int)+1,1⟩ from by rw[b.out,if_neg hy13,if_neg (by omega)])
   clear b hy13
   go_wp2_with fail
   refine bodyPost_ret (v:=.agg (Ln.mk from_ from_ ((from_:Int)+1) 1).cells) (by simp[results,Tryz.results66,go_sem,Ln.cells,u,t,p,l]<;>omega) rfl ⟨by rw[i.out],?_⟩
   exact Qam (Qf o c) (Nat.le_refl _)
 ·obtain⟨m,rfl⟩:∃m,n=m+1:=⟨n-1,by omega⟩
  have k:=Qap D g enc s (m:Int) ((m:Int)+2) _ (h.below o) (by omega) (by omega)
  rw[Nat.add_sub_cancel] at C
  rw[QqH _ _ (by omega),B,C] at k
  have f:=Zh k
  have d:((m+1:Nat):Int)+1=(m:Int)+2:=by omega
  rw[d]
  have S:from_<=m:=by omega
  clear k K C B hc d
  go_enter Tryz.func66,Tryz.ntmps66
  by_cases hlt:from_<m
  ·go_wp2_with fail
   refine(f.out).mono ?_
   rintro e w1 ⟨v,rfl,a,c⟩
   obtain⟨⟨u,t,p,l⟩,L,u1,u2,u3⟩:=QK (A.below c)
   obtain⟨r,cap,rfl,H,F⟩:=a.form (by simp)
   have x0:=a.cells (g:=r) rfl 0 (.int .i64 x) (by simp)
   have E:=a.cells (g:=r) rfl 1 (.int .i64 y) (by simp)
   simp[Addr.add] at x0 E
   clear a f A
   by_cases hy13:y=13
   ·subst hy13
    have i:=Zh (show R=⟨from_,(m:Int)+1,(m:Int)+2,3⟩ from by rw[b.out,if_pos rfl];simp;omega)
    clear b
    go_wp2_with fail
    refine bodyPost_ret (v:=.agg (Ln.mk from_ ((m:Int)+1) ((m:Int)+2) 3).cells) (by simp[results,Tryz.results66,go_sem,Ln.cells,u,t,p,l]<;>omega) rfl ⟨by rw[i.out],?_⟩
    exact Qam (Qf o c) (Nat.le_refl _)
   ·have q:(y==13)=false:=by rw[beq_eq_false_iff_ne];exact hy13
    by_cases hx13:x=13
    ·subst hx13
     have j:=Zh hy13
     clear hy13
     have i:=Zh (show R=⟨from_,(m:Int),(m:Int)+2,2⟩ from by rw[b.out,if_neg j.out,if_pos ⟨by omega,rfl⟩];simp;omega)
     clear b
     go_wp2_with fail
     refine bodyPost_ret (v:=.agg (Ln.mk from_ ((m:Int)) ((m:Int)+2) 2).cells) (by simp[results,Tryz.results66,go_sem,Ln.cells,u,t,p,l]<;>omega) rfl ⟨by rw[i.out],?_⟩
     exact Qam (Qf o c) (Nat.le_refl _)
    ·have Q:(x==13)=false:=by rw[beq_eq_false_iff_ne];exact hx13
     have j:=Zh hy13
     have z:=Zh hx13
     clear hy13 hx13
     have i:=Zh (show R=⟨from_,(m:Int)+1,(m:Int)+2,1⟩ from by rw[b.out,if_neg j.out,if_neg (fun h=>z.out h.2)];simp;omega)
     clear b
     go_wp2_with fail
     refine bodyPost_ret (v:=.agg (Ln.mk from_ ((m:Int)+1) ((m:Int)+2) 1).cells) (by simp[results,Tryz.results66,go_sem,Ln.cells,u,t,p,l]<;>omega) rfl ⟨by rw[i.out],?_⟩
     exact Qam (Qf o c) (Nat.le_refl _)
  ·obtain rfl:from_=m:=by omega
   go_wp2_with fail
   refine(f.out).mono ?_
   rintro e w1 ⟨v,rfl,a,c⟩
   obtain⟨⟨u,t,p,l⟩,L,u1,u2,u3⟩:=QK (A.below c)
   obtain⟨r,cap,rfl,H,F⟩:=a.form (by simp)
   have x0:=a.cells (g:=r) rfl 0 (.int .i64 x) (by simp)
   have E:=a.cells (g:=r) rfl 1 (.int .i64 y) (by simp)
   simp[Addr.add] at x0 E
   clear a f A
   by_cases hy13:y=13
   ·subst hy13
    have i:=Zh (show R=⟨from_,(from_:Int)+1,(from_:Int)+2,3⟩ from by rw[b.out,if_pos rfl];simp;omega)
    clear b
    go_wp2_with fail
    refine bodyPost_ret (v:=.agg (Ln.mk from_ ((from_:Int)+1) ((from_:Int)+2) 3).cells) (by simp[results,Tryz.results66,go_sem,Ln.cells,u,t,p,l]<;>omega) rfl ⟨by rw[i.out],?_⟩
    exact Qam (Qf o c) (Nat.le_refl _)
   ·have q:(y==13)=false:=by rw[beq_eq_false_iff_ne];exact hy13
    by_cases hx13:x=13
    ·subst hx13
     have j:=Zh hy13
     clear hy13
     have i:=Zh (show R=⟨from_,(from_:Int),(from_:Int)+2,2⟩ from by rw[b.out,if_neg j.out,if_pos ⟨by omega,rfl⟩];simp;omega)
     clear b
     go_wp2_with fail
     refine bodyPost_ret (v:=.agg (Ln.mk from_ ((from_:Int)) ((from_:Int)+2) 2).cells) (by simp[results,Tryz.results66,go_sem,Ln.cells,u,t,p,l]<;>omega) rfl ⟨by rw[i.out],?_⟩
     exact Qam (Qf o c) (Nat.le_refl _)
    ·have Q:(x==13)=false:=by rw[beq_eq_false_iff_ne];exact hx13
     have j:=Zh hy13
     have z:=Zh hx13
     clear hy13 hx13
     have i:=Zh (show R=⟨from_,(from_:Int)+1,(from_:Int)+2,1⟩ from by rw[b.out,if_neg j.out,if_neg (fun h=>z.out h.2)];simp;omega)
     clear b
     go_wp2_with fail
     refine bodyPost_ret (v:=.agg (Ln.mk from_ ((from_:Int)+1) ((from_:Int)+2) 1).cells) (by simp[results,Tryz.results66,go_sem,Ln.cells,u,t,p,l]<;>omega) rfl ⟨by rw[i.out],?_⟩
     exact Qam (Qf o c) (Nat.le_refl _)
def QaG (ds:List (Int × Int)):Nat:=Qdk (ds.map Prod.fst) ds.length
def sk (ds:List (Int × Int))(k:Nat):Nat:=(sF ds k).toNat
theorem Qen (ds:List (Int × Int)):sk ds 0=0:=rfl
theorem QmN {A:List Int}{p:Nat}(h:isE A p=true):0<p/\p<=A.length:=by
 unfold isE at h
 simp only[decide_eq_true_eq] at h
 exact⟨h.1,h.2.1⟩
section
variable {ds:List (Int × Int)} (hp:PosD ds)
include hp
theorem Qeg {k:Nat}(c:0<k)(h1:k<=QaG ds):sF ds (k:Int)=(sk ds k:Int)/\isE (ds.map Prod.fst) (sk ds k)=true/\Qdk (ds.map Prod.fst) (sk ds k)=k:=by
 obtain⟨p,a,b,d⟩:=Qre hp (k:=(k:Int)) (by omega) (by unfold QaG at h1;omega)
 have:sk ds k=p:=by unfold sk;rw[a];rfl
 rw[this]
 exact⟨a,b,by omega⟩
theorem QeF {k:Nat}(h1:k<=QaG ds):sF ds (k:Int)=(sk ds k:Int)/\Qdk (ds.map Prod.fst) (sk ds k)=k/\sk ds k<=ds.length:=by
 rcases Nat.eq_zero_or_pos k with h|h
 ·subst h;exact⟨rfl,rfl,Nat.zero_le _⟩
 ·have:=Qeg hp h h1
  have h2:=(QmN this.2.1).2
  rw[List.length_map] at h2
  exact⟨this.1,this.2.2,h2⟩
theorem Ql3 {k:Nat}(h1:k<QaG ds):sk ds k<sk ds (k+1):=by
 have h2:=QeF hp (Nat.le_of_lt h1)
 have a:=QeF hp (k:=k+1) h1
 rcases Nat.lt_or_ge (sk ds k) (sk ds (k+1)) with h|h
 ·exact h
 ·have:=QaT (ds.map Prod.fst) h
  omega
theorem Qmm:bF ds (ds.length:Int)=QaG ds:=by
 rw[Qqk hp,Int.toNat_natCast,Nat.min_self]
 rfl
end
def ofF (ds:List (Int × Int))(at_:Int):Nat:=Qdk (ds.map Prod.fst) (min at_.toNat ds.length)
theorem Qfm (D:Nat->Prop)(g:Nat)(enc:Int)(ds:List (Int × Int))(at_:Int)(w:World)(h:TextAt w D g enc ds) :
  Calls Tryz.prog 19 #[.pointer (some ⟨g,0,none⟩),.int .i64 at_] w fun e w'=>e=.returned (.int .i64 (ofF ds at_:Nat))/\ZB w w':=by
 have hp:=h.pos
 have l:=QaS D g enc ds w h
 have f:=fun(w':World) (f:ZB w w') (v:Int)=>Qcy D g enc ds v w' (h.below f)
 obtain⟨V,m⟩:=ZN (ofF ds at_)
 have c : ∀v:Int,min v.toNat ds.length=min at_.toNat ds.length->bF ds v=(V:Int):=fun v c=>by rw[Qqk hp,c,<-m];rfl
 have d:=h.len
 obtain⟨n,hn⟩:=ZN (ds.length)
 rw[m]
 rw[hn] at l c d
 have o:=Zh l
 have j:=Zh f
 have i:=Zh c
 clear l f c m hn hp
 by_cases h0:at_<0
 ·have h1 : ¬(n:Int)<0:=by omega
  have e:=i.out 0 (by omega)
  have k:=j.out
  have q:=Zh e
  clear e k
  go_enter Tryz.func19,Tryz.ntmps19
  go_wp2_with fail
  refine(o.out).mono ?_
  rintro e w1 ⟨rfl,a⟩
  go_wp2_with fail
  all_goals
   refine(j.out _ a _).mono ?_
   rintro e p ⟨rfl,b⟩
   go_wp2_with fail
   go_ret
   exact⟨QaB (i.out _ (by omega)),Qf a b⟩
 ·by_cases h1:at_<=(n:Int)
  ·go_enter Tryz.func19,Tryz.ntmps19
   go_wp2_with fail
   refine(o.out).mono ?_
   rintro e w1 ⟨rfl,a⟩
   go_wp2_with fail
   all_goals
    refine(j.out _ a _).mono ?_
    rintro e p ⟨rfl,b⟩
    go_wp2_with fail
    go_ret
    exact⟨QaB (i.out _ (by omega)),Qf a b⟩
  ·go_enter Tryz.func19,Tryz.ntmps19
   go_wp2_with fail
   refine(o.out).mono ?_
   rintro e w1 ⟨rfl,a⟩
   go_wp2_with fail
   all_goals
    refine(j.out _ a _).mono ?_
    rintro e p ⟨rfl,b⟩
    go_wp2_with fail
    go_ret
    exact⟨QaB (i.out _ (by omega)),Qf a b⟩
def Qq7 (ds:List (Int × Int)):Bool:=decide (0<ds.length/\sk ds (QaG ds)=ds.length)
theorem QmO (D:Nat->Prop)(g:Nat)(enc:Int)(ds:List (Int × Int))(w:World)(h:TextAt w D g enc ds) :
  Calls Tryz.prog 64 #[.pointer (some ⟨g,0,none⟩)] w fun e w'=>e=.returned (.bool (Qq7 ds))/\ZB w w':=by
 have hp:=h.pos
 have o:=QaS D g enc ds w h
 have c:=fun(w':World) (c:ZB w w')=>Qcy D g enc ds (ds.length:Int) w' (h.below c)
 have l:=fun(w':World) (c:ZB w w')=>QgB D g enc ds (QaG ds:Int) w' (h.below c)
 rw[Qmm hp] at c
 rw[(QeF hp (Nat.le_refl _)).1] at l
 obtain⟨B,p⟩:=ZN (Qq7 ds)
 have k:=h.len
 obtain⟨n,hn⟩:=ZN (ds.length)
 obtain⟨T,m⟩:=ZN (QaG ds)
 obtain⟨q,r⟩:=ZN (sk ds T)
 have j:B=decide (0<n/\q=n):=by rw[<-p];unfold Qq7;rw[hn,m,r]
 rw[p]
 rw[m] at c l
 rw[r] at l
 rw[hn] at o c k
 have u:=Zh o
 have v:=Zh c
 have HS:=Zh l
 have f:=Zh j
 clear o c l p hn m r hp j
 by_cases h0:0<n
 ·have x:decide (0<n)=true:=by simpa using h0
  have s:decide ((0:Int)<(n:Int))=true:=by simpa using h0
  by_cases hqn:q=n
  ·subst hqn
   go_enter Tryz.func64,Tryz.ntmps64
   go_wp2_with fail
   refine(u.out).mono ?_
   rintro e w1 ⟨rfl,b⟩
   go_wp2_with fail
   refine(v.out _ b).mono ?_
   rintro e y ⟨rfl,d⟩
   have a:=Qf b d
   go_wp2_with fail
   refine(HS.out _ a).mono ?_
   rintro e w3 ⟨rfl,i⟩
   go_wp2_with fail
   go_ret
   refine⟨Qb3 ?_,Qf a i⟩
   have:=f.out
   simp[h0] at this
   simp[this]
  ·have z:((q:Int)==(n:Int))=false:=by rw[beq_eq_false_iff_ne];omega
   have t:=Zh hqn
   clear hqn
   go_enter Tryz.func64,Tryz.ntmps64
   go_wp2_with fail
   refine(u.out).mono ?_
   rintro e w1 ⟨rfl,b⟩
   go_wp2_with fail
   refine(v.out _ b).mono ?_
   rintro e y ⟨rfl,d⟩
   have a:=Qf b d
   go_wp2_with fail
   refine(HS.out _ a).mono ?_
   rintro e w3 ⟨rfl,i⟩
   go_wp2_with fail
   go_ret
   refine⟨Qb3 ?_,Qf a i⟩
   have:=f.out
   rw[this]
   have hn:=t.out
   first|rfl|(simp[hn];done)|(rw[eq_comm];simp[hn])
 ·have x:decide (0<n)=false:=by simpa using h0
  have s:decide ((0:Int)<(n:Int))=false:=by simpa using h0
  go_enter Tryz.func64,Tryz.ntmps64
  go_wp2_with fail
  refine(u.out).mono ?_
  rintro e w1 ⟨rfl,b⟩
  go_wp2_with fail
  go_ret
  refine⟨Qb3 ?_,b⟩
  have:=f.out
  rw[this]
  simp[h0]
def QL (ds:List (Int × Int)):Nat:=QaG ds+(if Qq7 ds=true then 0 else 1)
theorem QbD (D:Nat->Prop)(g:Nat)(enc:Int)(ds:List (Int × Int))(w:World)(h:TextAt w D g enc ds) :
  Calls Tryz.prog 17 #[.pointer (some ⟨g,0,none⟩)] w fun e w'=>e=.returned (.int .i64 (QL ds:Nat))/\ZB w w':=by
 have hp:=h.pos
 have j:=QaS D g enc ds w h
 have c:=fun(w':World) (c:ZB w w')=>Qcy D g enc ds (ds.length:Int) w' (h.below c)
 have l:=fun(w':World) (c:ZB w w')=>QmO D g enc ds w' (h.below c)
 rw[Qmm hp] at c
 have d:=h.len
 have k:QaG ds<=1073741824:=Nat.le_trans (Qct _ _) d
 unfold QL
 obtain⟨B,o⟩:=ZN (Qq7 ds)
 obtain⟨n,hn⟩:=ZN (ds.length)
 obtain⟨T,m⟩:=ZN (QaG ds)
 rw[o] at l ⊢
 rw[m] at c k ⊢
 rw[hn] at j c d
 have q:=Zh j
 have r:=Zh c
 have p:=Zh l
 clear j c l o hn m hp
 cases B
 ·rw[if_neg (by simp)]
  go_enter Tryz.func17,Tryz.ntmps17
  go_wp2_with fail
  refine(q.out).mono ?_
  rintro e w1 ⟨rfl,b⟩
  go_wp2_with fail
  refine(r.out _ b).mono ?_
  rintro e s ⟨rfl,f⟩
  have a:=Qf b f
  go_wp2_with fail
  refine(p.out _ a).mono ?_
  rintro e w3 ⟨rfl,i⟩
  go_wp2_with fail
  go_ret
  exact⟨QaB (by omega),Qf a i⟩
 ·rw[if_pos rfl]
  go_enter Tryz.func17,Tryz.ntmps17
  go_wp2_with fail
  refine(q.out).mono ?_
  rintro e w1 ⟨rfl,b⟩
  go_wp2_with fail
  refine(r.out _ b).mono ?_
  rintro e s ⟨rfl,f⟩
  have a:=Qf b f
  go_wp2_with fail
  refine(p.out _ a).mono ?_
  rintro e w3 ⟨rfl,i⟩
  go_wp2_with fail
  go_ret
  exact⟨rfl,Qf a i⟩
def Qo (ds:List (Int × Int))(i:Nat):Ln:=if i<QaG ds then Qb8 (ds.map Prod.fst) (sk ds i) (sk ds (i+1)) else ⟨sk ds i,ds.length,ds.length,0⟩
theorem Qc0 (D:Nat->Prop)(g:Nat)(enc:Int)(ds:List (Int × Int))(i:Nat)(w:World)(h:TextAt w D g enc ds)(O:i<=QaG ds) :
  Calls Tryz.prog 18 #[.pointer (some ⟨g,0,none⟩),.int .i64 (i:Int)] w fun e w'=>e=.returned (.tuple #[.agg (Qo ds i).cells,.int .i64 0])/\ZB w w':=by
 have hp:=h.pos
 have M:ZB w (w.alloc (.cells (Ln.mk 0 0 0 0).cells 59)):=Qa (Below.refl _ w)
 have b4:Blk (w.alloc (.cells (Ln.mk 0 0 0 0).cells 59)) w.heap.size 59 (Ln.mk 0 0 0 0).cells:=Blk.new w _ _
 have F:=fun(w':World) (a:ZB w w')=>QaS D g enc ds w' (h.below a)
 have a:=fun(w':World) (a:ZB w w')=>Qcy D g enc ds (ds.length:Int) w' (h.below a)
 have G:=fun(w':World) (a:ZB w w')=>QgB D g enc ds (i:Int) w' (h.below a)
 rw[Qmm hp] at a
 have z:=QeF hp O
 rw[z.1] at G
 have f:=h.len
 have I:QaG ds<=1073741824:=Nat.le_trans (Qct _ _) f
 obtain⟨R,J⟩:=ZN (Qo ds i)
 rw[J]
 obtain⟨p,b⟩:=ZN (sk ds i)
 have A:p<=ds.length:=by rw[<-b];exact z.2.2
 rw[b] at G
 by_cases hlt:i<QaG ds
 ·have B:=Ql3 hp hlt
  have E:=QeF hp (k:=i+1) hlt
  have r:=fun(w':World) (a:ZB w w')=>QgB D g enc ds ((i+1:Nat):Int) w' (h.below a)
  rw[E.1] at r
  have x:=fun(w':World) (a:ZB w w')=>Qla D g enc ds (sk ds i) (sk ds (i+1)) w' (h.below a) B E.2.2
  have c:Qb8 (ds.map Prod.fst) (sk ds i) (sk ds (i+1))=R:=by rw[<-J];unfold Qo;rw[if_pos hlt]
  rw[c,b] at x
  obtain⟨n,hn⟩:=ZN (ds.length)
  obtain⟨T,H⟩:=ZN (QaG ds)
  obtain⟨p2,L⟩:∃p,sk ds (i+1)=p:=⟨_,rfl⟩
  rw[hn] at F a f A
  rw[H] at a I hlt
  rw[L] at r x
  have s:((i+1:Nat):Int)=(i:Int)+1:=by omega
  rw[s] at r
  simp only[Ln.cells] at x
  have K:=Zh F
  have X:=Zh a
  have HS:=Zh G
  have V:=Zh r
  have S:=Zh x
  clear F a G r x c J hp b z E hn H L O B s
  have Q:(0:Int)<=(p:Int):=by omega
  go_enter Tryz.func18,Tryz.ntmps18
  go_wp2_with fail
  refine(HS.out _ M).mono ?_
  rintro e w1 ⟨rfl,j⟩
  have y:=Qf M j
  go_wp2_with fail
  refine(K.out _ y).mono ?_
  rintro e Z ⟨rfl,d⟩
  have u:=Qf y d
  go_wp2_with fail
  refine(X.out _ u).mono ?_
  rintro e w3 ⟨rfl,m⟩
  have l:=Qf u m
  go_wp2_with fail
  refine(V.out _ l).mono ?_
  rintro e w4 ⟨rfl,q⟩
  have t:=Qf l q
  go_wp2_with fail
  refine(S.out _ t).mono ?_
  rintro e w5 ⟨rfl,o⟩
  have C:=Qf t o
  obtain⟨⟨Y,W,U,N⟩,u0,u1,u2,u3⟩:=QK (b4.below (Qf (Qf (Qf (Qf j d) m) q) o))
  go_wp2_with fail
  refine bodyPost_ret (v:=.tuple #[.agg R.cells,.int .i64 0]) (by simp[results,Tryz.results18,go_sem,Ln.cells,Y,W,U,N]) rfl ⟨rfl,?_⟩
  exact Qam C (Nat.le_refl _)
 ·have c:R=⟨p,ds.length,ds.length,0⟩:=by rw[<-J];unfold Qo;rw[if_neg hlt,b]
  obtain⟨n,hn⟩:=ZN (ds.length)
  obtain⟨T,H⟩:=ZN (QaG ds)
  rw[hn] at F a f A c
  rw[H] at a I hlt
  have K:=Zh F
  have X:=Zh a
  have HS:=Zh G
  have P:=Zh c
  clear F a G c J hp b z hn H O
  have Q:(0:Int)<=(p:Int):=by omega
  go_enter Tryz.func18,Tryz.ntmps18
  go_wp2_with fail
  refine(HS.out _ M).mono ?_
  rintro e w1 ⟨rfl,j⟩
  have y:=Qf M j
  go_wp2_with fail
  refine(K.out _ y).mono ?_
  rintro e Z ⟨rfl,d⟩
  have u:=Qf y d
  go_wp2_with fail
  refine(X.out _ u).mono ?_
  rintro e w3 ⟨rfl,m⟩
  have l:=Qf u m
  go_wp2_with fail
  refine(K.out _ l).mono ?_
  rintro e w4 ⟨rfl,q⟩
  have t:=Qf l q
  go_wp2_with fail
  refine(K.out _ t).mono ?_
  rintro e w5 ⟨rfl,o⟩
  have C:=Qf t o
  obtain⟨⟨Y,W,U,N⟩,u0,u1,u2,u3⟩:=QK (b4.below (Qf (Qf (Qf (Qf j d) m) q) o))
  go_wp2_with fail
  refine bodyPost_ret (v:=.tuple #[.agg (Ln.mk p n n 0).cells,.int .i64 0]) (by simp[results,Tryz.results18,go_sem,Ln.cells,Y,W,U,N]) rfl ⟨by rw[P.out],?_⟩
  exact Qam C (Nat.le_refl _)
def Qja:List Int->Int
 | []=>0
 |a::r=>if a=10 then 1 else if a=13 then (if r.head? = some 10 then 2 else 3) else Qja r
theorem QmM (pre r:List Int)(h : ∀x ∈ pre,x≠10/\x≠13):Qja (pre++r)=Qja r:=by
 induction pre with
 |nil=>rfl
 |cons a pre ih=>
  have b:=h a (by simp)
  rw[List.cons_append,Qja,if_neg b.1,if_neg b.2]
  exact ih (fun x c=>h x (by simp[c]))
theorem Qlm (A:List Int):∃pre r,A=pre++r/\(∀x ∈ pre,x≠10/\x≠13)/\(r=[]\/∃b s,r=b::s/\(b=10\/b=13)):=by
 induction A with
 |nil=>exact⟨[],[],rfl,by simp,.inl rfl⟩
 |cons a A ih=>
  by_cases ha:a=10\/a=13
  ·exact⟨[],a::A,rfl,by simp,.inr ⟨a,A,rfl,ha⟩⟩
  ·obtain⟨pre,r,h1,h2,d⟩:=ih
   refine⟨a::pre,r,by rw[h1];rfl,fun x c=>?_,d⟩
   rcases List.mem_cons.1 c with rfl|c
   ·omega
   ·exact h2 x c
theorem QjR (pre r:List Int)(k:Nat)(h:k<pre.length):(pre++r).getD k 0 ∈ pre:=by
 rw[List.getD_eq_getElem?_getD,List.getElem?_append_left h,List.getElem?_eq_getElem h]
 exact List.getElem_mem _
theorem QjV (pre r:List Int)(k:Nat):(pre++r).getD (pre.length+k) 0=r.getD k 0:=by
 rw[List.getD_eq_getElem?_getD,List.getElem?_append_right (by omega),List.getD_eq_getElem?_getD,Nat.add_sub_cancel_left]
theorem QhX (A:List Int)(m:Nat)(h : ∀q,0<q->q<=m->isE A q=false):Qdk A m=0:=by
 induction m with
 |zero=>rfl
 |succ m ih=>
  rw[QbI,ih (fun q h1 h2=>h q h1 (by omega)),h (m+1) (by omega) (Nat.le_refl _)]
  simp
theorem Qr8 {c:List (Int × Int)}(hp:PosD c){p:Nat}(f:isE (c.map Prod.fst) p=true)(h1 : ∀q,0<q->q<p->isE (c.map Prod.fst) q=false):0<QaG c/\sk c 1=p:=by
 have d:=QmN f
 rw[List.length_map] at d
 have c0:=QhX (c.map Prod.fst) (p-1) (fun q a b=>h1 q a (by omega))
 have c1:Qdk (c.map Prod.fst) p=1:=by
  have:=QbI (c.map Prod.fst) (p-1)
  rw[show p-1+1=p by omega,c0,f] at this
  simpa using this
 have e:1<=QaG c:=by
  unfold QaG
  rw[<-c1]
  exact QaT _ d.2
 obtain⟨_,h2,g⟩:=Qeg hp (k:=1) (by omega) e
 refine⟨e,?_⟩
 rcases Nat.lt_trichotomy (sk c 1) p with h|h|h
 ·have:=QaT (c.map Prod.fst) (m:=sk c 1) (n:=p-1) (by omega)
  omega
 ·exact h
 ·have:=Qel (c.map Prod.fst) h h2
  omega
theorem Qob {c:List (Int × Int)}(hp:PosD c):(Qo c 0).brk=Qja (c.map Prod.fst):=by
 obtain⟨pre,r,i,d,n⟩:=Qlm (c.map Prod.fst)
 have f : ∀q,0<q->q<=pre.length->isE (c.map Prod.fst) q=false:=by
  intro q h1 h2
  unfold isE
  rw[decide_eq_false_iff_not]
  rintro⟨_,_,l⟩
  have h:=d _ (QjR pre r (q-1) (by omega))
  rw[<-i] at h
  omega
 have key : ∀p,isE (c.map Prod.fst) p=true->(∀q,0<q->q<p->isE (c.map Prod.fst) q=false)->(Qo c 0).brk=if (c.map Prod.fst).getD (p-1) 0=13 then 3 else if 2<=p/\(c.map Prod.fst).getD (p-2) 0=13 then 2 else 1:=by
  intro p h1 h2
  obtain⟨l,h⟩:=Qr8 hp h1 h2
  unfold Qo
  rw[if_pos l,Qen,h]
  unfold Qb8
  rw[Nat.zero_add]
  split
  ·rfl
  ·split<;>rfl
 have a:(c.map Prod.fst).length=pre.length+r.length:=by rw[i,List.length_append]
 rw[show Qja (c.map Prod.fst)=Qja r by rw[i];exact QmM pre r d]
 rcases n with rfl|⟨b,s,rfl,m⟩
 ·have u:QaG c=0:=by
   unfold QaG
   refine QhX _ _ (fun q h1 h2=>f q h1 ?_)
   rw[List.length_map] at a
   simp at a
   omega
  unfold Qo
  rw[if_neg (by omega)]
  rfl
 ·have g:(c.map Prod.fst).getD pre.length 0=b:=by
   have:=QjV pre (b::s) 0
   rw[<-i] at this
   exact this
  have j:(c.map Prod.fst).getD (pre.length+1) 0=s.getD 0 0:=by
   have:=QjV pre (b::s) 1
   rw[<-i] at this
   exact this
  simp only[List.length_cons] at a
  have gp : ∀k,k<pre.length->(c.map Prod.fst).getD k 0≠13:=fun k o=>by
   have:=(d _ (QjR pre (b::s) k o)).2
   rw[<-i] at this
   exact this
  rcases m with rfl|rfl
  ·rw [key (pre.length + 1) (by
    unfold isE
    rw[decide_eq_true_eq]
    exact⟨by omega,by omega,.inl (by rw[Nat.add_sub_cancel];exact g)⟩) (fun q h1 h2=>f q h1 (by omega))]
   rw[Nat.add_sub_cancel,g,if_neg (by omega),if_neg ?_]
   ·rfl
   ·rintro⟨h1,h2⟩
    exact gp _ (by omega) h2
  ·by_cases hs:s.head? = some 10
   ·obtain⟨t,rfl⟩:∃t,s=10::t:=by
     cases s with
     |nil=>cases hs
     |cons x t=>simp at hs;exact⟨t,by rw[hs]⟩
    simp only[List.getD_cons_zero,List.length_cons] at j a
    rw [key (pre.length + 2) (by
     unfold isE
     rw[decide_eq_true_eq]
     exact ⟨by omega, by omega, .inl (by rw [show pre.length + 2 - 1 = pre.length + 1 by omega]; exact j)⟩) (fun q h1 h2=>by
      rcases Nat.lt_or_ge pre.length q with l|l
      ·have e:q=pre.length+1:=by omega
       rw[e]
       unfold isE
       rw[decide_eq_false_iff_not,Nat.add_sub_cancel,g,j]
       rintro⟨_,_,h|h⟩
       ·omega
       ·apply h.2
        exact⟨by omega,rfl⟩
      ·exact f q h1 l)]
    rw[show pre.length+2-1=pre.length+1 by omega,j,if_neg (by omega),Nat.add_sub_cancel,g,if_pos ⟨by omega,rfl⟩]
    rfl
   ·rw [key (pre.length + 1) (by
     unfold isE
     rw[decide_eq_true_eq]
     refine⟨by omega,by omega,.inr ⟨by rw[Nat.add_sub_cancel];exact g,?_⟩⟩
     rintro⟨h1,h2⟩
     rw[j] at h2
     apply hs
     cases s with
     |nil=>
      rw[List.length_nil] at a
      omega
     |cons x t=>simp at h2 ⊢;exact h2) (fun q h1 h2=>f q h1 (by omega))]
    rw[Nat.add_sub_cancel,g,if_pos rfl]
    unfold Qja
    rw[if_neg (by omega),if_pos rfl,if_neg hs]
theorem Qn1 (ga gf p k s:Nat)(w:World)(b:Blk w ga 3 #[.int .i64 (p:Int)])(a:Blk w gf 3 #[.int .i64 (s:Int)])(c:ga≠gf)(f:k<=2147483648)(hp:p<=2147483648) :
  Calls Tryz.prog 96 #[.int .i64 (k:Int),.pointer (some ⟨ga,0,none⟩),.pointer (some ⟨gf,0,none⟩)] w fun e w'=>
   e=.returned (.bool (decide (k<=p)))/\(Blk w' ga 3 #[.int .i64 (p:Int)]/\Blk w' gf 3 #[.int .i64 ((if p<k then k else s:Nat):Int)])/\Fr (· = gf) w w':=by
 have c0:=b.cell 0
 have c1:=a.cell 0
 have d:=a.frozen 0
 simp at c0 c1
 by_cases h:p<k
 ·go_enter Tryz.func96,Tryz.ntmps96
  go_wp2
  go_ret
  refine⟨Qb3 ?_,⟨b.far c _,?_⟩,(Fr.refl _ _).set1 _ _⟩
  ·show decide (k<=p)=decide (k<=p)<;>rfl
  ·exact a.set_ 0 _
 ·go_enter Tryz.func96,Tryz.ntmps96
  go_wp2
  go_ret
  refine⟨Qb3 ?_,⟨b,?_⟩,Fr.refl _ _⟩
  ·show decide (k<=p)=decide (k<=p)<;>rfl
  ·exact a
noncomputable def Qec (l:List Int)(p:Nat):Nat:=
 if p<l.length then Qdl (fun(s k:Nat)=>(decide (k<=p),if p<k then k else s)) l.length (QeI l (Qfs l (p+1))) else l.length
theorem Qkc (l:List Int)(k:Nat):Qei l k<=k:=by
 induction k with
 |zero=>simp[Qei]
 |succ k ih=>simp only[Qei];split<;>omega
theorem QoX (l:List Int)(p:Nat):Qfs l p<=l.length:=by
 have:=Qkc l (min p l.length-1)
 unfold Qfs
 omega
theorem Qpv (D:Nat->Prop)(A:Option Addr)(n c:Nat)(l:List Int)(p:Nat)(w:World)(o:Ints w D A n l)(hn:n<=2147483647)(hp:p<=2147483647) :
    Calls Tryz.prog 41 #[.slice A n c,.int .i64 (p:Int)] w fun e w'=>e=.returned (.int .i64 (Qec l p:Nat))/\ZB w w':=by
  have E:l.length<=n:=Nat.le_of_eq o.len
  have C:n<=l.length:=Nat.le_of_eq o.len.symm
  by_cases h:p<n
  · go_enter Tryz.func41,Tryz.ntmps41
    have K:(0:Int)<=(p:Int)/\¬n<=p:=⟨by omega,by omega⟩
    go_wp2_with fail
    have g:((p:Int)+1)=((p+1:Nat):Int):=by omega
    rw[g]
    clear g
    have y:ZB w ((w.alloc (.cells #[.int .i64 (p:Int)] 3)).alloc (.cells #[.int .i64 (n:Int)] 3)):=((Below.refl _ w).alloc (Nat.le_refl _) _).alloc (by simp) _
    have t:Blk ((w.alloc (.cells #[.int .i64 (p:Int)] 3)).alloc (.cells #[.int .i64 (n:Int)] 3)) w.heap.size 3 #[.int .i64 (p:Int)]:=(Blk.new w _ _).alloc _
    have q:Blk ((w.alloc (.cells #[.int .i64 (p:Int)] 3)).alloc (.cells #[.int .i64 (n:Int)] 3)) (w.heap.size+1) 3 #[.int .i64 (n:Int)]:=by
      have:=Blk.new (w.alloc (.cells #[.int .i64 (p:Int)] 3)) 3 #[.int .i64 (n:Int)]
      simpa using this
    refine(Qpt D A n c l (p+1) _ (Reads.below o y) (by omega) (by omega)).mono ?_
    rintro e w1 ⟨rfl,d⟩
    go_wp2_with fail
    have x:Ints w1 (fun b=>b<w.heap.size) A n l:=Reads.below (Reads.below (Reads.more o (fun b _ h=>h) (by omega)) y) d
    have z:=t.below d
    have r:=q.below d
    have I:w.heap.size+2<=w1.heap.size:=by have:=d.size;simp at this;omega
    have B:ZB w w1:=y.trans (d.mono (by simp;omega))
    have F:Yields 96 #[.pointer (some ⟨w.heap.size,0,none⟩),.pointer (some ⟨w.heap.size+1,0,none⟩)] (· = w.heap.size+1) w1.heap.size
        (fun(s:Nat) w'=>Blk w' w.heap.size 3 #[.int .i64 (p:Int)]/\Blk w' (w.heap.size+1) 3 #[.int .i64 (s:Int)]) (fun(s k:Nat)=>(decide (k<=p),if p<k then k else s)) n (fun _=>0):=by
      constructor
      · intro s k h;omega
      · intro s k u v _ ⟨m,j⟩ _
        exact Qn1 _ _ p k s u m j (by omega) (by omega) (by omega)
      · exact Tryz.call96
      · intro s u w3 ⟨m,j⟩ v
        exact⟨v _ _ m (fun J f e=>by injection e with _ e;exact absurd e (by decide)),v _ _ j (fun J f e=>by injection e with _ e;exact absurd e (by decide))⟩
    have G:=QoX l (p+1)
    refine(QhE _ _ _ _ _ _ _ A n c l (Qfs l (p+1)) n _ x (fun b h _ L=>by omega) (by omega) (by omega) F ⟨z,r⟩ (by simp)).mono ?_
    rintro e u ⟨rfl,⟨m,j⟩,H⟩
    have c1:=j.cell 0
    simp at c1
    have a:Qec l p=Qdl (fun(s k:Nat)=>(decide (k<=p),if p<k then k else s)) n (QeI l (Qfs l (p+1))):=by
      unfold Qec
      rw[if_pos (by omega),show l.length=n by omega]
    rw[<-a] at c1
    have N:=Zh a
    clear a
    go_wp2_with fail
    go_ret
    exact⟨rfl,bfr B H (fun i M=>by omega)⟩
  · go_enter Tryz.func41,Tryz.ntmps41
    go_wp2
    all_goals
      go_ret
      refine⟨QaB ?_,(Below.refl _ w).alloc (Nat.le_refl _) _⟩
      unfold Qec
      rw[if_neg (by omega)]
      first
        |(show (n:Int)=_;omega)
        |(show (p:Int)=_;omega)
def Qbb (a:List (Int × Int))(i:Nat):List Int:=seg (Qo a i).from_ (Qo a i).to_ (a.map Prod.fst)
def Qab (L:Ln)(i:Int)(A1:Option Addr)(n1 c1:Nat)(A2:Option Addr)(n2 c2:Nat):Array Value := #[.int .i64 L.from_,.int .i64 L.to_,.int .i64 L.next,.int .i64 L.brk,.int .i64 i,.slice A1 n1 c1,.slice A2 n2 c2]
def RowC (w:World)(D:Nat->Prop)(L:Ln)(i:Int)(C:List Int)(v:Array Value):Prop:=
 ∃A1 n1 c1 A2 n2 c2,v=Qab L i A1 n1 c1 A2 n2 c2/\Ints w D A1 n1 C/\n1<=c1/\Ints w D A2 n2 (Qbi C)/\n2<=c2
theorem RowC.below {w w':World}{D:Nat->Prop}{L:Ln}{i:Int}{C:List Int}{v:Array Value}(h:RowC w D L i C v)(a:ZB w w'):RowC w' D L i C v:=by
 obtain⟨A1,n1,c1,A2,n2,c2,e,h1,h2,c,b⟩:=h
 exact⟨A1,n1,c1,A2,n2,c2,e,Reads.below h1 a,h2,Reads.below c a,b⟩
theorem RowC.more {w:World}{D D':Nat->Prop}{L:Ln}{i:Int}{C:List Int}{v:Array Value}(h:RowC w D L i C v)(a : ∀b,D b->b<w.heap.size->D' b):RowC w D' L i C v:=by
 obtain⟨A1,n1,c1,A2,n2,c2,e,h1,h2,d,c⟩:=h
 exact⟨A1,n1,c1,A2,n2,c2,e,Reads.more h1 a (by decide),h2,Reads.more d a (by decide),c⟩
def QfT (L:Ln)(i:Int)(C:List Int)(w:World)(e:Ending)(w':World):Prop:=∃v,e=.returned (.agg v)/\RowC w' (fun b=>w.heap.size<=b) L i C v/\ZB w w'
theorem Q3 {a:List (Int × Int)}(hp:PosD a){i:Nat}(c:i<=QaG a):0<=(Qo a i).from_/\(Qo a i).from_<=(Qo a i).to_/\(Qo a i).to_<=(Qo a i).next/\(Qo a i).next<=a.length:=by
 have d:=QeF hp c
 unfold Qo
 split
 ·rename_i b
  have h1:=Ql3 hp b
  have h2:=QeF hp (k:=i+1) b
  unfold Qb8
  split
  ·dsimp only;omega
  ·split
   ·dsimp only;omega
   ·dsimp only;omega
 ·dsimp only;omega
theorem QaE {a:List (Int × Int)}(hp:PosD a){i:Nat}(b:i<=QaG a):((Qbb a i).length:Int)=(Qo a i).to_-(Qo a i).from_:=by
 have h:=Q3 hp b
 unfold Qbb seg
 simp
 omega
theorem QdI {w w1:World}{b:Nat}{c u1 u2 u3:Value}(a:ZB w w1)(h:w.cell? ⟨b,0,none⟩=some c/\w.cell? ⟨b,1,none⟩=some u1/\w.cell? ⟨b,2,none⟩=some u2/\w.cell? ⟨b,3,none⟩=some u3) :
  w1.cell? ⟨b,0,none⟩=some c/\w1.cell? ⟨b,1,none⟩=some u1/\w1.cell? ⟨b,2,none⟩=some u2/\w1.cell? ⟨b,3,none⟩=some u3:=
 ⟨Qh a h.1,Qh a h.2.1,Qh a h.2.2.1,Qh a h.2.2.2⟩
theorem Qgr {w:World}{b:Nat}{a u1 u2 u3:Value}(o:Obj)(h:w.cell? ⟨b,0,none⟩=some a/\w.cell? ⟨b,1,none⟩=some u1/\w.cell? ⟨b,2,none⟩=some u2/\w.cell? ⟨b,3,none⟩=some u3) :
  (w.alloc o).cell? ⟨b,0,none⟩=some a/\(w.alloc o).cell? ⟨b,1,none⟩=some u1/\(w.alloc o).cell? ⟨b,2,none⟩=some u2/\(w.alloc o).cell? ⟨b,3,none⟩=some u3:=QdI (Qa (Below.refl _ _)) h
theorem Qpw {w:World}{p:Addr}{u:Value}{b:Nat}{c u1 u2 u3:Value}(hp:b≠p.block)(h:w.cell? ⟨b,0,none⟩=some c/\w.cell? ⟨b,1,none⟩=some u1/\w.cell? ⟨b,2,none⟩=some u2/\w.cell? ⟨b,3,none⟩=some u3) :
  (w.setCell p u).cell? ⟨b,0,none⟩=some c/\(w.setCell p u).cell? ⟨b,1,none⟩=some u1/\(w.setCell p u).cell? ⟨b,2,none⟩=some u2/\(w.setCell p u).cell? ⟨b,3,none⟩=some u3:=by
 have a:=Below.heap_setCell w p u b hp
 exact⟨(World.cell?_of_block (w:=w) a).trans h.1,(World.cell?_of_block (w:=w) a).trans h.2.1,(World.cell?_of_block (w:=w) a).trans h.2.2.1,(World.cell?_of_block (w:=w) a).trans h.2.2.2⟩
theorem QiM {w:World}{b:Nat}{a u1 u2 u3:Value}(o:Obj)(h:w.drew.cell? ⟨b,0,none⟩=some a/\w.drew.cell? ⟨b,1,none⟩=some u1/\w.drew.cell? ⟨b,2,none⟩=some u2/\w.drew.cell? ⟨b,3,none⟩=some u3) :
  (w.alloc o).drew.cell? ⟨b,0,none⟩=some a/\(w.alloc o).drew.cell? ⟨b,1,none⟩=some u1/\(w.alloc o).drew.cell? ⟨b,2,none⟩=some u2/\(w.alloc o).drew.cell? ⟨b,3,none⟩=some u3:=QdI (w:=w) (w1:=(w.alloc o).drew) (Below.drew (Qa (Below.refl _ w))) h
theorem Qaj {w:World}{b:Nat}{L:Ln}{i:Int}{A1 A2:Option Addr}{n1 c1 n2 c2:Nat}(h:Blk w b 137 (Qab L i A1 n1 c1 A2 n2 c2)) :
  (w.cell? ⟨b,0,none⟩=some (.int .i64 L.from_)/\w.cell? ⟨b,1,none⟩=some (.int .i64 L.to_)/\w.cell? ⟨b,2,none⟩=some (.int .i64 L.next)/\w.cell? ⟨b,3,none⟩=some (.int .i64 L.brk)/\w.cell? ⟨b,4,none⟩=some (.int .i64 i) /\
   w.cell? ⟨b,5,none⟩=some (.slice A1 n1 c1)/\w.cell? ⟨b,6,none⟩=some (.slice A2 n2 c2)) /\
  w.frozen? ⟨b,0,none⟩=false/\w.frozen? ⟨b,1,none⟩=false/\w.frozen? ⟨b,2,none⟩=false/\w.frozen? ⟨b,3,none⟩=false/\w.frozen? ⟨b,4,none⟩=false/\w.frozen? ⟨b,5,none⟩=false/\w.frozen? ⟨b,6,none⟩=false:=
 ⟨⟨h.cell 0,h.cell 1,h.cell 2,h.cell 3,h.cell 4,h.cell 5,h.cell 6⟩,h.frozen 0,h.frozen 1,h.frozen 2,h.frozen 3,h.frozen 4,h.frozen 5,h.frozen 6⟩
theorem Qqp (w1:World){w3:World}(o:Obj)(a:Below ((w1.alloc o).alloc (.cells (Qab ⟨0,0,0,0⟩ 0 none 0 0 none 0 0) 137)).drew.heap.size ((w1.alloc o).alloc (.cells (Qab ⟨0,0,0,0⟩ 0 none 0 0 none 0 0) 137)).drew w3) :
  Blk w3 (w1.heap.size+1) 137 (Qab ⟨0,0,0,0⟩ 0 none 0 0 none 0 0):=by
 have h:=(Blk.new (w1.alloc o) 137 (Qab ⟨0,0,0,0⟩ 0 none 0 0 none 0 0)).drew
 simp only[World.size_alloc] at h
 exact h.below a
def Qiz (w:World)(b:Nat)(x0 c f d e:Int)(a v6:Value):World:=
 ((((((w.setCell ⟨b,0,none⟩ (.int .i64 x0)).setCell ⟨b,1,none⟩ (.int .i64 c)).setCell ⟨b,2,none⟩ (.int .i64 f)).setCell ⟨b,3,none⟩ (.int .i64 d)).setCell ⟨b,4,none⟩ (.int .i64 e)).setCell ⟨b,5,none⟩ a).setCell ⟨b,6,none⟩ v6
theorem QgQ (w:World)(b:Nat)(x0 c f d e:Int)(a v6:Value):Fr (· = b) w (Qiz w b x0 c f d e a v6):=
 (((((((Fr.refl _ w).set1 0 _).set1 1 _).set1 2 _).set1 3 _).set1 4 _).set1 5 _).set1 6 _
theorem Qkd {w:World}{b:Nat}{T:TypeId}{L c:Ln}{i k:Int}{A1 A2 g e:Option Addr}{n1 c1 n2 c2 j f d a:Nat}(h:Blk w b T (Qab L i A1 n1 c1 A2 n2 c2)) :
  Blk (Qiz w b c.from_ c.to_ c.next c.brk k (.slice g j f) (.slice e d a)) b T (Qab c k g j f e d a):=
 (((((((h.set_ 0 _).set_ 1 _).set_ 2 _).set_ 3 _).set_ 4 _).set_ 5 _).set_ 6 _).eq_ (by simp[Qab])
def QrZ (L:Ln)(i:Int)(C:List Int)(w:World)(a:Value)(wx:World):Prop:=
 ∃b A n c,a=.pointer (some ⟨b,0,none⟩)/\Blk wx b 137 (Qab L i A n c none 0 0)/\Ints wx (fun k=>w.heap.size<k/\k≠b) A n C/\n<=c/\ZB w wx/\w.heap.size<b/\Blk wx w.heap.size 137 (Qab ⟨0,0,0,0⟩ 0 none 0 0 none 0 0)
theorem QrR {w w3:World}{b B n c:Nat}{i:Int}{L:Ln}{A:Option Addr}{C:List Int}{o:Ln}{p:Int}{A1 A2:Option Addr}{n1 c1 n2 c2:Nat}(g:Blk w3 b 137 (Qab o p A1 n1 c1 A2 n2 c2))(m:w3.ownsRow B 3 1 (.slice A n c) n (C.map (Value.int .i64)))(h:n<=c)(q:ZB w w3)(a:w.heap.size<b)(j:Blk w3 w.heap.size 137 (Qab ⟨0,0,0,0⟩ 0 none 0 0 none 0 0))
  (f:Fr (· = b) w3 (Qiz w3 b L.from_ L.to_ L.next L.brk i (.slice A n c) (.slice none 0 0))) (l : ∀k,B<=k->b<k):QrZ L i C w (.pointer (some ⟨b,0,none⟩)) (Qiz w3 b L.from_ L.to_ L.next L.brk i (.slice A n c) (.slice none 0 0)):=by
 refine⟨b,A,n,c,rfl,Qkd g,?_,h,bfr q f (fun k d=>by rw[d];exact Nat.le_of_lt a),a,j.fr f (Nat.ne_of_lt a)⟩
 refine Reads.more (D:=fun k=>b<k) ?_ (fun k d _=>⟨Nat.lt_trans a d,Nat.ne_of_gt d⟩) (by decide)
 exact Reads.fr (Reads.more (Reads.of_own m) (fun k d _=>l k d) (by decide)) f (fun k d _ e=>by rw[e] at d;exact Nat.lt_irrefl _ d)
theorem Qq2 {w w4:World}{b B n c c2:Nat}{i:Int}{L:Ln}{A A2:Option Addr}{C:List Int}(f:w.heap.size<b)(l:Ints w4 (fun k=>w.heap.size<k/\k≠b) A n C)(g:n<=c)
  (m:w4.ownsRow B 3 1 (.slice A2 (Qbi C).length c2) (Qbi C).length ((Qbi C).map (Value.int .i64))) (o:b<B) (h:(Qbi C).length<=c2) (j:ZB w w4) :
  QfT L i C w (.returned (.agg (Qab L i A n c A2 (Qbi C).length c2))) (Qiz (w4.setCell ⟨b,6,none⟩ (.slice A2 (Qbi C).length c2)) w.heap.size L.from_ L.to_ L.next L.brk i (.slice A n c) (.slice A2 (Qbi C).length c2)):=by
 have h1:Fr (fun k=>k=b\/k=w.heap.size) w4 (w4.setCell ⟨b,6,none⟩ (.slice A2 (Qbi C).length c2)):=(Fr.refl _ _).setCell (.inl (.inl rfl)) _
 have d:=h1.call (QgQ _ w.heap.size L.from_ L.to_ L.next L.brk i (.slice A n c) (.slice A2 (Qbi C).length c2)) (fun k _ a=>.inr a)
 refine⟨_,rfl,⟨A,n,c,A2,_,c2,rfl,?_,g,?_,h⟩,bfr j d (fun k a=>by rcases a with rfl|rfl;exact Nat.le_of_lt f;exact Nat.le_refl _)⟩
 ·exact Reads.more (Reads.fr l d (fun k a _ e=>by rcases e with rfl|rfl;exact a.2 rfl;exact Nat.lt_irrefl _ a.1)) (fun k a _=>Nat.le_of_lt a.1) (by decide)
 ·exact Reads.more (Reads.fr (Reads.of_own m) d (fun k a _ e=>by rcases e with rfl|rfl<;>omega)) (fun k a _=>by omega) (by decide)
theorem Qep (D:Nat->Prop)(g:Nat)(enc:Int)(d:List (Int × Int))(i:Nat)(w:World)(h:TextAt w D g enc d)(z:i<=QaG d) :
    Calls Tryz.prog 83 #[.pointer (some ⟨g,0,none⟩),.int .i64 (i:Int)] w fun e w'=>QfT (Qo d i) i (Qbb d i) w e w':=by
  have hp:=h.pos
  have b0:=h.len
  have I:=Q3 hp z
  have q:=QaE hp z
  have S:=fun(w':World) (r:ZB w w')=>Qc0 D g enc d i w' (h.below r) z
  have G:=fun(w':World) (r:ZB w w')=>Qap D g enc d (Qo d i).from_ (Qo d i).to_ w' (h.below r) (by omega) (by omega)
  have H:seg (Qo d i).from_ (Qo d i).to_ (d.map Prod.fst)=Qbb d i:=rfl
  rw[H] at G
  obtain⟨C,hC⟩:=ZN (Qbb d i)
  rw[hC] at G q ⊢
  obtain⟨⟨x0,f,j,m⟩,hL⟩:∃L,Qo d i=L:=⟨_,rfl⟩
  rw[hL] at S G I q ⊢
  dsimp only at I q G
  simp only[Ln.cells] at S
  have HA:=Zh S
  have HS:=Zh G
  have X:=Zh q
  clear S G H hC hL z q
  go_enter Tryz.func83,Tryz.ntmps83
  go_wp2_with fail
  refine(HA.out _ (Qa (Below.refl _ w))).mono ?_
  rintro e w1 ⟨rfl,x⟩
  have P:=Qf (Qa (Below.refl _ w)) x
  have E:Blk w1 w.heap.size 137 (Qab ⟨0,0,0,0⟩ 0 none 0 0 none 0 0):=(Blk.new w _ _).below x
  have a1:w.heap.size+1<=w1.heap.size:=by have:=x.size;simp only[World.size_alloc] at this;omega
  go_upto_region 2 with fail
  have y:=Blk.new w1 59 (Ln.mk x0 f j m).cells
  obtain⟨⟨T,U,Q,R⟩,_⟩:=QK y
  have F:=Qa (o:=.cells (Ln.mk x0 f j m).cells 59) P
  simp only[Ln.cells] at y T U Q R F
  have W:=Zh y
  have l:=Zh F
  clear y F
  go_cut [7] (fun s7 wx=>QrZ ⟨x0,f,j,m⟩ i C w s7 wx)
  case first=>
    have s0:(w1.alloc (.cells #[.int .i64 x0,.int .i64 f,.int .i64 j,.int .i64 m] 59)).drew.cell? ⟨w1.heap.size,0,none⟩=some (.int .i64 x0)/\(w1.alloc (.cells #[.int .i64 x0,.int .i64 f,.int .i64 j,.int .i64 m] 59)).drew.cell? ⟨w1.heap.size,1,none⟩=some (.int .i64 f) /\
        (w1.alloc (.cells #[.int .i64 x0,.int .i64 f,.int .i64 j,.int .i64 m] 59)).drew.cell? ⟨w1.heap.size,2,none⟩=some (.int .i64 j)/\(w1.alloc (.cells #[.int .i64 x0,.int .i64 f,.int .i64 j,.int .i64 m] 59)).drew.cell? ⟨w1.heap.size,3,none⟩=some (.int .i64 m):=⟨T,U,Q,R⟩
    go_region_held3 (fun w'=>w'.cell? ⟨w1.heap.size,0,none⟩=some (.int .i64 x0)/\w'.cell? ⟨w1.heap.size,1,none⟩=some (.int .i64 f)/\w'.cell? ⟨w1.heap.size,2,none⟩=some (.int .i64 j)/\w'.cell? ⟨w1.heap.size,3,none⟩=some (.int .i64 m)) (first|(with_reducible assumption)|((with_reducible refine Qgr _ ?_);with_reducible assumption)|((repeat (with_reducible refine Qpw (by dsimp only;omega) ?_));(first|(with_reducible assumption)|((with_reducible refine Qgr _ ?_);with_reducible assumption)))|((with_reducible refine QiM _ ?_);with_reducible assumption)) (first|(go_at_call 42;(with_reducible refine(HS.out _ (Below.drew l.out)).mono ?_);rintro e w3 ⟨v,rfl,K,t⟩;obtain⟨A,c,rfl,H⟩:=Qj K;have p:=QD t;have a9:w1.heap.size+1<=w3.heap.size:=(by have:=p.size;simp at this;omega);have s3:=QdI p s0;have s:=Qa (o:=.cells (Qab ⟨0,0,0,0⟩ 0 none 0 0 none 0 0) 137) p)|(go_at_call 42;(with_reducible refine(HS.out _ (Below.drew (Qa l.out))).mono ?_);rintro e w3 ⟨v,rfl,K,t⟩;obtain⟨A,c,rfl,H⟩:=Qj K;have s:=Qf (Below.drew (Qa (Below.refl _ _))) t;have s3:=QdI s ⟨T,U,Q,R⟩;have J:=Qqp w1 _ t;obtain⟨⟨g0,g1,Y,g3,g4,g5,g6⟩,u0,u1,u2,u3,u4,u5,u6⟩:=Qaj J))
    · go_wp2_with fail
      go_meet
      have O:ZB w w3:=Qf l.out p
      exact⟨w3.heap.size,A,C.length,c,rfl,Blk.new w3 _ _,Reads.below (Reads.more (Reads.of_own K) (fun k hk a8=>⟨by simp at hk;omega,Nat.ne_of_lt a8⟩) (by decide)) (Qa (Below.refl _ _)),H,Qa O,by omega,((E.alloc _).below p).alloc _⟩
    · go_wp2_with fail
      go_meet
      have O:ZB w w3:=Qf l.out s
      have hz:=l.out.size
      simp only[World.size_alloc] at hz
      have a6:Fr (· = w1.heap.size+1) w3 (Qiz w3 (w1.heap.size+1) x0 f j m i (.slice A C.length c) (.slice none 0 0)):=QgQ _ _ _ _ _ _ _ _ _
      have a:=QrR (w:=w) (w3:=w3) (i:=(i:Int)) (L:=⟨x0,f,j,m⟩) J K H O (by omega) ((E.alloc _).below s) a6 (by intro b r;simp at r;omega)
      unfold Qiz at a
      with_reducible exact a
  case rest=>
    obtain⟨b,A,n,c,rfl,r,z,a5,O,a4,hr⟩:=hcut
    clear E a1 x P l W T U Q R HA HS
    have N:=fun(wy:World) (hy:ZB wc wy)=>QkO (fun k=>w.heap.size<k/\k≠b) A n c C wy (Reads.below z hy) (by have:=z.len;have:=X.out;omega)
    have M:=Zh N
    clear N
    obtain⟨⟨g0,g1,Y,g3,g4,g5,g6⟩,u0,u1,u2,u3,u4,u5,u6⟩:=Qaj r
    go_wp2_with fail
    refine(M.out _ (Below.refl _ _)).mono ?_
    rintro e w4 ⟨v,rfl,B,u⟩
    obtain⟨A2,c2,rfl,Z⟩:=Qj B
    have a3:=Zh B
    clear B M g0 g1 Y g3 g4 g5 g6 u0 u1 u2 u3 u4 u5 u6
    have a0:=r.below u
    have V:=Qf O u
    obtain⟨⟨g0,g1,Y,g3,g4,g5,g6⟩,u0,u1,u2,u3,u4,u5,u6⟩:=Qaj a0
    have a7:=hr.below u
    obtain⟨⟨j0,j1,j2,j3,j4,j5,j6⟩,v0,v1,v2,v3,v4,v5,v6⟩:=Qaj a7
    have a2:=r.lt
    have a:=Qq2 (w:=w) (w4:=w4) (L:=⟨x0,f,j,m⟩) (i:=(i:Int)) a4 (Reads.below z u) a5 a3.out a2 Z V
    unfold Qiz at a
    have HF:=Zh a
    clear a
    go_wp2_with fail
    refine bodyPost_ret (v:=.agg (Qab ⟨x0,f,j,m⟩ i A n c A2 (Qbi C).length c2)) (by simp[results,Tryz.results83,go_sem,Qab,j0,j1,j2,j3,j4,j5,j6]) rfl ?_
    with_reducible exact HF.out
def Qs (a:List (Int × Int))(at_:Int)(past:Bool):Nat:=if past=true then ofF a at_ else min (ofF a at_) (QL a-1)
theorem Qbf {a:List (Int × Int)}:1<=QL a/\QL a<=QaG a+1:=by
 unfold QL
 split
 ·rename_i h
  unfold Qq7 at h
  simp only[decide_eq_true_eq] at h
  have:QaG a≠0:=by
   intro e
   rw[e,Qen] at h
   omega
  omega
 ·omega
theorem Qfl (a:List (Int × Int))(at_:Int):ofF a at_<=QaG a:=by
 unfold ofF QaG
 exact QaT _ (Nat.min_le_right _ _)
theorem QaO (a:List (Int × Int))(at_:Int)(past:Bool):Qs a at_ past<=QaG a:=by
 have h1:=Qfl a at_
 unfold Qs
 split<;>omega
theorem Qkx {w w4:World}{B:Nat}{v:Array Value}{i:Int}{L:Ln}{C:List Int}(h:w.heap.size<B)(d:RowC w4 (fun k=>B<=k) L i C v)(c:ZB w w4) :
  ∃A1 n1 c1 A2 n2 c2,v=Qab L i A1 n1 c1 A2 n2 c2/\QfT L i C w (.returned (.agg (Qab L i A1 n1 c1 A2 n2 c2))) (Qiz w4 w.heap.size L.from_ L.to_ L.next L.brk i (.slice A1 n1 c1) (.slice A2 n2 c2)):=by
 obtain⟨A1,n1,c1,A2,n2,c2,rfl,h1,h2,g,f⟩:=d
 have a:=QgQ w4 w.heap.size L.from_ L.to_ L.next L.brk i (.slice A1 n1 c1) (.slice A2 n2 c2)
 refine⟨A1,n1,c1,A2,n2,c2,rfl,_,rfl,⟨A1,n1,c1,A2,n2,c2,rfl,?_,h2,?_,f⟩,bfr c a (fun k b=>by rw[b];exact Nat.le_refl _)⟩
 ·exact Reads.more (Reads.fr h1 a (fun k b _ e=>by omega)) (fun k b _=>by omega) (by decide)
 ·exact Reads.more (Reads.fr g a (fun k b _ e=>by omega)) (fun k b _=>by omega) (by decide)
theorem Qgi {w:World}{b:Nat}(h:Blk w b 137 #[.int .i64 0,.int .i64 0,.int .i64 0,.int .i64 0,.int .i64 0,.slice none 0 0,.slice none 0 0]) :
  (w.cell? ⟨b,0,none⟩=some (.int .i64 0)/\w.cell? ⟨b,1,none⟩=some (.int .i64 0)/\w.cell? ⟨b,2,none⟩=some (.int .i64 0)/\w.cell? ⟨b,3,none⟩=some (.int .i64 0)/\w.cell? ⟨b,4,none⟩=some (.int .i64 0) /\
   w.cell? ⟨b,5,none⟩=some (.slice none 0 0)/\w.cell? ⟨b,6,none⟩=some (.slice none 0 0)) /\
  w.frozen? ⟨b,0,none⟩=false/\w.frozen? ⟨b,1,none⟩=false/\w.frozen? ⟨b,2,none⟩=false/\w.frozen? ⟨b,3,none⟩=false/\w.frozen? ⟨b,4,none⟩=false/\w.frozen? ⟨b,5,none⟩=false/\w.frozen? ⟨b,6,none⟩=false:=
 Qaj (L:=⟨0,0,0,0⟩) (i:=0) (A1:=none) (n1:=0) (c1:=0) (A2:=none) (n2:=0) (c2:=0) h
theorem Qd3 (D:Nat->Prop)(g:Nat)(enc:Int)(a:List (Int × Int))(at_:Int)(past:Bool)(w:World)(h:TextAt w D g enc a) :
  Calls Tryz.prog 86 #[.pointer (some ⟨g,0,none⟩),.int .i64 at_,.bool past] w fun e w'=>QfT (Qo a (Qs a at_ past)) (Qs a at_ past) (Qbb a (Qs a at_ past)) w e w':=by
 have P:ZB w (w.alloc (.cells (Qab ⟨0,0,0,0⟩ 0 none 0 0 none 0 0) 137)):=Qa (Below.refl _ w)
 have S:Blk (w.alloc (.cells (Qab ⟨0,0,0,0⟩ 0 none 0 0 none 0 0) 137)) w.heap.size 137 (Qab ⟨0,0,0,0⟩ 0 none 0 0 none 0 0):=Blk.new w _ _
 have l:=QaO a at_ past
 have u := @Qbf a
 have q:=h.len
 have Q:QaG a<=1073741824:=Nat.le_trans (Qct _ _) q
 have F:=Qfm D g enc a at_ _ (h.below P)
 have O:=fun(w':World) (x:ZB w w')=>QbD D g enc a w' (h.below x)
 have hn:=fun(w':World) (x:ZB w w')=>Qep D g enc a (Qs a at_ past) w' (h.below x) l
 have k:=Qfl a at_
 have d:past=false->min (ofF a at_:Int) ((QL a:Int)-1)=(Qs a at_ past:Int):=by
  intro e
  unfold Qs
  rw[e]
  simp only[Bool.false_eq_true,if_false]
  omega
 have i:past=true->ofF a at_=Qs a at_ past:=by
  intro e
  unfold Qs
  rw[if_pos e]
 obtain⟨K,X⟩:=ZN (QL a)
 obtain⟨V,Z⟩:=ZN (ofF a at_)
 obtain⟨I,hI⟩:=ZN (Qs a at_ past)
 obtain⟨T,W⟩:=ZN (QaG a)
 rw[W] at Q l k u
 rw[X] at O u d
 rw[Z] at F d i k
 rw[hI] at hn l d i ⊢
 obtain⟨C,U⟩:=ZN (Qbb a I)
 obtain⟨L,hL⟩:=ZN (Qo a I)
 rw[U,hL] at hn ⊢
 have HC:=Zh O
 have HO:=Zh F
 have Y:=Zh hn
 have J:=Zh d
 have G:=Zh i
 clear O F hn d i X Z hI W U hL
 simp only[Qab] at P S
 go_enter Tryz.func86,Tryz.ntmps86
 go_wp2_with fail
 refine(HO.out).mono ?_
 rintro e w1 ⟨rfl,r⟩
 have j:=Qf P r
 have m:=S.below r
 cases past
 ·go_wp2_with fail
  refine(HC.out _ j).mono ?_
  rintro e w2 ⟨rfl,o⟩
  have s:=Qf j o
  have t:=m.below o
  go_wp2_with fail
  all_goals
   have p:=J.out trivial
   first
    |rw[show (K:Int)-1=(I:Int) by omega]
    |rw[show (V:Int)=(I:Int) by omega]
   clear p
   refine(Y.out _ s).mono ?_
   rintro e w3 ⟨v,rfl,c,f⟩
   have n:=Qf s f
   have R:w.heap.size<w2.heap.size:=t.lt
   obtain⟨A1,n1,c1,A2,n2,c2,rfl,b⟩:=Qkx R c n
   unfold Qiz at b
   have M:=Zh b
   obtain⟨⟨N,y,E,B,A,z,H⟩,v0,v1,v2,v3,v4,v5,v6⟩:=Qgi (t.below f)
   unfold Qab
   clear b c
   go_wp2_with fail
   refine bodyPost_ret (v:=.agg (Qab L I A1 n1 c1 A2 n2 c2)) (by simp[results,Tryz.results86,go_sem,Qab,N,y,E,B,A,z,H]) rfl ?_
   with_reducible exact M.out
 ·go_wp2_with fail
  rw[show (V:Int)=(I:Int) by rw[G.out trivial]]
  refine(Y.out _ j).mono ?_
  rintro e w3 ⟨v,rfl,c,f⟩
  have n:=Qf j f
  have R:w.heap.size<w1.heap.size:=m.lt
  obtain⟨A1,n1,c1,A2,n2,c2,rfl,b⟩:=Qkx R c n
  unfold Qiz at b
  have M:=Zh b
  obtain⟨⟨N,y,E,B,A,z,H⟩,v0,v1,v2,v3,v4,v5,v6⟩:=Qgi (m.below f)
  unfold Qab
  clear b c
  go_wp2_with fail
  refine bodyPost_ret (v:=.agg (Qab L I A1 n1 c1 A2 n2 c2)) (by simp[results,Tryz.results86,go_sem,Qab,N,y,E,B,A,z,H]) rfl ?_
  with_reducible exact M.out
theorem QbZ (L:Ln)(i:Int)(A1 A2:Option Addr)(n1 c1 n2 c2:Nat)(w:World)(hn:n2<=2147483648)(h1:1<=n2) :
  Calls Tryz.prog 84 #[.agg (Qab L i A1 n1 c1 A2 n2 c2)] w fun e w'=>e=.returned (.int .i64 ((n2-1:Nat):Int))/\ZB w w':=by
 have a:ZB w (w.alloc (.cells (Qab L i A1 n1 c1 A2 n2 c2) 137)):=Qa (Below.refl _ w)
 have b:IntKind.i64.wrap ((n2:Int)-1)=((n2-1:Nat):Int):=by rw[IntWalk.i64_in _ (by omega)];omega
 unfold Qab at a ⊢
 go_enter Tryz.func84,Tryz.ntmps84
 go_wp2_with fail
 go_ret
 exact⟨QaB (by omega),a⟩
theorem QbH {w:World}{D:Nat->Prop}{A:Option Addr}{n:Nat}{l:List Int}(h:Ints w D A n l)(hn:0<n) :
  ∃b off,A=some ⟨b,off,none⟩/\D b/\∀k,k<n->w.cell? ⟨b,off+k,none⟩=some (.int .i64 (l.getD k 0)):=by
 have a:=h.len
 obtain⟨b,off,e,d,c⟩:=Reads.form h hn (by decide)
 refine⟨b,off,e,d,fun k f=>c k _ ?_⟩
 rw[List.getElem?_map,List.getD_eq_getElem?_getD,List.getElem?_eq_getElem (by omega)]
 rfl
theorem Qo1 {w w1:World}{b d o:Nat}{f u1 u2 u3 u4 c e u:Value}(a:ZB w w1)(h:w.cell? ⟨b,0,none⟩=some f/\w.cell? ⟨b,1,none⟩=some u1/\w.cell? ⟨b,2,none⟩=some u2/\w.cell? ⟨b,3,none⟩=some u3/\w.cell? ⟨b,4,none⟩=some u4/\w.cell? ⟨b,5,none⟩=some c/\w.cell? ⟨b,6,none⟩=some e/\w.cell? ⟨d,o,none⟩=some u) :
  w1.cell? ⟨b,0,none⟩=some f/\w1.cell? ⟨b,1,none⟩=some u1/\w1.cell? ⟨b,2,none⟩=some u2/\w1.cell? ⟨b,3,none⟩=some u3/\w1.cell? ⟨b,4,none⟩=some u4/\w1.cell? ⟨b,5,none⟩=some c/\w1.cell? ⟨b,6,none⟩=some e/\w1.cell? ⟨d,o,none⟩=some u:=
 ⟨Qh a h.1,Qh a h.2.1,Qh a h.2.2.1,Qh a h.2.2.2.1,Qh a h.2.2.2.2.1,Qh a h.2.2.2.2.2.1,Qh a h.2.2.2.2.2.2.1,Qh a h.2.2.2.2.2.2.2⟩
theorem Qnn (D:Nat->Prop)(L:Ln)(i:Int)(C:List Int)(v:Array Value)(k:Int)(w:World)(h:RowC w D L i C v)(Z:0<=L.from_/\L.from_<=1073741824)(hn:(Qbi C).length<=1073741825)(O : ∀x ∈ Qbi C,0<=x/\x<=1073741824)(Y:0<=k)(hk:k<((Qbi C).length:Int)) :
  Calls Tryz.prog 85 #[.agg v,.int .i64 k] w fun e w'=>e=.returned (.int .i64 (L.from_+(Qbi C).getD k.toNat 0))/\ZB w w':=by
 obtain⟨A1,n1,c1,A2,n2,c2,rfl,h1,h2,u,h4⟩:=h
 obtain⟨x0,l,n,r⟩:=L
 dsimp only at Z ⊢
 have p:=u.len
 have f:0<(Qbi C).length:=by simp[Qbi]
 obtain⟨b,off,rfl,hD,a⟩:=QbH u (by omega)
 have I:=a k.toNat (by omega)
 have B:0<=(Qbi C).getD k.toNat 0/\(Qbi C).getD k.toNat 0<=1073741824:=by
  rw[List.getD_eq_getElem?_getD,List.getElem?_eq_getElem (by omega)]
  exact O _ (List.getElem_mem _)
 obtain⟨m,hm⟩:=ZN ((Qbi C).getD k.toNat 0)
 rw[hm] at I B ⊢
 obtain⟨j,R⟩:∃j:Nat,k.toNat=j:=⟨_,rfl⟩
 rw[R] at I
 have J:j<=n2-1:=by omega
 have c:=fun(w':World)=>QbZ ⟨x0,l,n,r⟩ i A1 (some ⟨b,off,none⟩) n1 c1 n2 c2 w' (by omega) (by omega)
 obtain⟨N,P⟩:=ZN (n2-1)
 rw[P] at c J
 have a2:(j:Int)<(n2:Int):=by omega
 have V:(0:Int)<=(j:Int):=by omega
 have a1:(j:Int)<=(N:Int):=by omega
 have U:IntKind.i64.wrap (x0+m)=x0+m:=IntWalk.i64_in _ (by omega)
 have E:k=(j:Int):=by omega
 have g:=Blk.new w 137 (Qab ⟨x0,l,n,r⟩ i A1 n1 c1 (some ⟨b,off,none⟩) n2 c2)
 obtain⟨⟨G,K,y,z,M,F,A⟩,_⟩:=Qaj g
 have d:=Qh (Qa (o:=.cells (Qab ⟨x0,l,n,r⟩ i A1 n1 c1 (some ⟨b,off,none⟩) n2 c2) 137) (Below.refl _ w)) I
 have s:ZB w (w.alloc (.cells (Qab ⟨x0,l,n,r⟩ i A1 n1 c1 (some ⟨b,off,none⟩) n2 c2) 137)):=Qa (Below.refl _ w)
 unfold Qab at c G K y z M F A d s
 dsimp only at c G K y z M F A d s
 have t:=Zh c
 have W:=Zh s
 have Q:=And.intro G (And.intro K (And.intro y (And.intro z (And.intro M (And.intro F (And.intro A d))))))
 clear c hm R P p f a O g h1 u s
 subst E
 ·have X:((N:Int)<(j:Int))=False:=by simp;omega
  have a0:(N<j)=False:=by simp;omega
  have a3:((j:Int)<0)=False:=by simp
  unfold Qab
  go_enter Tryz.func85,Tryz.ntmps85
  go_upto_region 1 with fail
  go_cut [4] (fun T wx=>T=.int .i64 (x0+m)/\ZB w wx)
  case first=>
   have H:=Qo1 (Below.drew (Below.refl _ _)) Q
   go_region_held3 (fun w'=>w'.cell? ⟨w.heap.size,0,none⟩=some (.int .i64 x0)/\w'.cell? ⟨w.heap.size,1,none⟩=some (.int .i64 l)/\w'.cell? ⟨w.heap.size,2,none⟩=some (.int .i64 n)/\w'.cell? ⟨w.heap.size,3,none⟩=some (.int .i64 r)/\w'.cell? ⟨w.heap.size,4,none⟩=some (.int .i64 i)/\w'.cell? ⟨w.heap.size,5,none⟩=some (.slice A1 n1 c1)/\w'.cell? ⟨w.heap.size,6,none⟩=some (.slice (some ⟨b,off,none⟩) n2 c2)/\w'.cell? ⟨b,off+j,none⟩=some (.int .i64 m)) (first|(with_reducible assumption)|(with_reducible exact H)) (first|(go_at_call 84;refine(t.out _).mono ?_;rintro e w1 ⟨rfl,q⟩;have s1:=Qo1 (QD q) Q))
   all_goals
    go_wp2_with fail
    go_meet
    exact⟨rfl,Qf W.out (QD q)⟩
  case rest=>
   obtain⟨rfl,S⟩:=hcut
   go_wp2_with fail
   go_ret
   exact⟨rfl,S⟩
structure ColOk (F at_:Int) (M:List Int) (j:Nat):Prop where
 lt:j<M.length
 low:j=0\/F+M.getD j 0<=at_
 high : ∀k,j<k->k<M.length->at_<F+M.getD k 0
def Qs8 (F at_:Int)(M:List Int)(d:Array Value)(w:World)(k:Nat)(b c:Value)(wr:World):Prop:=
 ∃lo a:Nat,b=.int .i64 (lo:Int)/\c=.int .i64 (a:Int)/\lo<=a/\a<M.length/\Hid (lo=0\/F+M.getD lo 0<=at_)/\Hid (∀j,a<j->j<M.length->at_<F+M.getD j 0)/\a-lo<=k /\
  ZB w wr/\Blk wr w.heap.size 137 d
theorem Qde (D:Nat->Prop)(L:Ln)(i:Int)(C:List Int)(v:Array Value)(at_:Int)(w:World)(h:RowC w D L i C v)(hL:0<=L.from_/\L.from_<=1073741824)(hn:(Qbi C).length<=1073741825)(G : ∀x ∈ Qbi C,0<=x/\x<=1073741824)
  (O : ∀a b,a<=b->b<(Qbi C).length->(Qbi C).getD a 0<=(Qbi C).getD b 0) :
  Calls Tryz.prog 87 #[.agg v,.int .i64 at_] w fun e w'=>(∃j:Nat,e=.returned (.int .i64 (j:Int))/\ColOk L.from_ at_ (Qbi C) j)/\ZB w w':=by
 obtain⟨A1,n1,c1,A2,n2,c2,rfl,h1,h2,K,h4⟩:=h
 obtain⟨x0,z,A,B⟩:=L
 dsimp only at hL ⊢
 have o:=K.len
 have l:0<(Qbi C).length:=by simp[Qbi]
 obtain⟨b,off,rfl,hD,c⟩:=QbH K (by omega)
 obtain⟨M,X⟩:=ZN (Qbi C)
 rw[X] at c G O hn o l ⊢
 clear X h1 K
 have d:=fun(w':World)=>QbZ ⟨x0,z,A,B⟩ i A1 (some ⟨b,off,none⟩) n1 c1 n2 c2 w' (by omega) (by omega)
 have U:ZB w (w.alloc (.cells (Qab ⟨x0,z,A,B⟩ i A1 n1 c1 (some ⟨b,off,none⟩) n2 c2) 137)):=Qa (Below.refl _ w)
 have F:=Blk.new w 137 (Qab ⟨x0,z,A,B⟩ i A1 n1 c1 (some ⟨b,off,none⟩) n2 c2)
 obtain⟨N,hN⟩:=ZN (n2-1)
 rw[hN] at d
 have V:=Zh c
 have T:=Zh G
 have H:=Zh O
 clear c G O
 unfold Qab at d U ⊢
 dsimp only at d U ⊢
 have J:=Zh d
 clear d
 go_enter Tryz.func87,Tryz.ntmps87
 go_wp2_with fail
 refine(J.out _).mono ?_
 rintro e w1 ⟨rfl,s⟩
 have W:=Qf U s
 have I:=F.below s
 go_wp2_with fail
 go_loopg [5,6] N (fun k p q wr=>Qs8 x0 at_ M (Qab ⟨x0,z,A,B⟩ i A1 n1 c1 (some ⟨b,off,none⟩) n2 c2) w k p q wr)
 case atStart=>exact⟨0,N,rfl,rfl,by omega,by omega,Zh (.inl rfl),Zh (fun j h1 h2=>absurd h1 (by omega)),by omega,W,I⟩
 case round=>
  obtain⟨lo,f,rfl,rfl,Z,r,u,t,hk,E,g⟩:=hrel
  by_cases hlt:lo<f
  ·obtain⟨m,hm⟩:=ZN ((lo+f+1) / 2)
   have a0:((lo:Int)+(f:Int)+1) / 2=(m:Int):=by omega
   have a1:lo<m/\m<=f:=by omega
   have Q:=Qh E (V.out m (by omega))
   have R:0<=M.getD m 0/\M.getD m 0<=1073741824:=by
    rw[List.getD_eq_getElem?_getD,List.getElem?_eq_getElem (by omega)]
    exact T.out _ (List.getElem_mem _)
   obtain⟨y,P⟩:=ZN (M.getD m 0)
   rw[P] at Q R
   obtain⟨⟨g0,g1,g2,g3,g4,g5,g6⟩,_⟩:=Qaj g
   dsimp only at g0
   have n:=Zh P
   have Y:IntKind.i64.wrap (x0+y)=x0+y:=IntWalk.i64_in _ (by omega)
   have z1:(0:Int)<=(m:Int):=by omega
   have z2:(m:Int)<(n2:Int):=by omega
   clear P
   dsimp only at g1 g2 g3
   by_cases hc:x0+y<=at_
   ·go_upto_region 4 with fail
    go_quiet (fail)
    go_wp2_with fail
    go_roundg (f-m)
    case measure=>omega
    case rel=>exact⟨m,f,by go_num,rfl,by omega,r,Zh (.inr (by rw[n.out];exact hc)),t,by omega,Q6 E _,g.drewN _⟩
   ·go_upto_region 4 with fail
    go_quiet (fail)
    go_wp2_with fail
    go_roundg (m-1-lo)
    case measure=>omega
    case rel=>
     refine⟨lo,m-1,rfl,by go_num,by omega,by omega,u,Zh (fun j h1 h2=>?_),by omega,Q6 E _,g.drewN _⟩
     have:=H.out m j (by omega) h2
     rw[n.out] at this
     omega
  ·have S:lo=f:=by omega
   subst S
   go_wp2_with fail
   go_ret
   exact⟨⟨lo,rfl,r,u.out,t.out⟩,E⟩
end Go.Proofs.YtgiihhikdoikgaaGreat
