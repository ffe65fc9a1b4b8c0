/-
  The walks of package tree at the pieces, third part: build, Of, Sum.
-/
import Derived.Test.YtgiihhikdoikgaaGreatLTree2
set_option linter.unusedSimpArgs false
set_option linter.unusedVariables false
set_option maxRecDepth 100000
set_option maxHeartbeats 32000000
namespace Go.Proofs.YtgiihhikdoikgaaGreat
open Go.RowKit
theorem Reads.form {w:World}{D:Nat->Prop}{size n:Nat}{A:Option Addr}{xs:List Value}(h:Reads w D size A n xs)(hn:0<n)(k:0<size) :
  ∃b off,A=some ⟨b,off,none⟩/\D b/\∀j u,xs[j]? = some u->w.cell? ⟨b,off+j,none⟩=some u:=by
 obtain⟨i,rfl,g,c⟩:=h.2 hn
 have f:0<xs.length:=by rw[h.1];exact Nat.mul_pos hn k
 have a:=c 0 _ (List.getElem?_eq_getElem f)
 rw[add_zero] at a
 obtain⟨b,off,sp⟩:=i
 cases sp with
 |some q=>simp[World.cell?] at a;split at a<;>cases a
 |none=>
  refine⟨b,off,rfl,g,fun j u e=>?_⟩
  have:=c j u e
  unfold Addr.add at this
  split at this
  ·rename_i d;subst d;exact this
  ·exact this
def Parts (w:World)(D:Nat->Prop)(A:Option Addr)(n:Nat)(ps:List Pc):Prop:=Reads w D 7 A n (ps.flatMap fun p=>p.cells.toList)
theorem Qsp (ps:List Pc):(ps.flatMap fun p=>p.cells.toList).length=ps.length*7:=by
 induction ps with
 |nil=>rfl
 |cons p ps ih=>rw[List.flatMap_cons,List.length_append,ih];simp[Pc.cells,Qx];omega
theorem Qgq (ps:List Pc)(k:Nat):(ps.flatMap fun p=>p.cells.toList).drop (k*7)=(ps.drop k).flatMap fun p=>p.cells.toList:=by
 induction ps generalizing k with
 |nil=>simp
 |cons p ps ih=>
  cases k with
  |zero=>simp
  |succ k=>
   rw[List.flatMap_cons,List.drop_append,List.drop_succ_cons,<-ih]
   have:(p.cells.toList).length=7:=rfl
   rw[List.drop_eq_nil_of_le (by omega),List.nil_append]
   congr 1
   omega
theorem QkP (ps:List Pc)(k:Nat):(ps.flatMap fun p=>p.cells.toList).take (k*7)=(ps.take k).flatMap fun p=>p.cells.toList:=by
 induction ps generalizing k with
 |nil=>simp
 |cons p ps ih=>
  cases k with
  |zero=>simp
  |succ k=>
   rw[List.flatMap_cons,List.take_append,List.take_succ_cons,List.flatMap_cons,<-ih]
   have:(p.cells.toList).length=7:=rfl
   rw[List.take_of_length_le (by omega)]
   congr 2
   omega
theorem Parts.len {w:World}{D:Nat->Prop}{A:Option Addr}{n:Nat}{ps:List Pc}(h:Parts w D A n ps):ps.length=n:=by
 have:=h.1
 rw[Qsp] at this
 omega
theorem Parts.at_ {w:World}{b off k:Nat}{ps:List Pc}(h : ∀j u,(ps.flatMap fun p=>p.cells.toList)[j]? = some u->w.cell? ⟨b,off+j,none⟩=some u)(p:Pc)(a:ps[k]? = some p) :
  ∀j u,p.cells.toList[j]? = some u->w.cell? ⟨b,off+(k*7+j),none⟩=some u:=by
 intro j u d
 apply h
 rw[<-List.getElem?_drop,Qgq]
 have c:k<ps.length:=by
  rcases Nat.lt_or_ge k ps.length with h|h
  ·exact h
  ·rw[List.getElem?_eq_none h] at a;cases a
 rw[List.drop_eq_getElem_cons c]
 rw[List.getElem?_eq_getElem c] at a
 injection a with a
 rw[a,List.flatMap_cons,List.getElem?_append_left]
 ·exact d
 ·rcases Nat.lt_or_ge j p.cells.toList.length with h|h
  ·exact h
  ·rw[List.getElem?_eq_none h] at d;cases d
def Sums.good (s:Sums):Prop:=0<=s.breaks/\s.breaks<=s.atoms/\s.atoms<=s.bytes/\(s.atoms=0->s=Qq)/\(s.lf=true->1<=s.breaks)/\(s.cr=true->1<=s.breaks)
theorem Qa0:Qq.good:=⟨by decide,by decide,by decide,fun _=>rfl,(fun h=>by cases h),(fun h=>by cases h)⟩
theorem Sums.good.ok {s:Sums}(h:s.good)(a:s.bytes<=2147483648):s.ok:=by
 obtain⟨h1,h2,b,_,_,_⟩:=h
 exact⟨by omega,by omega,by omega,a,h1,by omega⟩
theorem QE {s o:Sums}(q:s.good)(f:o.good):(QM s o).good/\(QM s o).atoms=s.atoms+o.atoms/\(QM s o).bytes=s.bytes+o.bytes:=by
 obtain⟨p,m,j,g,i,d⟩:=q
 have c:=f
 obtain⟨t,u,r,n,l,k⟩:=f
 by_cases h1:s.atoms=0
 ·have e:=g h1
  have b:QM s o=o:=by unfold QM;rw[if_pos h1]
  rw[b,e]
  exact⟨c,by simp[Qq],by simp[Qq]⟩
 ·by_cases h2:o.atoms=0
  ·have e:=n h2
   have b:QM s o=s:=by unfold QM;rw[if_neg h1,if_pos h2]
   rw[b,e]
   exact⟨⟨p,m,j,g,i,d⟩,by simp[Qq],by simp[Qq]⟩
  ·have b:QM s o={ atoms:=s.atoms+o.atoms,bytes:=s.bytes+o.bytes,breaks:=if (s.cr && o.lf)=true then s.breaks+o.breaks-1 else s.breaks+o.breaks,lf:=s.lf,cr:=o.cr }:=by
    unfold QM;rw[if_neg h1,if_neg h2]
   rw[b]
   refine⟨⟨?_,?_,?_,fun h=>?_,fun h=>?_,fun h=>?_⟩,rfl,rfl⟩
   ·dsimp only
    split
    ·rename_i a;simp only[Bool.and_eq_true] at a;have:=d a.1;omega
    ·omega
   ·dsimp only
    split<;>omega
   ·dsimp only;omega
   ·dsimp only at h;exfalso;omega
   ·dsimp only at h ⊢
    have:=i h
    split
    ·rename_i a;simp only[Bool.and_eq_true] at a;have:=l a.2;omega
    ·omega
   ·dsimp only at h ⊢
    have:=k h
    split
    ·rename_i a;simp only[Bool.and_eq_true] at a;have:=d a.1;omega
    ·omega
theorem QbV (a z:Int)(b:1<=z):(QJ a z).good:=by
 unfold Sums.good QJ
 dsimp only
 refine⟨by split<;>omega,by split<;>omega,by omega,fun h=>by omega,fun h=>?_,fun h=>?_⟩
 ·rw[beq_iff_eq] at h;rw[if_pos (.inl h)];exact Int.le_refl _
 ·rw[beq_iff_eq] at h;rw[if_pos (.inr h)];exact Int.le_refl _
theorem QkU (a:List (Int × Int))(b : ∀d ∈ a,1<=d.2) : ∀s:Sums,s.good->(a.foldl Qas s).good/\(a.foldl Qas s).atoms=s.atoms+a.length/\(a.foldl Qas s).bytes=s.bytes+(a.map Prod.snd).sum:=by
 induction a with
 |nil=>intro s h;exact⟨h,by simp,by simp⟩
 |cons d a ih=>
  intro s h
  have h1:=QE h (QbV d.1 d.2 (b d List.mem_cons_self))
  obtain⟨g,ga,c⟩:=ih (fun e f=>b e (List.mem_cons_of_mem _ f)) (Qas s d) h1.1
  refine⟨g,?_,?_⟩
  ·rw[List.foldl_cons,ga]
   have:(Qas s d).atoms=s.atoms+1:=h1.2.1
   rw[this,List.length_cons]
   omega
  ·rw[List.foldl_cons,c]
   have:(Qas s d).bytes=s.bytes+d.2:=h1.2.2
   rw[this,List.map_cons,List.sum_cons]
   omega
theorem Qhy (enc:Int) : ∀(f:Nat) (l:List Int),l.length<=f->(∀d ∈ QlK enc f l,1<=d.2)/\((QlK enc f l).map Prod.snd).sum=l.length:=by
 intro f
 induction f with
 |zero=>intro l h;simp[QlK];omega
 |succ f ih=>
  intro l h
  simp only[QlK]
  split
  ·rename_i c;simp[c]
  ·have b:=QZ enc l (by omega)
   obtain⟨h1,h2⟩:=ih (l.drop (QB enc l).toNat) (by rw[List.length_drop];omega)
   refine⟨fun d a=>?_,?_⟩
   ·rcases List.mem_cons.1 a with rfl|a
    ·exact b.1
    ·exact h1 d a
   ·rw[List.map_cons,List.sum_cons,h2,List.length_drop]
    dsimp only
    omega
def Qbl (ps:List Pc):Int:=(ps.map fun p=>p.sum.bytes).sum
theorem Qby (a b:List Pc):Qbl (a++b)=Qbl a+Qbl b:=by unfold Qbl;rw[List.map_append,List.sum_append]
theorem QaI (a:Pc)(b:List Pc):Qbl (a::b)=a.sum.bytes+Qbl b:=by unfold Qbl;rw[List.map_cons,List.sum_cons]
def AllGood (ps:List Pc):Prop:=∀p ∈ ps,p.sum.good
theorem Q7 {ps:List Pc}(h:AllGood ps):0<=Qbl ps:=by
 induction ps with
 |nil=>exact Int.le_refl _
 |cons p ps ih=>
  have h1:=h p List.mem_cons_self
  have:=ih (fun q d=>h q (List.mem_cons_of_mem _ d))
  rw[QaI]
  obtain⟨a,b,c,_⟩:=h1
  omega
theorem Tr.sum_good : ∀t:Tr,AllGood t.list->t.sum.good/\t.sum.bytes=Qbl t.list
 | .nil,_=>⟨Qa0,rfl⟩
 | .node l x r,h=>by
  have d:=Tr.sum_good l (fun p hp=>h p (by simp[Tr.list,hp]))
  have f:=Tr.sum_good r (fun p hp=>h p (by simp[Tr.list,hp]))
  have e:x.sum.good:=h x (by simp[Tr.list])
  have h1:(Qjg l x).good/\(Qjg l x).bytes=Qbl l.list+x.sum.bytes:=by
   cases l with
   |nil=>exact⟨e,by simp[Qjg,Tr.list,Qbl]⟩
   |node a b c=>
    have:=QE d.1 e
    exact⟨this.1,by show (QM _ _).bytes=_;rw[this.2.2,d.2]⟩
  rw[Tr.sum_node,Tr.list,Qby,QaI]
  cases r with
  |nil=>exact⟨h1.1,by rw[show Qsm (Qjg l x) Tr.nil=Qjg l x from rfl,h1.2];simp[Tr.list,Qbl]⟩
  |node a b c=>
   have:=QE h1.1 f.1
   refine⟨this.1,?_⟩
   show (QM _ _).bytes=_
   rw[this.2.2,h1.2,f.2]
   omega
theorem QfB (l:Tr)(x:Pc)(e:AllGood l.list)(d:x.sum.good):(Qjg l x).good/\(Qjg l x).bytes=Qbl l.list+x.sum.bytes:=by
 have h1:=Tr.sum_good l e
 cases l with
 |nil=>exact⟨d,by simp[Qjg,Tr.list,Qbl]⟩
 |node a b c=>
  have:=QE h1.1 d
  exact⟨this.1,by show (QM _ _).bytes=_;rw[this.2.2,h1.2]⟩
theorem Tr.size_list : ∀t:Tr,t.size=t.list.length
 | .nil=>rfl
 | .node l x r=>by simp only[Tr.size,Tr.list,List.length_append,List.length_cons,Tr.size_list l,Tr.size_list r];omega
theorem Tr.tall_le : ∀t:Tr,0<=t.tall/\t.tall<=t.size
 | .nil=>by simp[Tr.tall,Tr.size]
 | .node l x r=>by
  have h1:=Tr.tall_le l
  have h2:=Tr.tall_le r
  have a:=Tr.size_list l
  have b:=Tr.size_list r
  simp only[Tr.tall,Tr.size]
  omega
theorem Tr.small_of {t:Tr}(h:t.list.length<=1073741824):t.small:=by
 have h1:=Tr.size_list t
 have h2:=Tr.tall_le t
 exact⟨by omega,by omega,h2.1,by omega⟩
def btF:Nat->List Pc->Tr
 | 0,_=>.nil
 |f+1,ps=>match ps[ps.length / 2]? with
  |none=>.nil
  |some x=>.node (btF f (ps.take (ps.length / 2))) x (btF f (ps.drop (ps.length / 2+1)))
theorem QeP : ∀(f:Nat) (ps:List Pc),ps.length<=f->(btF f ps).list=ps:=by
 intro f
 induction f with
 |zero=>
  intro ps h
  have e:ps=[]:=List.eq_nil_of_length_eq_zero (by omega)
  subst e
  rfl
 |succ f ih=>
  intro ps h
  simp only[btF]
  cases hx:ps[ps.length / 2]? with
  |none=>
   have:ps=[]:=by
    cases ps with
    |nil=>rfl
    |cons p ps=>rw[List.getElem?_eq_none_iff] at hx;simp only[List.length_cons] at hx;omega
   rw[this];rfl
  |some x=>
   have a:ps.length / 2<ps.length:=by
    rcases Nat.lt_or_ge (ps.length / 2) ps.length with h|h
    ·exact h
    ·rw[List.getElem?_eq_none h] at hx;cases hx
   simp only[Tr.list]
   rw[ih _ (by rw[List.length_take];omega),ih _ (by rw[List.length_drop];omega)]
   rw[List.getElem?_eq_getElem a] at hx
   injection hx with hx
   rw[<-hx]
   rw[<-List.drop_eq_getElem_cons a,List.take_append_drop]
def ItemAt (w:World)(b off:Nat)(x:Pc):Prop:=
 w.cell? ⟨b,off,none⟩=some (.slice x.A x.n x.c)/\w.cell? ⟨b,off+1,none⟩=some (.int .i64 x.tag)/\w.cell? ⟨b,off+2,none⟩=some (.int .i64 x.sum.atoms)/\w.cell? ⟨b,off+3,none⟩=some (.int .i64 x.sum.bytes) /\
 w.cell? ⟨b,off+4,none⟩=some (.int .i64 x.sum.breaks)/\w.cell? ⟨b,off+5,none⟩=some (.bool x.sum.lf)/\w.cell? ⟨b,off+6,none⟩=some (.bool x.sum.cr)
theorem ItemAt.out {w:World}{b off:Nat}{x:Pc}(h:ItemAt w b off x) :
  w.cell? ⟨b,off,none⟩=some (.slice x.A x.n x.c)/\w.cell? ⟨b,off+1,none⟩=some (.int .i64 x.tag)/\w.cell? ⟨b,off+2,none⟩=some (.int .i64 x.sum.atoms)/\w.cell? ⟨b,off+3,none⟩=some (.int .i64 x.sum.bytes) /\
  w.cell? ⟨b,off+4,none⟩=some (.int .i64 x.sum.breaks)/\w.cell? ⟨b,off+5,none⟩=some (.bool x.sum.lf)/\w.cell? ⟨b,off+6,none⟩=some (.bool x.sum.cr):=h
theorem ItemAt.below {w w':World}{b off:Nat}{x:Pc}(h:ItemAt w b off x)(a:ZB w w'):ItemAt w' b off x:=
 ⟨Qh a h.1,Qh a h.2.1,Qh a h.2.2.1,Qh a h.2.2.2.1,Qh a h.2.2.2.2.1,Qh a h.2.2.2.2.2.1,Qh a h.2.2.2.2.2.2⟩
def QdN (t:Tr)(w:World)(e:Ending)(w':World):Prop:=∃a,e=.returned (.pointer a)/\NodeAt w' t a/\ZB w w'
theorem Parts.below {w w':World}{D:Nat->Prop}{A:Option Addr}{n:Nat}{ps:List Pc}(h:Parts w D A n ps)(a:ZB w w'):Parts w' D A n ps:=Reads.below h a
theorem QmR {ps:List Pc}(h:AllGood ps)(k:Nat):Qbl (ps.take k)<=Qbl ps:=by
 have e:=Qby (ps.take k) (ps.drop k)
 rw[List.take_append_drop] at e
 have:=Q7 (ps:=ps.drop k) (fun p hp=>h p (List.mem_of_mem_drop hp))
 omega
theorem QhL : ∀(f:Nat) (D:Nat->Prop) (A:Option Addr) (n c:Nat) (ps:List Pc) (w:World),n<=f->Parts w D A n ps->AllGood ps->Qbl ps<=2147483648->n<=1073741824->n<=c ->
    Calls Tryz.prog 166 #[.slice A n c] w fun e w'=>QdN (btF f ps) w e w':=by
  intro f
  induction f with
  |zero=>
    intro D A n c ps w hf hp P hB hn hc
    have U:n=0:=by omega
    subst U
    go_enter Tryz.func166,Tryz.ntmps166
    go_wp2_with fail
    go_ret
    exact⟨none,rfl,rfl,Below.refl _ _⟩
  |succ f ih=>
    intro D A n c ps w hf hp P hB hn hc
    have q:=hp.len
    by_cases U:n=0
    · subst U
      have e:ps=[]:=List.eq_nil_of_length_eq_zero q
      subst e
      go_enter Tryz.func166,Tryz.ntmps166
      go_wp2_with fail
      go_ret
      exact⟨none,rfl,rfl,Below.refl _ _⟩
    · obtain⟨b,off,rfl,hD,K⟩:=Reads.form hp (by omega) (by omega)
      have hk:n / 2<ps.length:=by omega
      obtain⟨x,S⟩:∃x,ps[n / 2]? = some x:=⟨_,List.getElem?_eq_getElem hk⟩
      have j:=Parts.at_ K x S
      have Q:=Zh ih
      have O:=Zh S
      have R:=Zh q
      clear ih S q K
      obtain⟨k,B⟩:=ZN (n / 2)
      have q0:((n:Int)==0)=false:=by rw[beq_eq_false_iff_ne];omega
      have q1:(n:Int) / 2=(k:Int):=by omega
      go_enter Tryz.func166,Tryz.ntmps166
      go_wp2_with fail
      rw[B] at j O
      have s:ItemAt w b (off+k*7) x:=⟨j 0 _ rfl,by rw[Nat.add_assoc];exact j 1 _ rfl,by rw[Nat.add_assoc];exact j 2 _ rfl,by rw[Nat.add_assoc];exact j 3 _ rfl,by rw[Nat.add_assoc];exact j 4 _ rfl,by rw[Nat.add_assoc];exact j 5 _ rfl,by rw[Nat.add_assoc];exact j 6 _ rfl⟩
      clear j
      obtain⟨x0,x1,x2,x3,x4,x5,x6⟩:=s.out
      have q2:(0:Int)<=(k:Int):=by omega
      have q3:(k:Int)<(n:Int):=by omega
      have q4:(k:Int)<=(c:Int):=by omega
      have q5:(0:Int)<=(k:Int)+1:=by omega
      have q6:(k:Int)+1<=(n:Int):=by omega
      have q7:(k:Int)+1<=(c:Int):=by omega
      have q8:((k:Int)+1).toNat=k+1:=by omega
      have q9:IntKind.i64.wrap ((k:Int)+1)=(k:Int)+1:=IntWalk.i64_in _ (by omega)
      have v:AllGood (ps.take k):=fun p h=>P p (List.mem_of_mem_take h)
      have C:AllGood (ps.drop (k+1)):=fun p h=>P p (List.mem_of_mem_drop h)
      have t:x.sum.good:=P x (List.mem_of_getElem? O.out)
      have m:Qbl ps=Qbl (ps.take k)+(x.sum.bytes+Qbl (ps.drop (k+1))):=by
        rw[<-QaI,<-Qby]
        congr 1
        have M:k<ps.length:=by have:=R.out;omega
        have:=O.out
        rw[List.getElem?_eq_getElem M] at this
        injection this with this
        rw[<-this,<-List.drop_eq_getElem_cons M,List.take_append_drop]
      have a5:(ps.take k).length<=k:=List.length_take_le _ _
      have a4:(ps.drop (k+1)).length<=n-(k+1):=by rw[List.length_drop];have:=R.out;omega
      have Z:=Q7 v
      have a0:=Q7 C
      have Y:0<=x.sum.bytes:=by obtain⟨a,b,c,_⟩:=t;omega
      have X:Parts w D (some ⟨b,off,none⟩) k (ps.take k):=by
        have:=Reads.take hp (show k<=n by omega)
        rw[QkP] at this
        exact this
      have o : ∀g,ZB w g->Calls Tryz.prog 166 #[.slice (some ⟨b,off,none⟩) k c] g fun e w'=>QdN (btF f (ps.take k)) g e w':=
        fun g h2=>Q.out D _ k c (ps.take k) g (by omega) (X.below h2) v (by omega) (by omega) (by omega)
      have r:(btF f (ps.take k)).list=ps.take k:=QeP f _ (by omega)
      have u:(btF f (ps.drop (k+1))).list=ps.drop (k+1):=QeP f _ (by omega)
      have gl:=Tr.sum_good (btF f (ps.take k)) (by rw[r];exact v)
      have gr:=Tr.sum_good (btF f (ps.drop (k+1))) (by rw[u];exact C)
      have glx:=QfB (btF f (ps.take k)) x (by rw[r];exact v) t
      rw[r] at gl glx
      rw[u] at gr
      have H : ∀(al ar:Option Addr) (g:World),NodeAt g (btF f (ps.take k)) al->NodeAt g (btF f (ps.drop (k+1))) ar ->
          Calls Tryz.prog 177 #[.pointer al,.agg #[.slice x.A x.n x.c,.int .i64 x.tag,.int .i64 x.sum.atoms,.int .i64 x.sum.bytes,.int .i64 x.sum.breaks,.bool x.sum.lf,.bool x.sum.cr],.pointer ar] g fun e w'=>
            Qp1 (btF f (ps.take k)) x (btF f (ps.drop (k+1))) g e w':=
        fun al ar g h1 h2=>Qnt _ _ al ar x g h1 h2 (Tr.small_of (by rw[r];omega)) (Tr.small_of (by rw[u];omega)) (t.ok (by omega)) (gl.1.ok (by omega)) (gr.1.ok (by omega)) (glx.1.ok (by omega))
      have I:btF (f+1) ps=.node (btF f (ps.take k)) x (btF f (ps.drop (k+1))):=by
        simp only[btF]
        rw[R.out,B,O.out]
      have N:=Zh I
      have L:=Zh o
      have J:=Zh H
      have V:=Zh m
      clear o H I m r u gl gr glx t B q1
      by_cases hck:c=k+1
      · subst hck
        have d : ∀g,ZB w g->Calls Tryz.prog 166 #[.slice (some ⟨b,off,none⟩) 0 0] g fun e w'=>QdN (btF f (ps.drop (k+1))) g e w':=by
          intro g h2
          have e2:ps.drop (k+1)=[]:=List.eq_nil_of_length_eq_zero (by omega)
          rw[e2]
          exact Q.out D _ 0 0 [] g (by omega) Reads.none_ (fun p h=>by cases h) (by simp[Qbl]) (by omega) (by omega)
        have y:=Zh d
        clear d
        go_region_with (first|(go_at_call 177;refine(J.out _ _ _ (NodeAt.below l _ _ F) E).mono ?_;rintro e w3 ⟨T,rfl,G,z⟩)|(go_at_call 166;(with_reducible refine(L.out _ (Below.drew (Below.refl _ _))).mono ?_);rintro e w1 ⟨a1,rfl,F,i⟩;obtain⟨y0,y1,y2,y3,y4,y5,y6⟩:=(s.below (QD i)).out)|(go_at_call 166;(with_reducible refine(y.out _ (QD i)).mono ?_);rintro e g ⟨a2,rfl,E,l⟩;obtain⟨z0,z1,z2,z3,z4,z5,z6⟩:=(s.below (Qf (QD i) l)).out))
        all_goals
          go_wp2_with fail
          go_ret
          refine⟨T,rfl,?_,Qf (Qf (QD i) l) z⟩
          rw[N.out]
          exact G
      · have W:Parts w D (some ⟨b,off+(k+1)*7,none⟩) (n-(k+1)) (ps.drop (k+1)):=by
          have:=Reads.cut hp (show k+1<=n by omega) hc
          rw[if_neg hck,Qgq] at this
          rw[show (⟨b,off+(k+1)*7,none⟩:Addr)=(⟨b,off,none⟩:Addr).add ((k+1)*7) by unfold Addr.add;rw[if_neg (by omega)]]
          exact this
        have d : ∀g,ZB w g->Calls Tryz.prog 166 #[.slice (some ⟨b,off+(k+1)*7,none⟩) (n-(k+1)) (c-(k+1))] g fun e w'=>QdN (btF f (ps.drop (k+1))) g e w':=
          fun g h2=>Q.out D _ _ _ (ps.drop (k+1)) g (by omega) (W.below h2) C (by have:=V.out;omega) (by omega) (by omega)
        have y:=Zh d
        clear d
        go_region_with (first|(go_at_call 177;refine(J.out _ _ _ (NodeAt.below l _ _ F) E).mono ?_;rintro e w3 ⟨T,rfl,G,z⟩)|(go_at_call 166;(with_reducible refine(L.out _ (Below.drew (Below.refl _ _))).mono ?_);rintro e w1 ⟨a1,rfl,F,i⟩;obtain⟨y0,y1,y2,y3,y4,y5,y6⟩:=(s.below (QD i)).out)|(go_at_call 166;(with_reducible refine(y.out _ (QD i)).mono ?_);rintro e g ⟨a2,rfl,E,l⟩;obtain⟨z0,z1,z2,z3,z4,z5,z6⟩:=(s.below (Qf (QD i) l)).out))
        all_goals
          go_wp2_with fail
          go_ret
          refine⟨T,rfl,?_,Qf (Qf (QD i) l) z⟩
          rw[N.out]
          exact G
theorem NodeAt.keepBut {T:TypeId}{w w':World}(d:KeepBut T w w')(i:T≠147) : ∀(t:Tr) (a:Option Addr),NodeAt w t a->NodeAt w' t a:=by
 intro t
 induction t with
 |nil=>intro a h;exact h
 |node l x r ihl ihr=>
  rintro a ⟨b,al,ar,e,h,c,g⟩
  exact⟨b,al,ar,e,d b _ h (fun j f e=>i (by injection e with _ e;exact e.symm)),ihl al c,ihr ar g⟩
def Qsd (ps:List Pc)(w:World)(e:Ending)(w':World):Prop:=∃a,e=.returned (.agg #[.pointer a])/\NodeAt w' (btF ps.length ps) a/\ZB w w'
theorem Qli (D:Nat->Prop)(A:Option Addr)(n c:Nat)(ps:List Pc)(w:World)(hp:Parts w D A n ps)(j:AllGood ps)(l:Qbl ps<=2147483648)(hn:n<=1073741824)(k:n<=c) :
  Calls Tryz.prog 146 #[.slice A n c] w fun e w'=>Qsd ps w e w':=by
 have d:=hp.len
 have i:ZB w (w.alloc (.cells #[.pointer none] 102)):=Qa (Below.refl _ w)
 have f:=QhL ps.length D A n c ps _ (by omega) (hp.below i) j l hn k
 have m:=Zh f
 clear f d
 go_enter Tryz.func146,Tryz.ntmps146
 go_wp2_with fail
 refine(m.out).mono ?_
 rintro e w1 ⟨a,rfl,h,g⟩
 have b:Blk w1 w.heap.size 102 #[.pointer none]:=(Blk.new w _ _).below g
 have c0:=b.cell 0
 have o:=b.frozen 0
 simp at c0
 go_wp2_with fail
 refine bodyPost_ret (v:=.agg #[.pointer a]) (by simp[results,Tryz.results146,go_sem,c0]) rfl ⟨a,rfl,?_,?_⟩
 ·exact NodeAt.keepBut (KeepBut.of_fr ((Fr.refl _ _).set1 0 _) b) (by decide) _ _ h
 ·exact(i.trans (g.mono (by simp))).setCell (Nat.le_refl _) _
end Go.Proofs.YtgiihhikdoikgaaGreat
