/-
  Yank, Delete and Put on a desk, as the law of what is put back meets them.
-/
import Derived.Test.YtgiihhikdoikgaaGreatLNoneOp
set_option linter.unusedSimpArgs false
set_option linter.unusedVariables false
set_option maxRecDepth 100000
set_option maxHeartbeats 32000000
namespace Go.Proofs.YtgiihhikdoikgaaGreat
open Go.RowKit
def CpR (l:List Int)(N:Nat)(w:World)(k:Nat)(b a:Value)(wr:World):Prop:=
 ∃i:Nat,a=.int .i64 (i:Int)/\i<=N/\N-i<=k/\Hid (wr.ownsRow w.heap.size 3 1 b i ((l.take i).map (Value.int .i64)))/\ZB w wr
theorem QkF (A:Option Addr)(n c:Nat)(l:List Int)(w:World)(p:IntsI w A n l)(hn:n<=1000000) :
  Calls Tryz.prog 70 #[.slice A n c] w (NewInts l w):=by
 have g:=p.any.len
 have d:=Zh g
 obtain⟨K,e,t,v,u⟩:=info_parts Qa3
 have y:=Zh e
 have I:=Zh p
 clear p e g
 go_enter Tryz.func70,Tryz.ntmps70
 go_wp2_with fail
 go_loopg [3,4] n (fun k H F wr=>CpR l n w k H F wr)
 case atStart=>exact⟨0,rfl,Nat.zero_le _,by omega,Zh (World.ownsRow_nil _ _ _ _),Below.refl _ _⟩
 case round=>
  obtain⟨i,rfl,M,B,a,o⟩:=hrel
  have G:=o.size
  by_cases hgo:i<n
  ·have E:((i:Int)<(n:Int))=True:=by simp;omega
   obtain⟨N,rfl,_,cx⟩:=Ints.at_ (I.out.bel o).any hgo
   have j:(l.take (i+1)).map (Value.int .i64)=(l.take i).map (Value.int .i64)++[.int .i64 (l.getD i 0)]:=by
    rw[List.take_succ_eq_append_getElem (by rw[d.out];exact hgo),List.map_append,List.getD_eq_getElem?_getD,List.getElem?_eq_getElem (by rw[d.out];exact hgo)]
    rfl
   have f:=Zh j
   obtain⟨x,m⟩:=ZN (l.getD i 0)
   rw[m] at cx f
   obtain⟨C,D,rfl,J⟩:=Qj a.out
   clear j m
   go_wp2_with (at_builtin;refine wpList_append_own_at _ rfl (.tmp 11) (.tmp 16) 36 rfl w.heap.size 3 K (.int .i64 0) 1 8 Tryz.underlying36 y.out t v u rfl (by decide) (.slice C i D) i _ rfl (a.out.alloc _) ⟨wr.heap.size,0,none⟩ 1 1 [.int .i64 x] rfl rfl (cell_one_new _ _ _) (by simp[Value.oneCell']) (by unfold maxLen;omega) (by omega) (by simp;omega) ?_)
   intro L w1 b h _ _
   have q:ZB w w1:=Qy (Qa o) h (fun k B=>QaV a.out B)
   have z:=Zh b
   have wi:IntKind.i64.wrap ((i:Int)+1)=((i+1:Nat):Int):=by rw[IntWalk.i64_in _ (by omega)];omega
   clear b h cx
   go_wp2_with fail
   go_roundg (n-(i+1))
   case measure=>omega
   case rel=>exact⟨i+1,by simp,by omega,by omega,Zh (by rw[f.out,List.map_take];exact z.out),q⟩
  ·have E:((i:Int)<(n:Int))=False:=by simp;omega
   have s:i=n:=by omega
   have r:=a.out
   rw[List.take_of_length_le (by rw[d.out];omega),show i=l.length by rw[d.out];exact s] at r
   have z:=Zh r
   clear r a
   go_wp2_with fail
   go_ret
   exact⟨_,rfl,z.out,o⟩
def QbP (l:List Int)(a b:Nat):List Int:=l.take a++l.drop b
def GnR (l:List Int)(N a b:Nat)(w:World)(k:Nat)(d c:Value)(wr:World):Prop:=
 ∃i:Nat,c=.int .i64 (i:Int)/\b<=i/\i<=N/\N-i<=k/\Hid (wr.ownsRow w.heap.size 3 1 d (a+(i-b)) ((l.take a++(l.drop b).take (i-b)).map (Value.int .i64)))/\ZB w wr
theorem Qox (A:Option Addr)(n c a b:Nat)(l:List Int)(w:World)(B:IntsI w A n l)(hn:n<=1000000)(hc:n<=c)(ha:a<=b/\b<=n) :
  Calls Tryz.prog 22 #[.slice A n c,.int .i64 (a:Int),.int .i64 (b:Int)] w (NewInts (QbP l a b) w):=by
 have y:=B.any.len
 have r:(l.take a).length=a:=by rw[List.length_take];omega
 have H:=Zh (fun(Q:Option Addr) (c':Nat) (X:IntsI w Q a (l.take a))=>QkF Q a c' (l.take a) w X (by omega))
 have s:IntsI w A a (l.take a):=by
  have S:Reads w (fun b=>∃cs,Blk w b 3 cs) 1 A n (l.map (Value.int .i64)):=B
  have:=S.take (k:=a) (by omega)
  rw[Nat.mul_one,<-List.map_take] at this
  exact this
 have E:=Zh s
 obtain⟨i0,h,I,L,J⟩:=info_parts Qa3
 have N:=Zh h
 have HL:=Zh B
 have g:=Zh y
 have j:=Zh r
 have p1:((a:Int)<0)=False:=by simp
 have Z:((c:Int)<(a:Int))=False:=by simp;omega
 clear B h y r s
 go_enter Tryz.func22,Tryz.ntmps22
 go_wp2_with fail
 refine(H.out _ _ E.out).mono ?_
 rintro e w1 ⟨v1,rfl,q,m⟩
 have a3:=m.size
 have D:=Zh q
 clear q p1 Z
 go_wp2_with fail
 go_loopg [7,8] n (fun k T R wr=>GnR l n a b w k T R wr)
 case atStart=>
  refine⟨b,rfl,Nat.le_refl _,ha.2,by omega,Zh ?_,m⟩
  rw[Nat.sub_self,Nat.add_zero,List.take_zero,List.append_nil]
  have:=D.out
  rw[j.out] at this
  exact this
 case round=>
  obtain⟨i,rfl,a0,hi,P,d,z⟩:=hrel
  have a2:=z.size
  by_cases hgo:i<n
  ·have W:((i:Int)<(n:Int))=True:=by simp;omega
   obtain⟨ad,rfl,_,cx⟩:=Ints.at_ (HL.out.bel z).any hgo
   have u:(l.take a++(l.drop b).take (i+1-b)).map (Value.int .i64)=(l.take a++(l.drop b).take (i-b)).map (Value.int .i64)++[.int .i64 (l.getD i 0)]:=by
    rw[show i+1-b=(i-b)+1 by omega,List.take_succ_eq_append_getElem (by rw[List.length_drop,g.out];omega),List.getElem_drop,<-List.append_assoc,List.map_append,List.getD_eq_getElem?_getD,List.getElem?_eq_getElem (by rw[g.out];exact hgo)]
    simp only[show b+(i-b)=i by omega]
    rfl
   have p:=Zh u
   obtain⟨x,v⟩:=ZN (l.getD i 0)
   rw[v] at cx p
   obtain⟨U,V,rfl,K⟩:=Qj d.out
   clear u v
   obtain⟨M,hM⟩:=ZN (a+(i-b))
   rw[hM] at d K ⊢
   go_wp2_with (at_builtin;refine wpList_append_own_at _ rfl (.tmp 20) (.tmp 25) 36 rfl w.heap.size 3 i0 (.int .i64 0) 1 8 Tryz.underlying36 N.out I L J rfl (by decide) (.slice U M V) M _ rfl (d.out.alloc _) ⟨wr.heap.size,0,none⟩ 1 1 [.int .i64 x] rfl rfl (cell_one_new _ _ _) (by simp[Value.oneCell']) (by unfold maxLen;omega) (by omega) (by simp;omega) ?_)
   intro v2 Y f t _ _
   have C:ZB w Y:=Qy (Qa z) t (fun k P=>QaV d.out P)
   have F:=Zh f
   have wi:IntKind.i64.wrap ((i:Int)+1)=((i+1:Nat):Int):=by rw[IntWalk.i64_in _ (by omega)];omega
   clear f t cx
   go_wp2_with fail
   go_roundg (n-(i+1))
   case measure=>omega
   case rel=>exact⟨i+1,by simp,by omega,by omega,by omega,Zh (by rw[p.out,show a+(i+1-b)=M+1 by omega,List.map_append,List.map_take,List.map_take,List.map_drop,List.append_assoc];exact F.out),C⟩
  ·have W:((i:Int)<(n:Int))=False:=by simp;omega
   have a1:i=n:=by omega
   have G:=d.out
   have O:l.take a++(l.drop b).take (i-b)=QbP l a b:=by
    unfold QbP
    rw[List.take_of_length_le (l:=l.drop b) (by rw[List.length_drop,g.out];omega)]
   have o:a+(i-b)=(QbP l a b).length:=by
    unfold QbP
    rw[List.length_append,j.out,List.length_drop,g.out]
    omega
   rw[O,o] at G
   have F:=Zh G
   clear G d O o
   go_wp2_with fail
   go_ret
   exact⟨_,rfl,F.out,z⟩
section
variable {ds:List (Int × Int)} (hp:PosD ds)
include hp
theorem Qp5 {i q:Nat}(d:i<=QaG ds)(h1:sk ds i<=q)(h2:q<=ds.length)(c:i<QaG ds->q<sk ds (i+1)):Qdk (ds.map Prod.fst) q=i:=by
 have h:=QeF hp d
 have f:=QaT (ds.map Prod.fst) h1
 have g:=QaT (ds.map Prod.fst) h2
 have e:Qdk (ds.map Prod.fst) ds.length=QaG ds:=rfl
 rcases Nat.lt_or_ge i (QaG ds) with b|b
 ·have j:=c b
  rcases Nat.lt_or_ge i (Qdk (ds.map Prod.fst) q) with a|a
  ·have:=Qgn hp (m:=q) (k:=i+1) h2 b a
   omega
  ·omega
 ·omega
omit hp in
theorem QcU {i:Nat}(a:i<QaG ds):(Qo ds i).next=(sk ds (i+1):Int):=by
 unfold Qo
 rw[if_pos a]
 unfold Qb8
 (repeat' split)<;>rfl
theorem Qie {i:Nat}(a:i<=QaG ds):i<QaG ds->(Qo ds i).to_<=(sk ds (i+1):Int):=fun h=>by
 have:=Q3 hp a
 rw[QcU h] at this
 exact this.2.2.1
theorem Qke {i:Nat}{q:Int}(a:i<=QaG ds)(h1:(Qo ds i).from_<=q)(h2:q<(Qo ds i).to_\/q=(Qo ds i).from_):ofF ds q=i:=by
 have b:=Q3 hp a
 rw[Qbd] at h1 h2 b
 unfold ofF
 rw[Nat.min_eq_left (by omega)]
 refine Qp5 hp a (by omega) (by omega) (fun h=>?_)
 have c:=Qie hp a h
 have d:=Ql3 hp h
 omega
theorem Qeu {i:Nat}{q:Int}(a:i<=QaG ds)(b:i<QL ds)(h1:(Qo ds i).from_<=q)(h2:q<(Qo ds i).to_\/q=(Qo ds i).from_):Qs ds q false=i:=by
 unfold Qs
 rw[if_neg (by decide),Qke hp a h1 h2]
 omega
theorem Qqh {i j:Nat}(b:i<=QaG ds)(c:j<=nC (Qbb ds i)-1):(Qo ds i).from_<=(Qo ds i).from_+(mkb (Qbb ds i) j:Int)/\((Qo ds i).from_+(mkb (Qbb ds i) j:Int)<(Qo ds i).to_\/(Qo ds i).from_+(mkb (Qbb ds i) j:Int)=(Qo ds i).from_):=by
 have d:=QaE hp b
 refine⟨by omega,?_⟩
 rcases Nat.eq_zero_or_pos (nC (Qbb ds i)) with a|a
 ·right
  have:j=0:=by omega
  subst this
  rw[QfG]
  omega
 ·left
  have:=(Qet (C:=Qbb ds i) (k:=j) (by omega)).1
  omega
theorem QnE {x:Int}{j:Nat}(h:ClampOk ds x j)(c:j<=nC (Qbb ds (Qs ds x false))):j<=nC (Qbb ds (Qs ds x false))-1:=by
 unfold ClampOk at h
 have b:=QaO ds x false
 have d:=QaE hp b
 split at h
 ·omega
 ·rename_i a
  have e:=Qf7 hp x
  have:=h.lt (by omega)
  omega
theorem Qh1 {x:Int}{j:Nat}(h:ClampOk ds x j)(b:j<=nC (Qbb ds (Qs ds x false))):ofF ds (QY ds x j)=Qs ds x false/\Qs ds (QY ds x j) false=Qs ds x false:=by
 have a:=QaO ds x false
 obtain⟨h1,h2⟩:=Qqh hp a (QnE hp h b)
 exact⟨Qke hp a h1 h2,Qeu hp a (QgW ds x) h1 h2⟩
theorem Qpe {x:Int}{i:Nat}(h:HereAt ds x i):i=Qs ds x false:=by
 obtain⟨j,h1,h2,a⟩:=h
 have:=(Qh1 hp h1 h2).2
 unfold QY at this
 rw[a,this]
theorem Qpm {i:Nat}{x:Int}(a:i<=QaG ds)(c:i<QL ds)(h:SignAt ds i x):Qs ds x false=i:=by
 obtain⟨j,h1,rfl⟩:=h
 obtain⟨h2,b⟩:=Qqh hp a h1.2.1
 exact Qeu hp a c h2 b
theorem QsA {p:Nat}(c:p<=ds.length)(h:p=0\/isE (ds.map Prod.fst) p=true):Qdk (ds.map Prod.fst) p<=QaG ds/\sk ds (Qdk (ds.map Prod.fst) p)=p:=by
 have b:Qdk (ds.map Prod.fst) p<=QaG ds:=QaT _ c
 refine⟨b,?_⟩
 rcases h with rfl|h
 ·exact Qen ds
 ·have a:0<Qdk (ds.map Prod.fst) p:=by
   have:=Qel (ds.map Prod.fst) (QmN h).1 h
   omega
  exact QqP hp a b h rfl
theorem QnC {a x:Int}{j:Nat}(t:0<=a/\a<(ds.length:Int))(m:a=0\/isE (ds.map Prod.fst) a.toNat=true)(o:LandX 1 ds a x)(k:ClampOk ds x j)(d:j<=nC (Qbb ds (Qs ds x false))):(Qo ds (ofF ds (QY ds x j))).from_=a:=by
 rcases o with ⟨h,_⟩|⟨_,i,h1,h2⟩
 ·cases h
 ·obtain ⟨u, g⟩ := QsA hp (p := a.toNat) (by omega) (by
   rcases m with h|h
   ·exact .inl (by omega)
   ·exact .inr h)
  have n:=QaO ds a false
  have b:=Qpe hp h1
  have l:=Qpm hp (b▸n) (b▸QgW ds a) h2
  rw[(Qh1 hp k d).1,l,b,Qbd]
  have c:ofF ds a=Qdk (ds.map Prod.fst) a.toNat:=by unfold ofF;rw[Nat.min_eq_left (by omega)]
  have q:Qs ds a false=ofF ds a:=by
   unfold Qs
   rw[if_neg (by decide)]
   have s:ofF ds a<=QL ds-1:=by
    unfold QL
    split
    ·rename_i f
     rw[c]
     unfold Qq7 at f
     rw[decide_eq_true_eq] at f
     rcases Nat.lt_or_ge (Qdk (ds.map Prod.fst) a.toNat) (QaG ds) with r|r
     ·omega
     ·have e:Qdk (ds.map Prod.fst) a.toNat=QaG ds:=by omega
      rw[e,f.2] at g
      omega
    ·rw[c]
     omega
   omega
  rw[q,c,g]
  omega
end
theorem Qrc {A:List Int}{a b:Nat}{q:Nat}(c:q<b-a):(seg (a:Int) (b:Int) A).getD q 0=A.getD (a+q) 0:=by
 unfold seg
 rw[Int.toNat_natCast,Int.toNat_natCast,List.getD_eq_getElem?_getD,List.getElem?_take,if_pos c,List.getElem?_drop,List.getD_eq_getElem?_getD]
theorem QeU {A:List Int}{a b:Nat}(h1:a<=b)(h2:b<=A.length):(seg (a:Int) (b:Int) A).length=b-a:=by
 unfold seg
 rw[Int.toNat_natCast,Int.toNat_natCast,List.length_take,List.length_drop]
 omega
theorem QpG {A:List Int}{a b q:Nat}(h:q<a)(c:a<=A.length):(QbP A a b).getD q 0=A.getD q 0:=by
 unfold QbP
 rw[List.getD_eq_getElem?_getD,List.getElem?_append_left (by rw[List.length_take];omega),List.getElem?_take,if_pos h,List.getD_eq_getElem?_getD]
theorem QqS {A:List Int}{a b:Nat}(c:a<=A.length):(QbP A a b).getD a 0=A.getD b 0:=by
 unfold QbP
 rw[List.getD_eq_getElem?_getD,List.getElem?_append_right (by rw[List.length_take];omega),List.length_take,Nat.min_eq_left c,Nat.sub_self,List.getElem?_drop,List.getD_eq_getElem?_getD,Nat.add_zero]
theorem QeO {A:List Int}{a b:Nat}(h1:a<=b)(h2:b<=A.length):(QbP A a b).length=A.length-(b-a):=by
 unfold QbP
 rw[List.length_append,List.length_take,List.length_drop]
 omega
theorem QkQ {ds:List (Int × Int)}(hp:PosD ds){d c a b:Nat}{nv:Int}(h1:d<QL ds)(h2:c<=QaG ds)(B:(Qo ds d).from_=(a:Int))(r:(Qo ds c).next=(b:Int))(E:b<ds.length)(C:a<b)(w:(ds.map Prod.fst).getD (b-1) 0=10\/(ds.map Prod.fst).getD (b-1) 0=13)(x : ¬(0<a/\(ds.map Prod.fst).getD (a-1) 0=13/\(ds.map Prod.fst).getD b 0=10)) :
  QkE ds 1 a b nv a b (seg (a:Int) (b:Int) (ds.map Prod.fst))/\wrF 1 (seg (a:Int) (b:Int) (ds.map Prod.fst))=seg (a:Int) (b:Int) (ds.map Prod.fst)/\((a:Int)=0\/isE (QbP (ds.map Prod.fst) a b) a=true):=by
 have F:(ds.map Prod.fst).length=ds.length:=List.length_map ..
 have i:d<=QaG ds:=by
  have:=(@Qbf ds).2
  omega
 have hm:c<QaG ds:=by
  rcases Nat.lt_or_ge c (QaG ds) with h|h
  ·exact h
  ·exfalso
   have:Qo ds c=⟨sk ds c,ds.length,ds.length,0⟩:=by unfold Qo;rw[if_neg (by omega)]
   rw[this] at r
   dsimp only at r
   omega
 rw[Qbd] at B
 rw[QcU hm] at r
 have j:sk ds d=a:=by omega
 have o:sk ds (c+1)=b:=by omega
 have z:d<=c:=by
  rcases Nat.lt_or_ge c d with h|h
  ·exfalso
   rcases Nat.eq_or_lt_of_le (show c+1<=d from h) with e|e
   ·rw[e] at o
    omega
   ·have:=Qq8 hp e i
    omega
  ·exact h
 have n:Qs ds (a:Int) false=d:=Qeu hp i h1 (by rw[Qbd];omega) (.inr (by rw[Qbd];omega))
 have g:Qs ds (max (a:Int) ((b:Int)-1)) false=c:=by
  have G:=Ql3 hp hm
  have s:ofF ds (max (a:Int) ((b:Int)-1))=c:=by
   unfold ofF
   rw[show min (max (a:Int) ((b:Int)-1)).toNat ds.length=b-1 by omega]
   exact Qp5 hp (Nat.le_of_lt hm) (by omega) (by omega) (fun _=>by omega)
  unfold Qs
  rw[if_neg (by decide),s]
  have:QaG ds<=QL ds:=by unfold QL;omega
  omega
 have f:(Qo ds c).brk≠0:=by
  unfold Qo
  rw[if_pos hm]
  unfold Qb8
  (repeat' split)<;>simp
 have l:(Qo ds c).next=(b:Int):=by rw[QcU hm,o]
 have m:(Qo ds d).from_=(a:Int):=by rw[Qbd,j]
 refine⟨.inr ⟨rfl,?_,?_,?_⟩,?_,?_⟩
 ·rw[n,g]
  unfold Qgm
  rw[if_neg (fun h=>f h.1),m]
 ·rw[g,l]
 ·unfold QcM
  rw[n,g,l,m,if_neg f,List.append_nil]
 ·unfold wrF
  rw[if_neg]
  rintro⟨_,h⟩
  have v:=QeU (A:=ds.map Prod.fst) (a:=a) (b:=b) (by omega) (by omega)
  unfold lbF at h
  have u:(seg (a:Int) (b:Int) (ds.map Prod.fst)).getD (b-a-1) 0=(ds.map Prod.fst).getD (b-1) 0:=by
   rw[Qrc (by omega),show a+(b-a-1)=b-1 by omega]
  rw[v,u] at h
  split at h
  ·cases h
  ·rw[if_pos ⟨by omega,w⟩] at h
   cases h
 ·rcases Nat.eq_zero_or_pos a with t|t
  ·exact .inl (by omega)
  ·right
   have q:0<d:=by
    rcases Nat.eq_zero_or_pos d with h|h
    ·subst h
     rw[Qen] at j
     omega
    ·exact h
   have p:=(Qeg hp q i).2.1
   rw[j] at p
   unfold isE at p ⊢
   rw[decide_eq_true_eq] at p ⊢
   obtain⟨_,y,k⟩:=p
   refine⟨t,by rw[QeO (by omega) (by omega)];omega,?_⟩
   rw[QpG (by omega) y,QqS y]
   rcases k with k|⟨k,_⟩
   ·exact .inl k
   ·exact .inr ⟨k,fun D=>x ⟨t,k,D.2⟩⟩
theorem Qqq {ats:List (Int × Int)}{es:List Ed}{a b:Nat}(c:es.map abE=[((a:Int),(b:Int),[])]):(edA es ats).map Prod.fst=QbP (ats.map Prod.fst) a b:=by
 cases es with
 |nil=>cases c
 |cons e r=>
  rw[List.map_cons] at c
  injection c with h1 h2
  have:r=[]:=by simpa using h2
  subst this
  unfold abE at h1
  injection h1 with e1 h1
  injection h1 with e2 e3
  unfold edA
  rw[QmY]
  show ed1 _ e (ats.map Prod.fst)=_
  unfold ed1 QbP
  rw[e1,e2,e3,Int.toNat_natCast,Int.toNat_natCast,List.map_nil,List.append_nil]
theorem Qrx {ats:List (Int × Int)}{A:List Int}{a b:Nat}{P:List Int}{Ad:Option Addr}{k:Nat}(d:ats.map Prod.fst=QbP A a b)(e:P=seg (a:Int) (b:Int) A)(h1:a<=b)(h2:b<=A.length):(edA [QA (a:Int) P Ad k] ats).map Prod.fst=A:=by
 have f:(edA [QA (a:Int) P Ad k] ats).map Prod.fst=(ats.map Prod.fst).take a++P++(ats.map Prod.fst).drop a:=by
  unfold edA
  rw[QmY]
  show List.take _ _++List.map _ _++List.drop _ _=_
  simp[QA,edL]
 have c:(A.take a).length=a:=by rw[List.length_take];omega
 rw[f,d,e]
 unfold QbP seg
 rw[List.take_left' c,List.drop_left' c,Int.toNat_natCast,Int.toNat_natCast,List.append_assoc]
 have g:(A.drop a).take (b-a)++A.drop b=A.drop a:=by
  have:=List.take_append_drop (b-a) (A.drop a)
  rw[List.drop_drop,show a+(b-a)=b by omega] at this
  exact this
 rw[g,List.take_append_drop]
theorem QnG (enc:Int)(ats:List (Int × Int)):szS (Qb enc ats)=Qcc enc (ats.map Prod.fst):=by
 unfold szS Qb Qat Qcc
 rw[List.map_map]
 rfl
theorem Qjm (enc:Int)(x y:List Int):Qcc enc (x++y)=Qcc enc x+Qcc enc y:=by
 unfold Qcc
 rw[List.map_append,List.sum_append]
theorem QqX (enc:Int){A:List Int}{a b:Nat}(h1:a<=b):Qcc enc A=Qcc enc (QbP A a b)+Qcc enc (seg (a:Int) (b:Int) A):=by
 have c:A=A.take a++((A.drop a).take (b-a)++A.drop b):=by
  have:=List.take_append_drop (b-a) (A.drop a)
  rw[List.drop_drop,show a+(b-a)=b by omega] at this
  rw[this,List.take_append_drop]
 unfold QbP seg
 conv=>lhs;rw[c]
 rw[Qjm,Qjm,Qjm,Int.toNat_natCast,Int.toNat_natCast]
 omega
theorem QnK {enc:Int}{ats:List (Int × Int)}(hp:PosD (Qb enc ats)){x:Int}(a:x ∈ ats.map Prod.fst):0<szA enc x:=by
 have:(x,szA enc x) ∈ Qb enc ats:=by
  unfold Qb Qat
  exact List.mem_map_of_mem a
 exact hp _ this
theorem QjW {A:List Int}{a b x:Int}(h:x ∈ seg a b A):x ∈ A:=by
 unfold seg at h
 exact List.mem_of_mem_drop (List.mem_of_mem_take h)
theorem QoE {enc lim:Int}{ats c:List (Int × Int)}{a b:Nat}(hp:PosD (Qb enc ats))(i:PosD (Qb enc c))(l:c.map Prod.fst=QbP (ats.map Prod.fst) a b)(h1:a<=b)(h2:b<=ats.length)(h:szS (Qb enc ats)<=lim)(Ad:Option Addr)(k:Nat) :
  QbN enc lim (Qb enc c) [QA (a:Int) (seg (a:Int) (b:Int) (ats.map Prod.fst)) Ad k]=0:=by
 have n:(Qb enc c).length=ats.length-(b-a):=by
  rw[Qr,show c.length=(c.map Prod.fst).length from (List.length_map ..).symm,l,QeO h1 (by rw[List.length_map];exact h2),List.length_map]
 have j:=Qce i (Qb enc c).length
 rw[List.take_length,QnG,l] at j
 have o:=QqX enc (A:=ats.map Prod.fst) h1
 rw[QnG] at h
 have e:QjE enc [QA (a:Int) (seg (a:Int) (b:Int) (ats.map Prod.fst)) Ad k]=true:=by
  unfold QjE Qqc QA
  simp only[List.all_cons,List.all_nil,Bool.and_true,List.all_eq_true]
  intro x m
  have:=QnK hp (QjW m)
  simp
  omega
 have d:Qdw 0 (Qb enc c).length [QA (a:Int) (seg (a:Int) (b:Int) (ats.map Prod.fst)) Ad k]=true:=by
  unfold Qdw QA
  dsimp only
  rw[if_neg (by omega)]
  rfl
 have g:QcK enc [QA (a:Int) (seg (a:Int) (b:Int) (ats.map Prod.fst)) Ad k]=Qcc enc (seg (a:Int) (b:Int) (ats.map Prod.fst)):=by
  unfold QcK QA
  simp
 have f:Qgs (Qb enc c) [QA (a:Int) (seg (a:Int) (b:Int) (ats.map Prod.fst)) Ad k]=0:=by
  unfold Qgs QnB QA
  simp
 unfold QbN
 rw[if_neg (by simp),d,if_neg (by decide),e,if_neg (by decide),j,g,f,if_neg (by omega)]
theorem QpS {enc:Int}{ats:List (Int × Int)}{a b:Int}(hp:PosD (Qb enc ats)):QfY enc (seg a b (ats.map Prod.fst)) 1=0:=by
 have c : ¬((seg a b (ats.map Prod.fst)).any (fun x=>szA enc x==0)=true):=by
  rw[List.any_eq_true]
  rintro⟨x,d,h⟩
  have:=QnK hp (QjW d)
  simp at h
  omega
 unfold QfY
 rw[if_neg c,if_neg]
 rintro⟨h1,h2⟩
 have:=Int.ediv_nonneg (a:=131072) (b:=Qcc enc (seg a b (ats.map Prod.fst))) (by decide) (by omega)
 omega
theorem Qmb {R:Int->Option (Int × List Int)}{kd:Int}{ys:List Int}(a:ys≠[]):(Qea (Qc7 R (ykF 97) kd ys) 34 kd ys).1 (gkF 34 (Qea (Qc7 R (ykF 97) kd ys) 34 kd ys).2)=some (kd,ys)/\(Qea (Qc7 R (ykF 97) kd ys) 34 kd ys).1 97=some (kd,ys):=by
 have b:ykF 97=97:=rfl
 rw[b]
 have c : ∀t:Int,gkF 34 t=t:=fun t=>by unfold gkF;rw[if_pos rfl]
 rw[c]
 unfold Qea
 rw[if_neg (fun h=>h rfl)]
 by_cases h:kd=0/\¬10 ∈ ys/\¬13 ∈ ys
 ·rw[if_pos h]
  unfold Qc7
  simp[a]
 ·rw[if_neg h]
  unfold Qc7 shI
  simp[a]
theorem QiW (B d s g l n:Nat)(enc lim a b nm k z at_:Int)(st:BkS)(m:Array Value)(R:Int->Option (Int × List Int))(w:World)(h:DeskIs w B d s g enc lim n st m)(x:BankIs w B l st.mb R z)(h1:m[1]? = some (.pointer (some ⟨l,0,none⟩)))(h2:m[2]? = some (.int .i64 at_))
  (H:0<=a/\a<b/\b<=(st.ats.length:Int)) (o:QaC nm=((k,false),true)) (t:k≠46/\k≠58/\k≠47/\k≠95) :
  Calls Tryz.prog 7 #[.pointer (some ⟨d,0,none⟩),.int .i64 nm,.agg #[.int .i64 a,.int .i64 b,.int .i64 0]] w fun e w'=>e=.returned (.int .i64 0)/\QdV B d s g l n enc lim st m (Qc7 R (ykF k) 0 (seg a b (st.ats.map Prod.fst))) (ykF k) a w w':=by
 have L : ∀(fn:Fn) (first cap:Array Value) (w:World),(Instr.makeFunc fn first cap).run Tryz.prog w=.ok (.func fn first cap) w:=fun _ _ _ _=>rfl
 have f:ZB w (((w.alloc (.cells #[.pointer (some ⟨d,0,none⟩)] 23)).alloc (.cells #[.int .i64 nm] 3)).alloc (.cells #[.int .i64 a,.int .i64 b,.int .i64 0] 29)):=Qa (Qa (Qa (Below.refl _ _)))
 have r:Blk (((w.alloc (.cells #[.pointer (some ⟨d,0,none⟩)] 23)).alloc (.cells #[.int .i64 nm] 3)).alloc (.cells #[.int .i64 a,.int .i64 b,.int .i64 0] 29)) w.heap.size 23 #[.pointer (some ⟨d,0,none⟩)]:=((Blk.new w _ _).alloc _).alloc _
 have p:Blk (((w.alloc (.cells #[.pointer (some ⟨d,0,none⟩)] 23)).alloc (.cells #[.int .i64 nm] 3)).alloc (.cells #[.int .i64 a,.int .i64 b,.int .i64 0] 29)) (w.heap.size+1) 3 #[.int .i64 nm]:=(Blk.new' (by simp)).alloc _
 have v:Blk (((w.alloc (.cells #[.pointer (some ⟨d,0,none⟩)] 23)).alloc (.cells #[.int .i64 nm] 3)).alloc (.cells #[.int .i64 a,.int .i64 b,.int .i64 0] 29)) (w.heap.size+1+1) 29 #[.int .i64 a,.int .i64 b,.int .i64 0]:=Blk.new' (by simp)
 have J:=Zh h
 have I:=Zh x
 have F:d<w.heap.size/\l<w.heap.size/\st.mb<w.heap.size:=⟨h.desk.lt,x.blk.lt,(Q8 x).1⟩
 obtain⟨xs,u⟩:=ZN (seg a b (st.ats.map Prod.fst))
 have A:=fun(w':World) (O:DeskIs w' B d s g enc lim n st m) (K:BankIs w' B l st.mb R z) (r p v:Nat) k0 k1 k2=>QjB B d s g l n r p v enc lim a b nm k z at_ st m R w' O K h1 h2 k0 k1 k2 H o t
 rw[u] at A ⊢
 have G:=Zh A
 clear h x h1 h2 A u H o t
 go_enter Tryz.func7,Tryz.ntmps7
 go_upto_region 1 with fail
 obtain⟨w3,i⟩:∃Q,(((w.alloc (.cells #[.pointer (some ⟨d,0,none⟩)] 23)).alloc (.cells #[.int .i64 nm] 3)).alloc (.cells #[.int .i64 a,.int .i64 b,.int .i64 0] 29))=Q:=⟨_,rfl⟩
 rw[i] at f r p v ⊢
 clear i
 have c:ZB w3 (w3.alloc (.cells #[.int .i64 0] 26)):=Qa (Below.refl _ _)
 have D:=Blk.new w3 26 #[.int .i64 0]
 have N:=f.size
 have y := Zh (Qdc 26 #[.pointer (some ⟨w.heap.size,0,none⟩),.pointer (some ⟨w.heap.size+1+1,0,none⟩),.pointer (some ⟨w.heap.size+1,0,none⟩)] w3
  (fun w'=>QdV B d s g l n enc lim st m (Qc7 R (ykF k) 0 xs) (ykF k) a (w3.alloc (.cells #[.int .i64 0] 26)) w') (fun _ _=>False) Tryz.call26
  ((G.out _ (J.out.below (Qf f c)) (I.out.below (Qf f c)) _ _ _ (r.below c) (v.below c) (p.below c)).mono (fun _ _ hp=>.inl hp))
  (fun w' ⟨j,_,_,_,_,q⟩=>D.fr q (fun C=>by rcases C with e|e|e<;>omega)) (fun _ _ q=>q.elim))
 clear r p v D G I J
 go_wp2_with fail
 refine(y.out).mono ?_
 rintro e U (⟨rfl,E⟩|⟨_,_,_,q,_⟩)
 ·have P:=Zh E
  clear E
  go_wp2_with fail
  go_ret
  obtain⟨j,h1,h2,T,S,M⟩:=P.out
  exact⟨rfl,j,h1,h2,T,S,(Fr.of_below (Qf f c)).call M (fun _ _ C=>C)⟩
 ·exact q.elim
theorem BankIs.of_new {w:World}{B a mk:Nat}(h:Qni w a mk)(h1:B<=a)(h2:B<=mk):BankIs w B a mk (fun _=>none) 0:=
 ⟨h.1,⟨h1,h2⟩,[],MapIs.of_empty h.2,List.nodup_nil,fun _=>rfl⟩
theorem QqB (A:List Int):0<=Qja A/\Qja A<=3:=by
 induction A with
 |nil=>exact⟨by decide,by decide⟩
 |cons a r ih=>
  unfold Qja
  (repeat' split)<;>first|exact ih|exact⟨by decide,by decide⟩
theorem QqO (A:List Int){fb:Int}(h:1<=fb/\fb<=3):1<=Qhq A fb/\Qhq A fb<=3:=by
 have:=QqB A
 unfold Qhq
 split
 ·exact h
 ·omega
def BackOk (c:List (Int × Int))(kd nv:Int)(a b:Nat):Prop:=
 a<=b/\b<=c.length/\(kd=0\/(kd=1/\a<b/\b<c.length/\QkE c 1 a b nv a b (seg (a:Int) (b:Int) (c.map Prod.fst))/\wrF 1 (seg (a:Int) (b:Int) (c.map Prod.fst))=seg (a:Int) (b:Int) (c.map Prod.fst)/\((a:Int)=0\/isE (QbP (c.map Prod.fst) a b) a=true)))
theorem QdG {w0 w w':World}{B gd gb l gk b4 bo n N:Nat}{E lim tu:Int}{st:BkS}{dc:Array Value}{R:Int->Option (Int × List Int)}{o:Array Value}{vR:Value}{A:Option Addr}{L:List Int}(q:w0.heap.size<=b4)(p:ZB w0 w)(f:DeskIs w B gd gb l E lim n st dc)(h:BankIs w B gk st.mb R tu)(c:Blk w b4 29 o)(j:Blk w bo 52 #[.pointer (some ⟨gd,0,none⟩),vR])(m:IntsI w A N L)(d:Fr (· = b4) w w') :
  DeskIs w' B gd gb l E lim n st dc/\BankIs w' B gk st.mb R tu/\Blk w' bo 52 #[.pointer (some ⟨gd,0,none⟩),vR]/\IntsI w' A N L/\ZB w0 w':=
 ⟨f.alien d (fun k _ e=>⟨e▸Blk.ne_ c f.desk (by decide),_,_,e▸c,by decide⟩),h.fr d (fun b _ e=>⟨e▸Blk.ne_ c h.blk (by decide),_,_,e▸c,by decide⟩),j.fr d (fun e=>Blk.ne_ j c (by decide) e),m.fr d (fun b _ e ⟨cs',hc⟩=>Blk.ne_ hc c (by decide) e),bfr p d (fun i e=>by omega)⟩
def DKs (gd gk mb b:Nat):Prop:=b=gd\/b=mb\/b=gk
theorem Qej {st:BkS}{es:List Ed}{c x:Int}(h2:(st.undo.length:Int)<=st.depth):(Qdo st es c x).ats=edA es st.ats/\(Qdo st es c x).now=none/\(Qdo st es c x).mb=st.mb/\((Qdo st es c x).undo.length:Int)<=(Qdo st es c x).depth/\(Qdo st es c x).last<=st.last+1:=by
 unfold Qdo QiA
 split
 ·refine⟨rfl,rfl,rfl,Qo9 h2,?_⟩
  dsimp only;omega
 ·refine⟨rfl,rfl,rfl,h2,?_⟩
  dsimp only;omega
theorem QnQ {w:World}{B gd gk mb b:Nat}{tu:Int}{R:Int->Option (Int × List Int)}{dc e:Array Value}{T:TypeId}(d:Blk w gd 42 dc)(c:BankIs w B gk mb R tu)(h:Blk w b T e)(h1:T≠42)(h2:T≠125) : ¬DKs gd gk mb b:=by
 rintro(rfl|rfl|rfl)
 ·exact Blk.ne_ h d h1 rfl
 ·exact(Q8 c).2 _ _ h
 ·exact Blk.ne_ h c.blk h2 rfl
theorem Qg2 {w0 w w':World}{B gd gb r gk b4 bo n N:Nat}{E lim tu:Int}{st:BkS}{dc:Array Value}{R:Int->Option (Int × List Int)}{j:Array Value}{vR:Value}{A:Option Addr}{L:List Int}(s:w0.heap.size<=B)(l:ZB w0 w)(c:DeskIs w B gd gb r E lim n st dc)(d:BankIs w B gk st.mb R tu)(k:Blk w b4 29 j)(h:Blk w bo 52 #[.pointer (some ⟨gd,0,none⟩),vR])(p:IntsI w A N L)(f:DFr B (DKs gd gk st.mb) w w') :
  Blk w' b4 29 j/\Blk w' bo 52 #[.pointer (some ⟨gd,0,none⟩),vR]/\IntsI w' A N L/\ZB w0 w':=
 ⟨f.blk k (by decide) (QnQ c.desk d k (by decide) (by decide)), f.blk h (by decide) (QnQ c.desk d h (by decide) (by decide)), p.bk f (fun b _ o q m => QnQ c.desk d m (by decide) (by decide) o), bfr l f (fun i e=>by
  have h1:=c.low
  have h2:=d.low
  rcases e with ⟨e,_⟩|rfl|rfl|rfl<;>omega)⟩
theorem Ql2 {A:List Int}{a b:Nat}(h1:a<b)(h2:b<=A.length):seg (a:Int) (b:Int) A≠[]:=fun e=>by
 have:=QeU (A:=A) (Nat.le_of_lt h1) h2
 rw[e] at this
 simp at this
 omega
theorem QmH {A:List Int}{a b:Nat}(h1:a<=b)(h2:b<=A.length):(seg (a:Int) (b:Int) A).length<=A.length:=by
 rw[QeU h1 h2]
 omega
def DcOk (dc:Array Value)(gk:Nat)(nv x:Int):Prop:=dc.size=10/\dc[1]? = some (.pointer (some ⟨gk,0,none⟩))/\dc[2]? = some (.int .i64 x)/\dc[9]? = some (.int .i64 nv)
theorem DcOk.to {dc:Array Value}{gk:Nat}{nv x:Int}(h:DcOk dc gk nv x)(y:Int):DcOk (dc.setIfInBounds 2 (.int .i64 y)) gk nv y:=by
 obtain⟨h1,h2,d,c⟩:=h
 refine⟨by simp[h1],by simp[Array.getElem?_setIfInBounds,h2],?_,by simp[Array.getElem?_setIfInBounds,c]⟩
 simp[Array.getElem?_setIfInBounds,h1]
def GoneD (B gd gb g gk:Nat)(enc lim kd nv tu:Int)(n:Nat)(st:BkS)(a b:Nat)(R:Int->Option (Int × List Int))(w:World):Prop:=∃c d x,DeskIs w B gd gb g enc lim n c d/\BankIs w B gk c.mb R tu/\c.mb=st.mb/\c.now=none/\(c.undo.length:Int)<=c.depth/\c.last<1000000/\DcOk d gk nv x/\c.ats.map Prod.fst=QbP (st.ats.map Prod.fst) a b/\LandX kd (Qb enc c.ats) a x
theorem GoneD.below {w w':World}{B gd gb g gk n:Nat}{enc lim kd nv tu:Int}{a b:Nat}{st:BkS}{R:Int->Option (Int × List Int)}(h:GoneD B gd gb g gk enc lim kd nv tu n st a b R w)(e:ZB w w'):GoneD B gd gb g gk enc lim kd nv tu n st a b R w':=by
 obtain⟨d,c,x,h1,h2,f⟩:=h
 exact⟨d,c,x,h1.below e,h2.below e,f⟩
section
variable {w:World} {B gd gb g gk n:Nat} {enc lim at_ kd nv tu:Int} {a b:Nat} {st:BkS} {dc:Array Value} {R:Int->Option (Int × List Int)}
theorem BackOk.gone (c:BackOk (Qb enc st.ats) kd nv a b):QkE (Qb enc st.ats) kd a b nv a b (seg (a:Int) (b:Int) (st.ats.map Prod.fst))/\wrF kd (seg (a:Int) (b:Int) (st.ats.map Prod.fst))=seg (a:Int) (b:Int) (st.ats.map Prod.fst):=by
 obtain⟨_,_,h⟩:=c
 rw[Qaq] at h
 rcases h with rfl|⟨rfl,_,_,h1,h2,_⟩
 ·refine⟨.inl ⟨rfl,rfl,rfl,by rw[Qaq]⟩,?_⟩
  unfold wrF
  rw[if_neg (fun h=>absurd h.1 (by decide))]
 ·exact⟨h1,h2⟩
theorem BackOk.kinds {d:List (Int × Int)}(c:BackOk d kd nv a b):kd=0\/kd=1:=by
 obtain⟨_,_,h|h⟩:=c
 ·exact .inl h
 ·exact .inr h.1
theorem Qmc (h:DeskIs w B gd gb g enc lim n st dc)(r:BankIs w B gk st.mb R tu)(h1:dc[1]? = some (.pointer (some ⟨gk,0,none⟩)))(h2:dc[2]? = some (.int .i64 at_))(v:dc[9]? = some (.int .i64 nv))(l:1<=nv/\nv<=3)(d:BackOk (Qb enc st.ats) kd nv a b)(o:a<b) :
  Calls Tryz.prog 7 #[.pointer (some ⟨gd,0,none⟩),.int .i64 97,.agg #[.int .i64 (a:Int),.int .i64 (b:Int),.int .i64 kd]] w fun e w'=>e=.returned (.int .i64 0)/\∃y,DeskIs w' B gd gb g enc lim n st (dc.setIfInBounds 2 (.int .i64 y))/\BankIs w' B gk st.mb (Qc7 R (ykF 97) kd (seg (a:Int) (b:Int) (st.ats.map Prod.fst))) (ykF 97)/\DFr B (DKs gd gk st.mb) w w':=by
 have q:=d.2.1
 rw[Qr] at q
 have k:b<=(st.ats.map Prod.fst).length:=by rw[List.length_map];exact q
 obtain⟨u,t⟩:=d.gone
 rcases d.kinds with rfl|rfl
 ·refine(QiW B gd gb g gk n enc lim a b 97 97 tu at_ st dc R w h r h1 h2 (by omega) rfl (by decide)).mono ?_
  rintro e w' ⟨rfl,j,_,_,i,f,m⟩
  exact⟨rfl,_,i,f,DFr.of_x m⟩
 ·rcases u with ⟨s,_⟩|⟨_,_,_,p⟩
  ·cases s
  ·refine(Qjp B gd gb g gk n enc lim a b 97 97 tu at_ nv st dc R w h r h1 h2 v l (by omega) rfl (by decide) (by rw[<-p];exact Ql2 o k)).mono ?_
   rintro e w' ⟨rfl,c,i,f,m⟩
   rw[<-p,t] at f
   exact⟨rfl,_,i,f,DFr.of_x m⟩
theorem Qps (h:DeskIs w B gd gb g enc lim n st dc)(hn:st.now=none)(o:dc.size=10)(r:BankIs w B gk st.mb R tu)(h1:dc[1]? = some (.pointer (some ⟨gk,0,none⟩)))(h2:dc[2]? = some (.int .i64 at_))(u:dc[9]? = some (.int .i64 nv))(k:1<=nv/\nv<=3)(i:szS (Qb enc st.ats)<=lim)(p:n+131072<=1073741824)(f:(st.undo.length:Int)<=st.depth)(l:st.last<1073741824)(d:BackOk (Qb enc st.ats) kd nv a b)(m:a<b) :
  Calls Tryz.prog 20 #[.pointer (some ⟨gd,0,none⟩),.int .i64 0,.agg #[.int .i64 (a:Int),.int .i64 (b:Int),.int .i64 kd]] w fun e w'=>e=.returned (.int .i64 0)/\∃c,Qgy B gd gb g gk enc lim n st dc (Qea R 34 kd (seg (a:Int) (b:Int) (st.ats.map Prod.fst))).1 (Qea R 34 kd (seg (a:Int) (b:Int) (st.ats.map Prod.fst))).2 kd a b c w w':=by
 have q:=d.2.1
 rw[Qr] at q
 have j:b<=(st.ats.map Prod.fst).length:=by rw[List.length_map];exact q
 obtain⟨t,s⟩:=d.gone
 have:=Qju B gd gb g gk n enc lim at_ a b kd 0 34 tu nv a b _ st dc R w h hn o r h1 h2 u k d.kinds (by omega) t (by omega) (Ql2 m j) rfl (by decide) i p f l
 rw[s] at this
 exact this
theorem Qo7 {ats0:List (Int × Int)}(h:DeskIs w B gd gb g enc lim n st dc)(hn:st.now=none)(G:dc.size=10)(hk:BankIs w B gk st.mb R tu)(h1:dc[1]? = some (.pointer (some ⟨gk,0,none⟩)))(h2:dc[2]? = some (.int .i64 at_))(H:n+131072<=1073741824)(l:(st.undo.length:Int)<=st.depth)(a1:st.last<1000000)
  (D:PosD (Qb enc ats0)) (N:szS (Qb enc ats0)<=lim) (a0:ats0.length<=65536) (J:st.ats.map Prod.fst=QbP (ats0.map Prod.fst) a b) (u:BackOk (Qb enc ats0) kd nv a b) (m:a<b) (U:kd=0->at_=(a:Int)) (Y:LandX kd (Qb enc st.ats) a at_) (S:R (gkF 34 tu)=some (kd,seg (a:Int) (b:Int) (ats0.map Prod.fst))) :
  Calls Tryz.prog 8 #[.pointer (some ⟨gd,0,none⟩),.int .i64 0,.bool true,.int .i64 1] w fun e w'=>e=.returned (.int .i64 0)/\∃n' C E,DeskIs w' B gd gb g enc lim n' C E/\C.ats.map Prod.fst=ats0.map Prod.fst/\E[1]? = some (.pointer (some ⟨gk,0,none⟩))/\BankIs w' B gk st.mb R tu/\DFr B (· = gd) w w':=by
 have M:=u.2.1
 rw[Qr] at M
 have t:b<=(ats0.map Prod.fst).length:=by rw[List.length_map];exact M
 have F:=h.pos
 have y:=QmH (A:=ats0.map Prod.fst) (Nat.le_of_lt m) t
 rw[List.length_map] at y
 have i:=QoE D F J (Nat.le_of_lt m) M N
 have f:=QpS (a:=(a:Int)) (b:=(b:Int)) D
 have X:(st.ats.map Prod.fst).length=(ats0.map Prod.fst).length-(b-a):=by rw[J];exact QeO (Nat.le_of_lt m) t
 rw[List.length_map,List.length_map] at X
 obtain⟨P,Z⟩:=ZN (seg (a:Int) (b:Int) (ats0.map Prod.fst))
 have o : ∀v:Value,(dc.setIfInBounds 2 v)[1]? = some (.pointer (some ⟨gk,0,none⟩)):=fun v=>by rw[Array.getElem?_setIfInBounds_ne (by decide)];exact h1
 have p:=fun(Ad:Option Addr) (k:Nat)=>Qrx (ats:=st.ats) (Ad:=Ad) (k:=k) J Z.symm (Nat.le_of_lt m) t
 rw[Z] at S y i f
 rcases u.kinds with rfl|rfl
 ·refine(Qjr B gd gb g gk n 1 enc lim at_ 0 34 tu 1 false true st dc R P w h hk hn G h1 h2 rfl (by omega) (by decide) (by decide) H l (by omega) S).mono ?_
  rintro e w' ⟨r,j,rfl,K,z,d,q⟩
  have ea:=U rfl
  subst ea
  have L:QY (Qb enc st.ats) (a:Int) j=(a:Int):=by
   rcases Y with ⟨_,j0,W,_,e0⟩|⟨h0,_⟩
   ·rw[K.uniq W];exact e0.symm
   ·cases h0
  have O:QkC (Qb enc st.ats) true (a:Int)=(a:Int):=by unfold QkC;rw[if_neg (fun h=>absurd h.1 (by decide))]
  rw[L,O,show QP P 1=P from rfl] at d
  rcases d with ⟨rfl,A,k,j',T,_,_,_,_,s,Q⟩|⟨x,c,_⟩
  ·exact⟨rfl,_,_,_,s,by rw[(Qej l).1];exact p A k,o _,q,Q⟩
  ·exfalso
   rcases c with c|⟨A,k,c⟩
   ·exact x (c.trans f)
   ·exact x (c.trans (i A k))
 ·refine(QjK B gd gb g gk n 1 enc lim at_ 0 34 tu 1 false st dc R P w h hk hn G h1 h2 rfl (by omega) (by decide) (by decide) H l (by omega) S).mono ?_
  rintro e w' ⟨r,j,rfl,K,z,d,q⟩
  obtain⟨_,_,I|⟨_,_,V,_,_,I⟩⟩:=u
  ·cases I
  ·rw[Qr] at V
   rw[Qaq] at I
   have L:=QnC F (a:=(a:Int)) (by rw[Qr];omega) (by rw[Qaq,J];exact I) Y K z
   rw[L,show QP P 1=P from rfl] at d
   rcases d with ⟨rfl,A,k,T,_,_,_,s,Q⟩|⟨x,c,_⟩
   ·exact⟨rfl,_,_,_,s,by rw[(Qej l).1];exact p A k,o _,q,Q⟩
   ·exfalso
    rcases c with c|⟨A,k,c⟩
    ·exact x (c.trans f)
    ·exact x (c.trans (i A k))
theorem QnP (h:DeskIs w B gd gb g enc lim n st dc)(hn:st.now=none)(d:DcOk dc gk nv at_)(s:BankIs w B gk st.mb R tu)(j:1<=nv/\nv<=3)(i:szS (Qb enc st.ats)<=lim)(m:n+131072<=1073741824)(f:(st.undo.length:Int)<=st.depth)(u:st.last=0)(l:BackOk (Qb enc st.ats) kd nv a b)(k:a<b) :
  Calls Tryz.prog 20 #[.pointer (some ⟨gd,0,none⟩),.int .i64 0,.agg #[.int .i64 (a:Int),.int .i64 (b:Int),.int .i64 kd]] w fun e w'=>e=.returned (.int .i64 0)/\GoneD B gd gb g gk enc lim kd nv (Qea R 34 kd (seg (a:Int) (b:Int) (st.ats.map Prod.fst))).2 (n+131072) st a b (Qea R 34 kd (seg (a:Int) (b:Int) (st.ats.map Prod.fst))).1 w'/\DFr B (DKs gd gk st.mb) w w':=by
 refine(Qps h hn d.1 s d.2.1 d.2.2.1 d.2.2.2 j i m f (by omega) l k).mono ?_
 rintro e w' ⟨rfl,c,es,x,h1,h2,_,y,q,r⟩
 obtain⟨p,v,o,t,z⟩:=Qej (es:=es) (c:=c) (x:=x) f
 exact⟨rfl,⟨_,_,x,y,by rw[o];exact q,o,v,t,by omega,d.to x,by rw[p];exact Qqq h1,by rw[p];exact h2⟩,r⟩
end
end Go.Proofs.YtgiihhikdoikgaaGreat
