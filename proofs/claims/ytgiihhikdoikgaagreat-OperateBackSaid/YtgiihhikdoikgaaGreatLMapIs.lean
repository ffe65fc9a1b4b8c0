/-
  Maps keyed by integers, as they lie in memory: look-up, store, delete.
-/
import Derived.Test.YtgiihhikdoikgaaGreatLRf2
import Derived.Deep.AppendSrc
import Derived.Test.YtgiihhikdoikgaaGreatLOfLaw
import Derived.Test.YtgiihhikdoikgaaGreatLSame
import Derived.MapKept
set_option linter.unusedSimpArgs false
set_option linter.unusedVariables false
set_option maxRecDepth 100000
set_option maxHeartbeats 32000000
namespace Go.Proofs.YtgiihhikdoikgaaGreat
open Go.RowKit
section
variable {P:Program} (w:World)
theorem Qfk (base:Nat)(t ty e:TypeId)(i:TypeInfo)(d:P.underlying t=some (.slice e))(k:P.info? e=some i)(v:Value)(n:Nat)(xs:List Value)(a:w.ownsRow base e i.size v n xs)(c:Nat) :
  (Builtin.append_ #[t,t] ty #[v,.slice none 0 c]).run P w=.ok v w:=by
 rcases a.2 with ⟨rfl,rfl⟩|⟨g,cap,cur,rfl,m,q,l,o,p,f⟩
 ·simp[Builtin.append_,run_underlying d,sizeOf,typeInfo,k,Builtin.lenOf,Builtin.firstCells,loadCells,loadCellsFrom]
 ·have h:=run_append_room_src (P:=P) w t t ty e i d k g 0 n cap (.slice none 0 c) 0 [] (Src.ofNil w d c) (by omega) (fun j b=>by simp at b) (fun j b=>by simp at b)
  rw[h]
  rfl
theorem Qf4 (base:Nat)(t ty e:TypeId)(i:TypeInfo)(z:Value)(size bytes:Nat)(x:P.underlying t=some (.slice e))(r:P.info? e=some i)(E:i.zero=some z)
  (d:i.size=size) (l:i.bytes=bytes) (p:z.cells.size=size) (k:0<size)
  (v:Value) (n:Nat) (xs:List Value) (a:w.ownsRow base e size v n xs)
  (D:Nat->Prop) (A:Option Addr) (m c:Nat) (news:List Value) (s:Reads w D size A m news) (h1 : ∀u ∈ news,u.oneCell'=true)
  (h:n+m<=maxLen) (f:(n+m)*bytes<=140737488355328) (g:base<=w.heap.size) :
  ∃v' w',(Builtin.append_ #[t,t] ty #[v,.slice A m c]).run P w=.ok v' w'/\w'.ownsRow base e size v' (n+m) (xs++news)/\w.grownBy w' v.ownBlock /\
   (v'.ownBlock=v.ownBlock\/v'.ownBlock=some w.heap.size)/\(∀b o,v.ownBlock=some b->o<n*size->w'.cell? ⟨b,o,none⟩=w.cell? ⟨b,o,none⟩)/\(∀b,v.ownBlock=some b->∃J,Blk w' b e J):=by
 by_cases hm:0<m
 ·obtain⟨B,rfl,_,F⟩:=s.2 hm
  exact QbK (P:=P) w base t ty e i z size bytes x r E d l p k v n xs a B m c news s.1 F h1 h f g
 ·have y:m=0:=by omega
  subst y
  have hn:news=[]:=List.eq_nil_of_length_eq_zero (by have:=s.1;omega)
  subst hn
  cases A with
  |some B=>exact QbK (P:=P) w base t ty e i z size bytes x r E d l p k v n xs a B 0 c [] (by simp) (fun j u G=>by simp at G) h1 h f g
  |none=>
   have I:i.size=size:=d
   subst I
   refine⟨v,w,Qfk w base t ty e i x r v n xs a c,by rw[List.append_nil,Nat.add_zero];exact a,⟨rfl,rfl,rfl,Nat.le_refl _,fun _ _ _=>rfl⟩,.inl rfl,fun _ _ _ _=>rfl,fun b C=>?_⟩
   rcases a.2 with ⟨rfl,_⟩|⟨q,cq,cur,rfl,_,H,_⟩
   ·cases C
   ·have:q=b:=by simpa[Value.ownBlock] using C
    subst this
    exact⟨cur,H⟩
theorem Qbg {ops:Array Oper}{rest:List Oper}{o:Oper}{a:Act}{Q:Exit->Act->World->Prop}(p:o.guard=none)(s x:Operand)(t:TypeId)
  (G:o.op=.call { callee:=.builtin .append,args := #[s,x],argTypes := #[t,t] })
  (base:Nat) (e:TypeId) (i:TypeInfo) (z:Value) (size bytes:Nat) (F:P.underlying t=some (.slice e)) (y:P.info? e=some i) (H:i.zero=some z)
  (f:i.size=size) (l:i.bytes=bytes) (q:z.cells.size=size) (k:0<size)
  (v:Value) (n:Nat) (xs:List Value) (L:a.eval s=v) (g:w.ownsRow base e size v n xs)
  (D:Nat->Prop) (A:Option Addr) (m c:Nat) (news:List Value) (C:a.eval x=.slice A m c) (E:Reads w D size A m news) (h1 : ∀u ∈ news,u.oneCell'=true)
  (j:n+m<=maxLen) (b:(n+m)*bytes<=140737488355328) (d:base<=w.heap.size)
  (h : ∀v' w',w'.ownsRow base e size v' (n+m) (xs++news)->w.grownBy w' v.ownBlock->(v'.ownBlock=v.ownBlock\/v'.ownBlock=some w.heap.size)->wpList P ops Q rest (a.put o.dst v') w') :
  wpList P ops Q (o::rest) a w:=by
 refine wpList_plain p fun K B=>?_
 obtain⟨v',w',r,h2,J,I,M,N⟩:=Qf4 (P:=P) w base t o.type e i z size bytes F y H f l q k v n xs g D A m c news E h1 j b d
 unfold Oper.wp execOp
 simp only[G,resolve,invoke,builtin,Sem.run_bind,Sem.run_pure,Result.andThen_ok,List.map_toArray,List.map_cons,List.map_nil,L,C,r]
 exact B _ _ (h v' w' h2 J I)
end
theorem QnU (enc:Int)(ps:List Pc)(a b:Nat)(h:a<=b):(QC enc (ps.take a)).length<=(QC enc (ps.take b)).length:=by
 have:ps.take b=ps.take a++(ps.take b).drop a:=by
  conv=>lhs;rw[<-List.take_append_drop a (ps.take b),List.take_take,Nat.min_eq_left h]
 rw[this,Qax,List.length_append]
 omega
theorem QpK {enc:Int}{ps:List Pc}{f t:Int}{i n j m:Nat}(b : ∀p ∈ ps,PcOk enc p)(h1:Qgx enc ps f i n)(h2:Qgx enc ps t j m)(o:0<=f)(d:f<=t):i<=j:=by
 obtain⟨q,k,e⟩:=h1
 obtain⟨r,u,h⟩:=h2
 by_cases hz:0<f
 ·obtain⟨c1,c2,s⟩:=e hz
  obtain⟨l,v,w⟩:=h (by omega)
  rcases Nat.lt_or_ge j i with c|a
  ·have:=QnU enc ps (j+1) i c
   omega
  ·exact a
 ·have g:=QgT (enc:=enc) (ps:=ps.take i) (fun p hp=>b p (List.mem_of_mem_take hp))
  rw[List.length_take] at g
  omega
theorem Qd2 {enc:Int} : ∀{ps:List Pc},(∀p ∈ ps,PcOk enc p)->Qbl ps=((QC enc ps).map Prod.snd).sum:=by
 intro ps
 induction ps with
 |nil=>intro _;rfl
 |cons p ps ih=>
  intro h
  have hp:=h p List.mem_cons_self
  rw[QaI,ih (fun q a=>h q (List.mem_cons_of_mem _ a)),QS,List.map_append,List.sum_append,hp.sum,(Qm (Qbu enc _)).2.2]
def QkR (enc:Int)(ps:List Pc)(i n j m:Nat)(fr:List Pc):List Pc:=ps.take i++(Qbq enc ps i n++fr++Qcx enc ps j m)++ps.drop (min (j+1) ps.length)
theorem Qrw {enc:Int}{ps fr:List Pc}{f t:Int}{i n j m:Nat}(h1:Qgx enc ps f i n)(h2:Qgx enc ps t j m)(d:0<=f)(c:f<=t) :
  QC enc (QkR enc ps i n j m fr)=(QC enc ps).take f.toNat++QC enc fr++(QC enc ps).drop t.toNat/\QaM enc (QkR enc ps i n j m fr)=(QaM enc ps).take f.toNat++QaM enc fr++(QaM enc ps).drop t.toNat:=by
 have e:QkR enc ps i n j m fr=(ps.take i++Qbq enc ps i n)++fr++(Qcx enc ps j m++ps.drop (min (j+1) ps.length)):=by
  unfold QkR
  simp only[List.append_assoc]
 have a:=QoN h1 d
 have b:=Qoj h2 (Int.le_trans d c)
 rw[e,Qax,Qax,a.1,b.1,Qa7,Qa7,a.2,b.2]
 exact⟨rfl,rfl⟩
theorem QqC {enc:Int}{ps fr:List Pc}{i n j m k:Nat}{w:World}{add:Value}(h:PsIn w add k enc ps)(f:PsIn w add k enc fr):PsIn w add k enc (QkR enc ps i n j m fr):=by
 have g:PsIn w add k enc (Qbq enc ps i n):=by
  refine⟨fun q a=>?_,fun q a=>?_,fun q a=>?_,fun q a=>?_,fun q a=>?_⟩
  all_goals
   obtain⟨p,hp,b,rfl⟩:=QpD a
   have hm:=List.mem_of_getElem? hp
  ·exact Qqu (h.ok p hm) b
  ·exact QpU (h.bts p hm) (h.ok p hm)
  ·exact QoC (h.low p hm) (h.ok p hm)
  ·have h1:=Qbo enc n p.bytes
   have h2:=(h.ok p hm).len
   have l:=h.tgs p hm
   simp only[QgK]
   omega
  ·intro c e
   exact h.u8 p hm c e
 have d:PsIn w add k enc (Qcx enc ps j m):=by
  refine⟨fun q a=>?_,fun q a=>?_,fun q a=>?_,fun q a=>?_,fun q a=>?_⟩
  all_goals
   obtain⟨p,hp,b,rfl⟩:=Qpx a
   have hm:=List.mem_of_getElem? hp
  ·exact QqQ (h.ok p hm) b (h.tgs p hm)
  ·exact QpH (h.bts p hm) (h.ok p hm)
  ·exact QoP (h.low p hm) (h.ok p hm)
  ·have h1:=Qbo enc m p.bytes
   have h2:=(h.ok p hm).len
   have l:=h.tgs p hm
   have o:=(h.ok p hm).nle
   simp only[QeV]
   split<;>omega
  ·intro c e
   simp only[QeV] at e
   split at e
   ·exact h.u8 p hm c e
   ·cases hA:p.A with
    |none=>rw[hA] at e;cases e
    |some ad0=>
     rw[hA] at e
     injection e with e
     rw[<-e,Q4]
     exact h.u8 p hm ad0 hA
 unfold QkR
 exact((h.sub (fun q a=>List.mem_of_mem_take a)).app ((g.app f).app d)).app (h.sub (fun q a=>List.mem_of_mem_drop a))
theorem QfL (enc:Int)(ps:List Pc)(i n:Nat):(Qbq enc ps i n).length<=1:=by
 unfold Qbq
 split
 ·split<;>simp
 ·simp
theorem Qoa (enc:Int)(ps:List Pc)(i n:Nat):(Qcx enc ps i n).length<=1:=by
 unfold Qcx
 split
 ·split<;>simp
 ·simp
theorem Qpd (a b:List Pc):(a++b).flatMap (fun p=>p.cells.toList)=a.flatMap (fun p=>p.cells.toList)++b.flatMap (fun p=>p.cells.toList):=List.flatMap_append
theorem Qpo (ps:List Pc) : ∀u ∈ ps.flatMap (fun p=>p.cells.toList),u.oneCell'=true:=by
 intro u a
 obtain⟨p,_,a⟩:=List.mem_flatMap.1 a
 exact QdK _ _ _ _ _ _ _ _ _ u a
def QrW (w:World)(B:Nat)(ps:List Pc)(v:Value)(wx:World):Prop:=wx.ownsRow B 107 7 v ps.length (ps.flatMap fun p=>p.cells.toList)
def ReplR (g:Nat)(add a:Value)(n e B:Nat)(xs c:List Value)(enc lim:Int)(f ats:List (Int × Int))(w w':World):Prop:=
 ∃d h,TextM w' B g enc lim e a d h c/\TStep g add a n e w w'/\QC enc d.list=f/\QaM enc d.list=ats
theorem Qgd (op:Option Pc):∃(x:Pc) (b:Bool),QfD op=.tuple #[.agg #[.slice x.A x.n x.c,.int .i64 x.tag,.int .i64 x.sum.atoms,.int .i64 x.sum.bytes,.int .i64 x.sum.breaks,.bool x.sum.lf,.bool x.sum.cr],.bool b]/\(b=true->op=some x)/\(b=false->op=none):=by
 cases op with
 |none=>exact⟨⟨none,0,0,0,Qq,[]⟩,false,rfl,fun h=>(by cases h),fun _=>rfl⟩
 |some x=>exact⟨x,true,rfl,fun _=>rfl,fun h=>(by cases h)⟩
structure ReplM (w:World) (B g:Nat) (enc lim:Int) (n n':Nat) (add add':Value) (a:Option Addr) (xs':List Value) (its fr:List Pc) (v:Value) (wx:World):Prop where
 blk:Blk wx g 104 #[.int .i64 enc,.int .i64 lim,.pointer a,add']
 row:wx.ownsRow B 5 1 add' n' xs'
 st:TStep g add add' n n' w wx
 its:wx.ownsRow w.heap.size 107 7 v its.length (its.flatMap fun p=>p.cells.toList)
 pcs:PsIn wx add' n' enc fr
theorem ReplM.below {w wx wy:World}{B g:Nat}{enc lim:Int}{n i:Nat}{add c v:Value}{a:Option Addr}{xs e:List Value}{its fr:List Pc}(h:ReplM w B g enc lim n i add c a e its fr v wx)(j:w.ownsRow B 5 1 add n xs)(d:ZB wx wy):ReplM w B g enc lim n i add c a e its fr v wy:=
 ⟨h.blk.below d,QN h.row d,h.st.loc (S:=No) (Fr.of_below d) (fun _ f=>f.elim) j,QN h.its d,h.pcs.far (S:=No) (Fr.of_below d) (fun _ _ f=>f.elim)⟩
theorem ReplM.more {w wx wy:World}{B g:Nat}{enc lim:Int}{n j m:Nat}{add c v v':Value}{a:Option Addr}{xs d zs:List Value}{its its' fr:List Pc}(h:ReplM w B g enc lim n j add c a d its fr v wx)(o:w.ownsRow B 5 1 add n xs)
  (l:wx.grownBy wy v.ownBlock) (e:wy.ownsRow w.heap.size 107 7 v' m zs) (hm:m=its'.length) (q:zs=its'.flatMap fun p=>p.cells.toList):ReplM w B g enc lim n j add c a d its' fr v' wy:=by
 have F:Fr (OwnB v) wx wy:=(Fr.refl _ _).grown l (fun k i _=>i)
 subst hm
 subst q
 exact⟨h.blk.fr F (Qk h.its h.blk (by decide)),QeE h.row F (fun b f=>Qeh h.row h.its (by decide) b f),h.st.loc F (fun b f=>(h.its.lt b f).1) o,e,h.pcs.far F (fun k _ i=>Far.own h.its i (by decide))⟩
theorem Qp3 {w w1:World}(a:Below (w.alloc (.cells #[.slice none 0 0,.int .i64 0,.int .i64 0,.int .i64 0,.int .i64 0,.bool false,.bool false] 107)).drew.heap.size (w.alloc (.cells #[.slice none 0 0,.int .i64 0,.int .i64 0,.int .i64 0,.int .i64 0,.bool false,.bool false] 107)).drew w1):Blk w1 w.heap.size 107 (Qx none 0 0 0 Qq):=(Blk.new w _ _).drew.below a
theorem Qqn {w w1:World}(a:Below ((w.alloc (.cells #[.slice none 0 0,.int .i64 0,.int .i64 0,.int .i64 0,.int .i64 0,.bool false,.bool false] 107)).alloc (.cells #[.slice none 0 0,.int .i64 0,.int .i64 0,.int .i64 0,.int .i64 0,.bool false,.bool false] 107)).drew.heap.size ((w.alloc (.cells #[.slice none 0 0,.int .i64 0,.int .i64 0,.int .i64 0,.int .i64 0,.bool false,.bool false] 107)).alloc (.cells #[.slice none 0 0,.int .i64 0,.int .i64 0,.int .i64 0,.int .i64 0,.bool false,.bool false] 107)).drew w1):Blk w1 w.heap.size 107 (Qx none 0 0 0 Qq)/\Blk w1 (w.heap.size+1) 107 (Qx none 0 0 0 Qq):=
 ⟨((Blk.new w _ _).alloc _).drew.below a,(Blk.newAt (by simp)).drew.below a⟩
def Qqb (w:World)(cl cr:Pc)(c a:Value)(wx:World):Prop:=∃e d,c=.pointer (some ⟨e,0,none⟩)/\a=.pointer (some ⟨d,0,none⟩)/\Blk wx e 107 cl.cells/\Blk wx d 107 cr.cells/\ZB w wx
section
variable {w w5:World} {cl cr:Pc} {b:Nat}
theorem QsM (a:ZB w w5):Qqb w cl cr (.pointer (some ⟨w5.heap.size,0,none⟩)) (.pointer (some ⟨w5.heap.size+1,0,none⟩)) ((w5.alloc (.cells cl.cells 107)).alloc (.cells cr.cells 107)):=
 ⟨_,_,rfl,rfl,(Blk.new w5 _ _).alloc _,Blk.newAt (by simp),Qa (Qa a)⟩
theorem QsR (a:ZB w w5):Qqb w cl cr (.pointer (some ⟨w5.heap.size+1,0,none⟩)) (.pointer (some ⟨w5.heap.size,0,none⟩)) ((w5.alloc (.cells cr.cells 107)).alloc (.cells cl.cells 107)):=
 ⟨_,_,rfl,rfl,Blk.newAt (by simp),(Blk.new w5 _ _).alloc _,Qa (Qa a)⟩
theorem Qh8 (A:Option Addr)(n c:Nat)(tag:Int)(s:Sums):(Qf2 w5 b A n c tag s).heap.size=w5.heap.size:=by simp[Qf2]
theorem QsL (d:ZB w w5)(e:Blk w5 b 107 (Qx none 0 0 0 Qq))(a:w.heap.size<=b):Qqb w cl cr (.pointer (some ⟨b,0,none⟩)) (.pointer (some ⟨w5.heap.size,0,none⟩)) ((Qf2 w5 b cl.A cl.n cl.c cl.tag cl.sum).alloc (.cells cr.cells 107)):=
 ⟨_,_,rfl,rfl,(QaX e).alloc _,Blk.newAt (Qh8 _ _ _ _ _),Qa (Qad d a)⟩
theorem QsQ (d:ZB w w5)(e:Blk w5 b 107 (Qx none 0 0 0 Qq))(a:w.heap.size<=b):Qqb w cl cr (.pointer (some ⟨w5.heap.size,0,none⟩)) (.pointer (some ⟨b,0,none⟩)) ((Qf2 w5 b cr.A cr.n cr.c cr.tag cr.sum).alloc (.cells cl.cells 107)):=
 ⟨_,_,rfl,rfl,Blk.newAt (Qh8 _ _ _ _ _),(QaX e).alloc _,Qa (Qad d a)⟩
theorem QsO (e:ZB w w5)(d:Blk w5 b 107 (Qx none 0 0 0 Qq)/\Blk w5 (b+1) 107 (Qx none 0 0 0 Qq))(a:w.heap.size<=b):Qqb w cl cr (.pointer (some ⟨b,0,none⟩)) (.pointer (some ⟨b+1,0,none⟩)) (Qf2 (Qf2 w5 b cl.A cl.n cl.c cl.tag cl.sum) (b+1) cr.A cr.n cr.c cr.tag cr.sum):=
 ⟨_,_,rfl,rfl,Qbw (QaX d.1) (by omega),QaX (Qbw d.2 (by omega)),Qad (Qad e a) (by omega)⟩
theorem QsP (e:ZB w w5)(d:Blk w5 b 107 (Qx none 0 0 0 Qq)/\Blk w5 (b+1) 107 (Qx none 0 0 0 Qq))(a:w.heap.size<=b):Qqb w cl cr (.pointer (some ⟨b+1,0,none⟩)) (.pointer (some ⟨b,0,none⟩)) (Qf2 (Qf2 w5 (b+1) cl.A cl.n cl.c cl.tag cl.sum) b cr.A cr.n cr.c cr.tag cr.sum):=
 ⟨_,_,rfl,rfl,Qbw (QaX d.2) (by omega),QaX (Qbw d.1 (by omega)),Qad (Qad e (by omega)) a⟩
end
theorem QoL (B g:Nat)(enc lim:Int)(n:Nat)(add:Value)(t:Tr)(a:Option Addr)(xs:List Value)(f tt:Int)(put:List Int)(D:Nat->Prop)(A:Option Addr)(k c:Nat)(w:World)
    (h:TextM w B g enc lim n add t a xs) (f0:0<=f) (ft:f<=tt) (t1:tt<=((QC enc t.list).length:Int)) (hl:Ints w D A k put) (hD : ∀b,D b->b≠g/\add.ownBlock≠some b) (hf:Fit enc put)
    (hk:k<=1048576) (hN:n+(QF enc put).length<=1073741824) (hT:Qbl t.list+(QF enc put).length<=16777216) :
    Calls Tryz.prog 156 #[.pointer (some ⟨g,0,none⟩),.int .i64 f,.int .i64 tt,.slice A k c] w fun e w'=>e=.returned (.tuple #[]) /\
      ∃f6,ReplR g add f6 n (n+(QF enc put).length) B xs (xs++(QF enc put).map (Value.int .u8)) enc lim ((QC enc t.list).take f.toNat++Qat enc put++(QC enc t.list).drop tt.toNat) ((QaM enc t.list).take f.toNat++put.map (fun x=>(x,-1))++(QaM enc t.list).drop tt.toNat) w w':=by
  have a5:=h.text
  have p1:=a5.decLen
  have d6:=a5.len
  have o8:=a5.tot
  have e9:=h.tree.pcs.ok
  have l4:=Qd4 Any g enc lim t a add f w a5 f0 (by omega)
  have m8:=fun(w':World) (L:ZB w w')=>Qd4 Any g enc lim t a add tt w' (a5.below L) (by omega) t1
  have h7:=Zh l4
  have h8:=Zh m8
  have E:=Zh h
  have z:=Zh a5
  have HF:=Zh hf
  have HT:=Zh hT
  clear l4 m8 a5 h hf hT
  go_enter Tryz.func156,Tryz.ntmps156
  go_wp2_with fail
  refine(h7.out).mono ?_
  rintro e w1 ⟨i,nn,rfl,l8,N⟩
  have b0:=Zh l8
  clear l8
  go_wp2_with fail
  refine(h8.out _ N).mono ?_
  rintro e w2 ⟨j,mm,rfl,V,U⟩
  have a3:=Zh V
  have h3:=Qf N U
  have p7:=QpK e9 b0.out V f0 ft
  have p8:=V.1
  have p6:nn<=1073741824:=by have:=b0.out.2.1;omega
  have p3:mm<=1073741824:=by have:=V.2.1;omega
  have k1:=fun(i:Nat) (hi:i<=1073741824) (w':World) (L:ZB w w')=>QgA t a (i:Int) w' (NodeAt.below L t a z.out.node) d6 (by omega)
  have Z : ∀i:Nat,t.get (i:Int)=t.list[i]? := fun i=>by unfold Tr.get;rw[if_neg (by omega),Int.toNat_natCast]
  simp only[Z] at k1
  have g8:=Zh k1
  clear k1 Z V N U
  obtain⟨c0,c2⟩:=(z.out.below h3).cells
  go_wp2_with fail
  refine(g8.out i (by omega) _ h3).mono ?_
  rintro e w3 ⟨rfl,l9⟩
  have k9:=Qf h3 l9
  obtain⟨x,b,d5,N,U⟩:=Qgd (t.list[i]?)
  rw[d5]
  have c5:=Zh N
  have d1:=Zh U
  have q0:w.heap.size<=w3.heap.size:=k9.size
  clear d5 N U
  go_upto_region 4 with fail
  obtain⟨w4,Q⟩:=ZN (w3.alloc (.cells #[.slice x.A x.n x.c,.int .i64 x.tag,.int .i64 x.sum.atoms,.int .i64 x.sum.bytes,.int .i64 x.sum.breaks,.bool x.sum.lf,.bool x.sum.cr] 107))
  have M:ZB w w4:=by rw[<-Q];exact Qa k9
  have y:Blk w4 w3.heap.size 107 x.cells:=by rw[<-Q];exact Blk.new w3 _ _
  rw[Q]
  clear Q l9 c0 c2 h3
  go_cut [46] (fun s wx=>s=.bool (b && decide (0<nn))/\wx=w4)
  case first=>
    cases b
    · go_wp2_with fail
      go_meet
      exact⟨rfl,rfl⟩
    · by_cases h0:0<nn
      · have q1:((0:Int)<(nn:Int))=True:=by simp;omega
        have q2:decide (0<nn)=true:=by simpa using h0
        go_wp2_with fail
        go_meet
        rw[q2]
        exact⟨rfl,rfl⟩
      · have q1:((0:Int)<(nn:Int))=False:=by simp;omega
        have q2:decide (0<nn)=false:=by simpa using h0
        go_wp2_with fail
        go_meet
        rw[q2]
        exact⟨rfl,rfl⟩
  case rest=>
  obtain⟨rfl,rfl⟩:=hcut
  obtain⟨w4,Q⟩:∃x,x=wc:=⟨_,rfl⟩
  subst Q
  obtain⟨q,hq⟩:=ZN ((b && decide (0<nn)))
  rw[hq]
  have HQ:=Zh hq
  clear hq
  go_upto_if 46 with fail
  go_cut [12] (fun s wx=>QrW w w.heap.size (Qbq enc t.list i nn) s wx/\ZB w wx)
  case first=>
    cases q
    · go_wp2_with fail
      go_meet
      have h1:=HQ.out
      have he:Qbq enc t.list i nn=[]:=by
        unfold Qbq
        cases b
        · rw[d1.out rfl]
        · rw[c5.out rfl]
          simp only[Bool.true_and,decide_eq_false_iff_not] at h1
          dsimp only
          rw[if_neg h1]
      rw[he]
      exact⟨World.ownsRow_nil _ _ _ _,M⟩
    · have h1:=HQ.out
      simp only[Bool.and_eq_true,decide_eq_true_eq] at h1
      obtain⟨rfl,n2⟩:=h1
      have b7:=c5.out rfl
      have H:=List.mem_of_getElem? b7
      have e8:=z.out.ok x H
      have d7:=z.out.bts x H
      have he:Qbq enc t.list i nn=[QgK enc x nn]:=by
        unfold Qbq
        rw[b7]
        dsimp only
        rw[if_pos n2]
      have c8:=Zh he
      have hcut:=fun(w':World) (L:ZB w w')=>QiK enc Any x (nn:Int) w' z.out.enc4 e8 (Reads.below d7 L) (by omega) (by omega)
      rw[Qmn] at hcut
      obtain⟨cl,c7⟩:=ZN (QgK enc x nn)
      obtain⟨cr,c3⟩:=ZN (QeV enc x nn)
      rw[c7,c3] at hcut
      rw[c7] at c8
      simp only[Pc.cells,Qx] at hcut
      have G:=Zh hcut
      clear hcut he H e8 d7 b7 c7 c3
      have ct:=(z.out.below M).cells.1
      go_upto_region 5 with fail
      have n4:=(z.out.below M).blk.lt
      have n8:=y.lt
      have s0:(w4.cell? ⟨w3.heap.size,0,none⟩=some (.slice x.A x.n x.c)/\w4.cell? ⟨w3.heap.size,1,none⟩=some (.int .i64 x.tag)/\w4.cell? ⟨w3.heap.size,2,none⟩=some (.int .i64 x.sum.atoms)/\w4.cell? ⟨w3.heap.size,3,none⟩=some (.int .i64 x.sum.bytes)/\w4.cell? ⟨w3.heap.size,4,none⟩=some (.int .i64 x.sum.breaks)/\w4.cell? ⟨w3.heap.size,5,none⟩=some (.bool x.sum.lf)/\w4.cell? ⟨w3.heap.size,6,none⟩=some (.bool x.sum.cr)/\w4.cell? ⟨g,0,none⟩=some (.int .i64 enc)):=⟨(QR y).1,(QR y).2.1,(QR y).2.2.1,(QR y).2.2.2.1,(QR y).2.2.2.2.1,(QR y).2.2.2.2.2.1,(QR y).2.2.2.2.2.2,ct⟩
      have j7:=QaZ s0
      have zz:w4.drew.heap.size=w4.heap.size:=rfl
      have ZZ:=Zh zz
      clear zz ct
      go_cut [15,16] (fun k2 j8 wx=>Qqb w cl cr k2 j8 wx)
      case first=>
        go_region_held3 (fun w'=>(w'.cell? ⟨w3.heap.size,0,none⟩=some (.slice x.A x.n x.c)/\w'.cell? ⟨w3.heap.size,1,none⟩=some (.int .i64 x.tag)/\w'.cell? ⟨w3.heap.size,2,none⟩=some (.int .i64 x.sum.atoms)/\w'.cell? ⟨w3.heap.size,3,none⟩=some (.int .i64 x.sum.bytes)/\w'.cell? ⟨w3.heap.size,4,none⟩=some (.int .i64 x.sum.breaks)/\w'.cell? ⟨w3.heap.size,5,none⟩=some (.bool x.sum.lf)/\w'.cell? ⟨w3.heap.size,6,none⟩=some (.bool x.sum.cr)/\w'.cell? ⟨g,0,none⟩=some (.int .i64 enc))) (first|(with_reducible assumption)|((repeat (first|(with_reducible refine Qhe (by dsimp only;omega) (by dsimp only;omega) ?_)|(with_reducible refine Qbt ?_)|(with_reducible refine QaZ ?_)));with_reducible assumption)) (first|(go_at_call 141;(with_reducible refine(G.out w4.drew M.drew).mono ?_);rintro e w5 ⟨rfl,r⟩;have s1:=QfZ r (QaZ s0);have d2:=QiP r;have b1:=Qf (Below.refl _ w4).drew r)|(go_at_call 141;(with_reducible refine(G.out (w4.alloc (.cells #[.slice none 0 0,.int .i64 0,.int .i64 0,.int .i64 0,.int .i64 0,.bool false,.bool false] 107)).drew (Qa M).drew).mono ?_);rintro e w5 ⟨rfl,r⟩;have s1:=QfZ r (QaZ (Qbt s0));have d2:=Qi9 r;have I:=Qp3 r;obtain⟨⟨g0,g1,g2,g3,g4,g5,g6⟩,v0,v1,v2,v3,v4,v5,v6⟩:=QjD r;have b1:=Qf (Qa (Below.refl _ w4)).drew r)|(go_at_call 141;(with_reducible refine(G.out ((w4.alloc (.cells #[.slice none 0 0,.int .i64 0,.int .i64 0,.int .i64 0,.int .i64 0,.bool false,.bool false] 107)).alloc (.cells #[.slice none 0 0,.int .i64 0,.int .i64 0,.int .i64 0,.int .i64 0,.bool false,.bool false] 107)).drew (Qa (Qa M)).drew).mono ?_);rintro e w5 ⟨rfl,r⟩;have s1:=QfZ r (QaZ (Qbt (Qbt s0)));have d2:=QjA r;have I:=Qqn r;obtain⟨⟨⟨g0,g1,g2,g3,g4,g5,g6⟩,v0,v1,v2,v3,v4,v5,v6⟩,⟨j0,j1,j2,j3,j4,j5,j6⟩,u0,u1,u2,u3,u4,u5,u6⟩:=Qjb r;have b1:=Qf (Qa (Qa (Below.refl _ w4))).drew r))
        all_goals
          have F:=Qf M b1
          have C:=M.size
          clear s0 j7 s1 g8 h7 h8 e9 hD hl E z HT HF b0 a3
          go_wp2_with fail
          go_meet
          skip
        · exact QsM F
        · exact QsR F
        · exact QsL (b:=w4.heap.size) F I C
        · exact QsO (b:=w4.heap.size) F I C
        · exact QsQ (b:=w4.heap.size) F I C
        · exact QsP (b:=w4.heap.size) F I C
      case rest=>
        obtain⟨e1,e2,rfl,rfl,f8,g7,K⟩:=hcut
        obtain⟨⟨z0,z1,z2,z3,z4,z5,z6⟩,-⟩:=QG f8
        obtain⟨ip,zp,a1,a4,R,a0,W⟩:=QdR
        have h1:=K.size
        clear g8 h7 h8 e9 hD hl E z HT HF b0 a3 f8 g7
        go_wp2_with (at_builtin;refine wpList_append_own_at _ rfl (.tmp 57) (.tmp 59) 232 rfl w.heap.size 107 ip zp 7 64 Tryz.underlying232 a1 a4 R a0 W (by decide) (.slice none 0 0) 0 [] rfl (World.ownsRow_nil _ _ _ _) ⟨wc.heap.size,0,none⟩ 1 1 [.slice cl.A cl.n cl.c,.int .i64 cl.tag,.int .i64 cl.sum.atoms,.int .i64 cl.sum.bytes,.int .i64 cl.sum.breaks,.bool cl.sum.lf,.bool cl.sum.cr] rfl rfl (QaU _ _ _) (QdK _ _ _ _ _ _ _ _ _) (by decide) (by decide) (by simp;omega) ?_)
        intro v6 w6 d0 i6 _ l3
        have n5:ZB w w6:=Qy (Qa K) i6 (fun k hk=>by cases hk) (by simp)
        have n9:=Zh d0
        clear d0 i6 l3 a1 a4 R a0 W z0 z1 z2 z3 z4 z5 z6
        go_wp2_with fail
        go_meet
        rw[c8.out]
        refine⟨?_,n5⟩
        unfold QrW
        simpa[Pc.cells,Qx] using n9.out
  case rest=>
    obtain⟨hI,K⟩:=hcut
    obtain⟨w5,o3⟩:∃x,x=wc:=⟨_,rfl⟩
    subst o3
    have O:=E.out.below K
    have l0:=Reads.below hl K
    have m6:=Qnj B g enc lim n add a xs put D A k c w5 O.enc4 O.blk O.row l0 hD HF.out (by omega) hN O.base
    have n0:=Zh m6
    have HI:=Zh hI
    obtain⟨ip,zp,a1,a4,R,a0,W⟩:=QdR
    have p5:=QfL enc t.list i nn
    clear m6 hI l0 O y HQ c5 d1 M
    go_wp2_with fail
    refine(n0.out).mono ?_
    rintro e w6 ⟨fr,v6,T,rfl,hT6,f3,e0,b3,b4,b5,e7⟩
    obtain⟨A6,c6,rfl,p9⟩:=Qj b3
    have O:=E.out.below K
    have j9 : w6.ownsRow w.heap.size 107 7 u12 (Qbq enc t.list i nn).length ((Qbq enc t.list i nn).flatMap fun p => p.cells.toList) := QeE HI.out e0.fr (fun b L=>by
      rintro(h1|h1)
      · exact Qk HI.out O.blk (by decide) (h1▸L)
      · exact Qeh HI.out O.row (by decide) b L h1)
    have b6:=(TStep.below (g:=g) E.out.row K).trans e0 E.out.row E.out.ne
    have m4:ReplM w B g enc lim n (n+(QF enc put).length) add T a (xs++(QF enc put).map (Value.int .u8)) (Qbq enc t.list i nn) fr u12 w6:=⟨hT6,f3,b6,j9,b4⟩
    have m9:=QgT b4.ok
    rw[b5,show (Qat enc put).length=put.length from List.length_map _,hl.len] at m9
    have p0:=b6.fr.size
    have l7:=Zh m4
    have l2:=Zh b3
    have m2:=Zh j9
    have f4:=Zh b5
    have i9:=Zh e7
    clear m4 b3 j9 b5 e7 hT6 f3 e0 b4 b6 O HI n0 h7 h8
    go_wp2_with (at_builtin;refine Qbg _ rfl (.tmp 61) (.tmp 64) 232 rfl w.heap.size 107 ip zp 7 64 Tryz.underlying232 a1 a4 R a0 W (by decide) u12 _ _ rfl m2.out _ A6 fr.length c6 _ rfl (Reads.of_own l2.out) (Qpo _) (by unfold maxLen;omega) (by omega) (by omega) ?_)
    intro v7 w7 d4 i0 a2
    have f1:=l7.out.more E.out.row i0 d4 (its':=Qbq enc t.list i nn++fr) (List.length_append ..).symm (Qpd _ _).symm
    clear l7 l2 m2 d4 i0 a2 a1 a4 R a0 W
    have k6:=Zh f1
    have i4:=E.out.tree.step f1.st E.out.row E.out.blk
    have p4:=f1.st.fr.size
    have c2:=f1.blk.cell 2
    simp at c2
    have a2:=QgA t a (j:Int) w7 i4.node d6 (by omega)
    have Z:t.get (j:Int)=t.list[j]? :=by unfold Tr.get;rw[if_neg (by omega),Int.toNat_natCast]
    rw[Z] at a2
    have i1:=Zh a2
    clear a2 Z f1 i4 g8
    go_wp2_with fail
    refine(i1.out).mono ?_
    rintro e P ⟨rfl,X⟩
    have m1:=k6.out.below E.out.row X
    obtain⟨u,b2,d5,N,U⟩:=Qgd (t.list[j]?)
    rw[d5]
    have c5:=Zh N
    have d1:=Zh U
    clear d5 N U c2 i1 k6
    go_upto_region 9 with fail
    have k0:=m1.below E.out.row (Qa (Below.refl _ P) (o:=.cells #[.slice u.A u.n u.c,.int .i64 u.tag,.int .i64 u.sum.atoms,.int .i64 u.sum.bytes,.int .i64 u.sum.breaks,.bool u.sum.lf,.bool u.sum.cr] 107))
    have y:Blk (P.alloc (.cells #[.slice u.A u.n u.c,.int .i64 u.tag,.int .i64 u.sum.atoms,.int .i64 u.sum.bytes,.int .i64 u.sum.breaks,.bool u.sum.lf,.bool u.sum.cr] 107)) P.heap.size 107 u.cells:=Blk.new P _ _
    obtain⟨w4,Q⟩:=ZN (P.alloc (.cells #[.slice u.A u.n u.c,.int .i64 u.tag,.int .i64 u.sum.atoms,.int .i64 u.sum.bytes,.int .i64 u.sum.breaks,.bool u.sum.lf,.bool u.sum.cr] 107))
    rw[Q] at k0 y ⊢
    have Y:=Zh k0
    clear Q m1 k0 X
    go_upto_if 75 with fail
    go_cut [12] (fun s wx=>ReplM w B g enc lim n (n+(QF enc put).length) add T a (xs++(QF enc put).map (Value.int .u8)) (Qbq enc t.list i nn++fr++Qcx enc t.list j mm) fr s wx)
    case first=>
      cases b2
      · go_wp2_with fail
        go_meet
        have he:Qcx enc t.list j mm=[]:=by
          unfold Qcx
          rw[d1.out (by first|rfl|trivial)]
        rw[he,List.append_nil]
        exact Y.out
      · have b7:=c5.out (by first|rfl|trivial)
        have H:=List.mem_of_getElem? b7
        have a6:=E.out.tree.step Y.out.st E.out.row E.out.blk
        have e8:=z.out.ok u H
        have d7:=a6.pcs.bts u H
        have he:Qcx enc t.list j mm=if 0<(QeV enc u mm).sum.atoms then [QeV enc u mm] else []:=by
          unfold Qcx
          rw[b7]
          rfl
        have c8:=Zh he
        have hcut:=fun(w':World) (L:ZB w4 w')=>QiK enc Any u (mm:Int) w' z.out.enc4 e8 (Reads.below d7 L) (by omega) (by omega)
        rw[Qmn] at hcut
        obtain⟨cl,c7⟩:=ZN (QgK enc u mm)
        obtain⟨cr,c3⟩:=ZN (QeV enc u mm)
        rw[c7,c3] at hcut
        rw[c3] at c8
        simp only[Pc.cells,Qx] at hcut
        have G:=Zh hcut
        clear hcut he H e8 d7 b7 c7 c3 a6
        have ct:=Y.out.blk.cell 0
        simp at ct
        go_upto_region 10 with fail
        have n4:=Y.out.blk.lt
        have n8:=y.lt
        have s0:(w4.cell? ⟨P.heap.size,0,none⟩=some (.slice u.A u.n u.c)/\w4.cell? ⟨P.heap.size,1,none⟩=some (.int .i64 u.tag)/\w4.cell? ⟨P.heap.size,2,none⟩=some (.int .i64 u.sum.atoms)/\w4.cell? ⟨P.heap.size,3,none⟩=some (.int .i64 u.sum.bytes)/\w4.cell? ⟨P.heap.size,4,none⟩=some (.int .i64 u.sum.breaks)/\w4.cell? ⟨P.heap.size,5,none⟩=some (.bool u.sum.lf)/\w4.cell? ⟨P.heap.size,6,none⟩=some (.bool u.sum.cr)/\w4.cell? ⟨g,0,none⟩=some (.int .i64 enc)):=⟨(QR y).1,(QR y).2.1,(QR y).2.2.1,(QR y).2.2.2.1,(QR y).2.2.2.2.1,(QR y).2.2.2.2.2.1,(QR y).2.2.2.2.2.2,ct⟩
        have j7:=QaZ s0
        have zz:w4.drew.heap.size=w4.heap.size:=rfl
        have ZZ:=Zh zz
        clear zz ct
        go_cut [19,20] (fun k2 j8 wx=>Qqb w4 cl cr k2 j8 wx)
        case first=>
          go_region_held3 (fun w'=>(w'.cell? ⟨P.heap.size,0,none⟩=some (.slice u.A u.n u.c)/\w'.cell? ⟨P.heap.size,1,none⟩=some (.int .i64 u.tag)/\w'.cell? ⟨P.heap.size,2,none⟩=some (.int .i64 u.sum.atoms)/\w'.cell? ⟨P.heap.size,3,none⟩=some (.int .i64 u.sum.bytes)/\w'.cell? ⟨P.heap.size,4,none⟩=some (.int .i64 u.sum.breaks)/\w'.cell? ⟨P.heap.size,5,none⟩=some (.bool u.sum.lf)/\w'.cell? ⟨P.heap.size,6,none⟩=some (.bool u.sum.cr)/\w'.cell? ⟨g,0,none⟩=some (.int .i64 enc))) (first|(with_reducible assumption)|((repeat (first|(with_reducible refine Qhe (by dsimp only;omega) (by dsimp only;omega) ?_)|(with_reducible refine Qbt ?_)|(with_reducible refine QaZ ?_)));with_reducible assumption)) (first|(go_at_call 141;(with_reducible refine(G.out w4.drew (Below.refl _ w4).drew).mono ?_);rintro e w5 ⟨rfl,r⟩;have s1:=QfZ r (QaZ s0);have d2:=QiP r;have b1:=Qf (Below.refl _ w4).drew r)|(go_at_call 141;(with_reducible refine(G.out (w4.alloc (.cells #[.slice none 0 0,.int .i64 0,.int .i64 0,.int .i64 0,.int .i64 0,.bool false,.bool false] 107)).drew (Qa (Below.refl _ w4)).drew).mono ?_);rintro e w5 ⟨rfl,r⟩;have s1:=QfZ r (QaZ (Qbt s0));have d2:=Qi9 r;have I:=Qp3 r;obtain⟨⟨g0,g1,g2,g3,g4,g5,g6⟩,v0,v1,v2,v3,v4,v5,v6⟩:=QjD r;have b1:=Qf (Qa (Below.refl _ w4)).drew r)|(go_at_call 141;(with_reducible refine(G.out ((w4.alloc (.cells #[.slice none 0 0,.int .i64 0,.int .i64 0,.int .i64 0,.int .i64 0,.bool false,.bool false] 107)).alloc (.cells #[.slice none 0 0,.int .i64 0,.int .i64 0,.int .i64 0,.int .i64 0,.bool false,.bool false] 107)).drew (Qa (Qa (Below.refl _ w4))).drew).mono ?_);rintro e w5 ⟨rfl,r⟩;have s1:=QfZ r (QaZ (Qbt (Qbt s0)));have d2:=QjA r;have I:=Qqn r;obtain⟨⟨⟨g0,g1,g2,g3,g4,g5,g6⟩,v0,v1,v2,v3,v4,v5,v6⟩,⟨j0,j1,j2,j3,j4,j5,j6⟩,u0,u1,u2,u3,u4,u5,u6⟩:=Qjb r;have b1:=Qf (Qa (Qa (Below.refl _ w4))).drew r))
          all_goals
            have F:=b1
            have C:=Nat.le_refl w4.heap.size
            clear s0 j7 s1 E z HT HF b0 a3 Y hl hD e9
            go_wp2_with fail
            go_meet
            skip
          · exact QsM F
          · exact QsR F
          · exact QsL (b:=w4.heap.size) F I C
          · exact QsO (b:=w4.heap.size) F I C
          · exact QsQ (b:=w4.heap.size) F I C
          · exact QsP (b:=w4.heap.size) F I C
        case rest=>
          obtain⟨e1,e2,rfl,rfl,f8,g7,K⟩:=hcut
          obtain⟨⟨z0,z1,z2,z3,z4,z5,z6⟩,-⟩:=QG g7
          have b8:=Y.out.below E.out.row K
          have i5:=Zh b8
          have h1:=K.size
          have o9:=b8.st.fr.size
          have c1:=b8.its
          have q4:=QfL enc t.list i nn
          rw[List.length_append] at c1
          clear b8 Y e9 hD hl f8 g7
          by_cases hat0:0<cr.sum.atoms
          · have q1:((0:Int)<cr.sum.atoms)=True:=by simpa using hat0
            obtain⟨ip,zp,a1,a4,R,a0,W⟩:=QdR
            have d9:=Zh hat0
            clear hat0
            go_wp2_with (at_builtin;go_loud (refine wpList_append_own_at _ rfl (.tmp 90) (.tmp 92) 232 rfl w.heap.size 107 ip zp 7 64 Tryz.underlying232 a1 a4 R a0 W (by decide) v7 ((Qbq enc t.list i nn).length+fr.length) _ rfl (c1.alloc _) ⟨wc.heap.size,0,none⟩ 1 1 [.slice cr.A cr.n cr.c,.int .i64 cr.tag,.int .i64 cr.sum.atoms,.int .i64 cr.sum.bytes,.int .i64 cr.sum.breaks,.bool cr.sum.lf,.bool cr.sum.cr] rfl rfl (QaU _ _ _) (QdK _ _ _ _ _ _ _ _ _) (by unfold maxLen;omega) (by omega) (by simp;omega) ?_))
            intro q3 q5 b9 d3 _ k4
            have i7:=(i5.out.below E.out.row (Qa (Below.refl _ wc))).more E.out.row d3 b9 (its':=Qbq enc t.list i nn++fr++[cr]) (by simp only[List.length_append,List.length_singleton]) (by simp[List.flatMap_append,Pc.cells,Qx])
            have k7:=Zh i7
            clear i7 b9 d3 k4 a1 a4 R a0 W z0 z1 z2 z3 z4 z5 z6
            go_wp2_with fail
            go_meet
            rw[c8.out,if_pos d9.out]
            exact k7.out
          · have q1:((0:Int)<cr.sum.atoms)=False:=eq_false hat0
            have d9:=Zh hat0
            clear hat0
            go_wp2_with fail
            go_meet
            rw[c8.out,if_neg (fun h=>absurd h (by have:=d9.out;omega)),List.append_nil]
            exact i5.out
    case rest=>
      have hM:=hcut
      obtain⟨w9,n7⟩:∃x,x=wc:=⟨_,rfl⟩
      subst n7
      clear hcut hD hl c5 d1
      have a6:=E.out.tree.step hM.st E.out.row E.out.blk
      obtain⟨A9,c9,rfl,n6⟩:=Qj hM.its
      have o1:(Qbq enc t.list i nn++fr++Qcx enc t.list j mm).length<=1048578:=by
        have h1:=QfL enc t.list i nn
        have h2:=Qoa enc t.list j mm
        rw[List.length_append,List.length_append]
        omega
      have c4:=QqC (i:=i) (n:=nn) (j:=j) (m:=mm) a6.pcs hM.pcs
      obtain⟨f7,h9⟩:=Qrw (fr:=fr) b0.out a3.out f0 ft
      rw[f4.out] at f7
      have m0:QaM enc fr=put.map (fun x=>(x,-1)):=by
        have h1 : ∀l:List Pc,(∀p ∈ l,p.tag = -1)->QaM enc l=(QC enc l).map (fun d=>(d.1,-1)):=by
          intro l
          induction l with
          |nil=>intro _;rfl
          |cons p l ih=>
            intro h
            rw[QS,List.map_append,<-ih (fun q hq=>h q (List.mem_cons_of_mem _ hq))]
            show Qgt enc p++_=_
            unfold Qgt
            rw[h p List.mem_cons_self]
            congr 1
            generalize dec enc p.bytes=ds
            clear h
            have : ∀(ds:List (Int × Int)) (o:Int),QbS (-1) o ds=ds.map (fun d=>(d.1,-1)):=by
              intro ds
              induction ds with
              |nil=>intro _;rfl
              |cons d ds ih=>intro o;simp only[QbS,List.map_cons,ih];rfl
            exact this ds 0
        rw[h1 fr i9.out,f4.out]
        unfold Qat
        rw[List.map_map]
        rfl
      rw[m0] at h9
      have d8:Qbl (QkR enc t.list i nn j mm fr)<=16777216:=by
        have e1:=Qd2 c4.ok
        have e2:=Qd2 z.out.ok
        have e3:=QjP enc put HF.out
        have e4:=HT.out
        rw[f7,List.map_append,List.map_append,List.sum_append,List.sum_append] at e1
        have e5:((QC enc t.list).map Prod.snd).sum=(((QC enc t.list).take tt.toNat).map Prod.snd).sum+(((QC enc t.list).drop tt.toNat).map Prod.snd).sum:=by
          rw[<-List.sum_append,<-List.map_append,List.take_append_drop]
        have e6:(((QC enc t.list).take f.toNat).map Prod.snd).sum<=(((QC enc t.list).take tt.toNat).map Prod.snd).sum:=by
          have h1:(QC enc t.list).take tt.toNat=(QC enc t.list).take f.toNat++((QC enc t.list).take tt.toNat).drop f.toNat:=by
            conv=>lhs;rw[<-List.take_append_drop f.toNat ((QC enc t.list).take tt.toNat),List.take_take,Nat.min_eq_left (by omega)]
          rw[h1,List.map_append,List.sum_append]
          have h2:=Qm (((Qai enc t.list).take tt.toNat).drop f.toNat)
          obtain⟨⟨_,_,h4,_⟩,_,h5⟩:=h2
          omega
        omega
      have l1:LstOk (t.list.take i++(Qbq enc t.list i nn++fr++Qcx enc t.list j mm)++t.list.drop (min (j+1) t.list.length)):=⟨Qdg c4.ok,by have:Qbl (QkR enc t.list i nn j mm fr)<=16777216:=d8;unfold QkR at this;omega,by have:=Qj0 c4.ok;have h2:Qbl (QkR enc t.list i nn j mm fr)<=16777216:=d8;unfold QkR at this h2;omega⟩
      have m7:LstOk t.list:=⟨z.out.good,by omega,d6⟩
      have a9:=fun(w':World) (L:ZB w9 w')=>Qiv t a i (min (j+1) t.list.length) (fun b=>w.heap.size<=b) A9 _ c9 _ w' (NodeAt.below L _ _ a6.node) m7 (Reads.below (Reads.of_own hM.its) L) (by omega) (Nat.min_le_right _ _) n6 l1
      have k3:=fun(w':World) (L:ZB w9 w')=>QfC t a w' (NodeAt.below L _ _ a6.node)
      simp only[Tr.size_list] at k3
      have f5:t.list.take i++(Qbq enc t.list i nn++fr++Qcx enc t.list j mm)++t.list.drop (min (j+1) t.list.length)=QkR enc t.list i nn j mm fr:=rfl
      rw[f5] at a9
      obtain⟨RL,m3⟩:=ZN (QkR enc t.list i nn j mm fr)
      rw[m3] at c4 f7 h9 d8 a9
      have c2:=hM.blk.cell 2
      simp at c2
      have f2 : ∀w',ZB w9 w'->w'.cell? ⟨g,2,none⟩=some (.pointer a)/\w'.frozen? ⟨g,2,none⟩=false:=fun w' L=>⟨(hM.blk.below L).cell 2,(hM.blk.below L).frozen 2⟩
      have i2 : ∀wq t7 a7,NodeAt wq t7 a7->t7.list=RL->ZB w9 wq ->
          ∃f6,ReplR g add f6 n (n+(QF enc put).length) B xs (xs++(QF enc put).map (Value.int .u8)) enc lim ((QC enc t.list).take f.toNat++Qat enc put++(QC enc t.list).drop tt.toNat) ((QaM enc t.list).take f.toNat++put.map (fun x=>(x,-1))++(QaM enc t.list).drop tt.toNat) w (wq.setCell ⟨g,2,none⟩ (.pointer a7)):=by
        intro wq t7 a7 hn hl L
        have J:=hM.below E.out.row L
        have k8:T.ownBlock≠some g:=Qk J.row J.blk (by decide)
        have i3:=TStep.set J.row J.blk k8 2 (.pointer a7)
        have o0:PsIn wq T (n+(QF enc put).length) enc RL:=c4.far (S:=No) (Fr.of_below L) (fun _ _ hs=>hs.elim)
        refine⟨T,t7,a7,⟨(J.blk.set_ 2 _).eq_ rfl,Qt J.row J.blk (by decide),z.out.enc4,by have:=E.out.base;have:=J.st.fr.size;simp[World.setCell];omega,NodeAt.keepS (fun b cs o6=>Below.heap_setCell wq _ _ b (fun e=>Blk.ne_ o6 J.blk (by decide) e)) _ _ hn,by rw[hl];exact d8,by rw[hl];exact o0.step i3 J.blk⟩,J.st.trans i3 E.out.row E.out.ne,by rw[hl];exact f7,by rw[hl];exact h9⟩
      have m5:=Zh i2
      have l6:=Zh k3
      have g9:=Zh f2
      obtain⟨LEN,i8⟩:=ZN (t.list.length)
      rw[i8] at l6 a9
      have o5:LEN<=1073741824:=by omega
      have o7:j<=LEN:=by omega
      obtain⟨IL,k5⟩:=ZN ((Qbq enc t.list i nn++fr++Qcx enc t.list j mm).length)
      rw[k5] at a9 ⊢
      clear hM a6 c4 f7 h9 m0 d8 l1 m7 i2 k3 f2 m3 f5 E z HF HT b0 a3 f4 i9 Y y i8 k5 o1 m9
      have e1:IntKind.i64.wrap ((j:Int)+1)=(j:Int)+1:=IntWalk.i64_in _ (by omega)
      have o4:((LEN:Int)<(j:Int)+1)=True/\((min (j+1) LEN:Nat):Int)=(LEN:Int)\/((LEN:Int)<(j:Int)+1)=False/\((min (j+1) LEN:Nat):Int)=(j:Int)+1:=by
        simp only[eq_iff_iff,iff_true,iff_false]
        omega
      rcases o4 with ⟨qm,em⟩|⟨qm,em⟩
      all_goals
        rw[em] at a9
        have n3:=Zh a9
        clear a9 em
        go_wp2_with fail
        refine Qg (fun w'=>w'.cell? ⟨g,2,none⟩=some (.pointer a)) (fun w'=>ZB w9 w') (fun k=>k==12 || k==15 || k==21) (fun k=>k==21) (fun k=>k==18) (by kernel_rfl) (by kernel_rfl) ((Below.refl _ _).drew) (fun w' h=>(g9.out _ h).1) ?_
        repeat ((first
          |(refine Qc (v:=?_) (by rfl) (by rfl) (fun w6 hSw=>?_) ?_;rotate_left;(·(have y0:=hSw;go_simp;try with_reducible rfl)))
          |(refine Qd (v:=?_) (by rfl) (fun w6=>?_) ?_;rotate_left;(·(go_simp;try with_reducible rfl)))
          |refine Qe (by rfl) ?_);(try simp only[Act.put,pA,pB,pC]))
        refine Qn (f:=?_) (args:=?_) (fun v w'=>v=.int .i64 (LEN:Int)/\ZB w9 w') (by rfl) (by rfl) (fun w6 hSw=>?_) (fun w6 hSw=>?_) (.inr (fun v6 w6 hT6=>?_)) (fun v6 hv6=>?_)
        rotate_left 2
        · (skip;go_simp;first|done|(constructor<;>with_reducible rfl)|with_reducible rfl)
        · (refine(l6.out _ hSw).mono ?_;rintro e w' ⟨rfl,hb7⟩;exact⟨_,rfl,rfl,Qf hSw hb7⟩)
        · (exact(g9.out _ hT6.2).1)
        obtain⟨wz,rfl,-⟩:=hv6
        (try simp only[Act.put,pA,pB,pC])
        repeat ((first
          |(refine Qc (v:=?_) (by rfl) (by rfl) (fun w6 hSw=>?_) ?_;rotate_left;(·(have y0:=hSw;go_simp;try with_reducible rfl)))
          |(refine Qd (v:=?_) (by rfl) (fun w6=>?_) ?_;rotate_left;(·(go_simp;try with_reducible rfl)))
          |refine Qe (by rfl) ?_);(try simp only[Act.put,pA,pB,pC]))
        refine Qn (f:=?_) (args:=?_) (fun v w'=>∃t7 a7,v=.tuple #[.agg #[.pointer a7],.int .i64 0]/\NodeAt w' t7 a7/\t7.list=RL/\ZB w9 w') (by rfl) (by rfl) (fun w6 hSw=>?_) (fun w6 hSw=>?_) (.inr (fun v6 w6 hT6=>?_)) (fun v6 hv6=>?_)
        rotate_left 2
        · (skip;go_simp;first|done|(constructor<;>with_reducible rfl)|with_reducible rfl)
        · (refine(n3.out _ hSw.2).mono ?_;rintro e w' ⟨t7,a7,rfl,o2,n1,hb7⟩;exact⟨_,rfl,t7,a7,rfl,o2,n1,Qf hSw.2 hb7⟩)
        · (obtain⟨t7,a7,-,-,-,hb7⟩:=hT6;exact(g9.out _ hb7).1)
        obtain⟨wz,t7,a7,rfl,-,-,-⟩:=hv6
        (try simp only[Act.put,pA,pB,pC])
        repeat ((first
          |(refine Qc (v:=?_) (by rfl) (by rfl) (fun w6 hSw=>?_) ?_;rotate_left;(·(have y0:=hSw;go_simp;try with_reducible rfl)))
          |(refine Qd (v:=?_) (by rfl) (fun w6=>?_) ?_;rotate_left;(·(go_simp;try with_reducible rfl)))
          |refine Qe (by rfl) ?_);(try simp only[Act.put,pA,pB,pC]))
        refine Ql (fun _ w'=>∃wq t7,NodeAt wq t7 a7/\t7.list=RL/\ZB w9 wq/\w'=wq.setCell ⟨g,2,none⟩ (.pointer a7)) (by rfl) (by rfl) (fun w6 hSw=>?_) (.inl (by rfl)) (fun v6 hv6=>?_)
        · (obtain⟨t8,a8,l5,h6,f9,X⟩:=hSw;simp at l5;subst l5;obtain⟨y0,y1⟩:=g9.out _ X;go_simp;exact⟨w6,t8,h6,f9,X,rfl⟩)
        skip
        (try simp only[Act.put,pA,pB,pC])
        refine Qu ?_
        rintro p2 ⟨wq,t8,h6,f9,X,rfl⟩
        have HP:=Zh (m5.out wq t8 a7 h6 f9 X)
        clear h6 f9 X
        show bodyPost _ _ _ _ _ _
        refine bodyPost_end (results_none rfl _ _ _) rfl ?_
        exact⟨rfl,HP.out⟩
structure Ed where
 f:Int
 t:Int
 A:Option Addr
 n:Nat
 c:Nat
 put:List Int
def Ed.cells (e:Ed):Array Value := #[.int .i64 e.f,.int .i64 e.t,.slice e.A e.n e.c]
structure EdsAt (w:World) (D:Nat->Prop) (A:Option Addr) (m:Nat) (es:List Ed):Prop where
 rds:Reads w D 3 A m (es.flatMap fun e=>e.cells.toList)
 put : ∀e ∈ es,Ints w D e.A e.n e.put
theorem QsD (es:List Ed):(es.flatMap fun e=>e.cells.toList).length=es.length*3:=by
 induction es with
 |nil=>rfl
 |cons p ps ih=>rw[List.flatMap_cons,List.length_append,ih];simp[Ed.cells];omega
theorem EdsAt.len {w:World}{D:Nat->Prop}{A:Option Addr}{m:Nat}{es:List Ed}(h:EdsAt w D A m es):es.length=m:=by
 have:=h.rds.1
 rw[QsD] at this
 omega
theorem QeX (es:List Ed)(k:Nat)(a:k<es.length)(j:Nat)(b:j<3):(es.flatMap fun e=>e.cells.toList)[k*3+j]? = es[k].cells[j]? :=by
 induction es generalizing k with
 |nil=>simp at a
 |cons p ps ih=>
  rw[List.flatMap_cons]
  cases k with
  |zero=>
   rw[List.getElem?_append_left (by simp[Ed.cells];omega)]
   simp
  |succ k=>
   rw[List.getElem?_append_right (by simp[Ed.cells];omega)]
   have:=ih k (by simpa using a)
   simp only[List.getElem_cons_succ]
   rw[<-this]
   congr 1
   simp[Ed.cells]
   omega
theorem EdsAt.at_ {w:World}{D:Nat->Prop}{A:Option Addr}{m k:Nat}{es:List Ed}(h:EdsAt w D A m es)(p:k<m):∃b o e,A=some ⟨b,o,none⟩/\es[k]? = some e/\D b/\w.cell? ⟨b,o+k*3,none⟩=some (.int .i64 e.f)/\w.cell? ⟨b,o+k*3+1,none⟩=some (.int .i64 e.t)/\w.cell? ⟨b,o+k*3+2,none⟩=some (.slice e.A e.n e.c):=by
 have l:=h.len
 obtain⟨i,e,j,g⟩:=h.rds.2 (by omega)
 have a:k<es.length:=by omega
 have d:=Qim (g 0 (.int .i64 es[0].f) (by have:=QeX es 0 (by omega) 0 (by omega);simp only[Nat.zero_mul,Nat.add_zero] at this;rw[this];rfl))
 rw[add_zero] at d
 refine⟨i.block,i.off,es[k],by rw[e,<-d],List.getElem?_eq_getElem a,j,?_,?_,?_⟩
 ·have:=g (k*3+0) (.int .i64 es[k].f) (by rw[QeX es k a 0 (by omega)];rfl)
  rw[d,QaF] at this
  exact this
 ·have:=g (k*3+1) (.int .i64 es[k].t) (by rw[QeX es k a 1 (by omega)];rfl)
  rw[d,QaF] at this
  rw[Nat.add_assoc]
  exact this
 ·have:=g (k*3+2) (.slice es[k].A es[k].n es[k].c) (by rw[QeX es k a 2 (by omega)];rfl)
  rw[d,QaF] at this
  rw[Nat.add_assoc]
  exact this
theorem EdsAt.below {w w':World}{D:Nat->Prop}{A:Option Addr}{m:Nat}{es:List Ed}(h:EdsAt w D A m es)(a:ZB w w'):EdsAt w' D A m es:=
 ⟨Reads.below h.rds a,fun e b=>Reads.below (h.put e b) a⟩
theorem EdsAt.more {w:World}{D D':Nat->Prop}{A:Option Addr}{m:Nat}{es:List Ed}(h:EdsAt w D A m es)(a : ∀b,D b->b<w.heap.size->D' b):EdsAt w D' A m es:=
 ⟨Reads.more h.rds a (by decide),fun e c=>Reads.more (h.put e c) a (by decide)⟩
theorem EdsAt.fr {w w':World}{D S:Nat->Prop}{A:Option Addr}{m:Nat}{es:List Ed}(h:EdsAt w D A m es)(a:Fr S w w')(c : ∀b,D b->b<w.heap.size->¬S b):EdsAt w' D A m es:=
 ⟨Reads.fr h.rds a c,fun e d=>Reads.fr (h.put e d) a c⟩
def Qdw:Int->Int->List Ed->Bool
 |_,_,[]=>true
 |a,size,e::r=>if e.f<a\/e.t<e.f\/size<e.t then false else Qdw e.t size r
def Qqc (enc:Int)(l:List Int):Bool:=l.all fun a=>szA enc a != 0
def QjE (enc:Int)(es:List Ed):Bool:=es.all fun e=>Qqc enc e.put
def Qcc (enc:Int)(l:List Int):Int:=(l.map (szA enc)).sum
def QcK (enc:Int)(es:List Ed):Int:=(es.map fun e=>Qcc enc e.put).sum
def QnB (a:List (Int × Int))(e:Ed):Int:=if e.f<e.t then (Qi (a.take e.t.toNat)).bytes-(Qi (a.take e.f.toNat)).bytes else 0
def Qgs (a:List (Int × Int))(es:List Ed):Int:=(es.map (QnB a)).sum
def QbN (enc lim:Int)(a:List (Int × Int))(es:List Ed):Int:=
 if 70000<es.length then 3 else if Qdw 0 a.length es=false then 2 else if QjE enc es=false then 11 else if lim<(Qi a).bytes+QcK enc es-Qgs a es then 50 else 0
theorem Qda : ∀(es:List Ed) (a size:Int),Qdw a size es=true->0<=a->∀e ∈ es,a<=e.f/\e.f<=e.t/\e.t<=size:=by
 intro es
 induction es with
 |nil=>intro _ _ _ _ e b;cases b
 |cons x r ih=>
  intro a size h c e b
  unfold Qdw at h
  split at h
  ·cases h
  ·rename_i d
   rcases List.mem_cons.1 b with rfl|b
   ·omega
   ·have:=ih x.t size h (by omega) e b
    omega
theorem Qmw (enc a:Int):0<=szA enc a:=by
 unfold szA sz8 Qfb szL
 repeat' split
 all_goals omega
theorem Qge (enc:Int)(l:List Int):0<=Qcc enc l/\Qcc enc l<=4*l.length:=by
 unfold Qcc
 induction l with
 |nil=>simp
 |cons a l ih=>
  have h1:=Qmw enc a
  have h2:=QjZ enc a
  simp only[List.map_cons,List.sum_cons,List.length_cons]
  omega
theorem Qkl (enc:Int)(l:List Int)(a:Int):Qcc enc (l++[a])=Qcc enc l+szA enc a:=by unfold Qcc;simp
theorem Ql8 (enc:Int)(es:List Ed)(e:Ed):QcK enc (es++[e])=QcK enc es+Qcc enc e.put:=by unfold QcK;simp
theorem Qno (a:List (Int × Int))(es:List Ed)(e:Ed):Qgs a (es++[e])=Qgs a es+QnB a e:=by unfold Qgs;simp
def Qf0 (es:List Ed):Nat:=(es.map fun e=>e.put.length).sum
theorem QlW (es:List Ed)(e:Ed):Qf0 (es++[e])=Qf0 es+e.put.length:=by unfold Qf0;simp
theorem Qhh (enc:Int)(es:List Ed):0<=QcK enc es/\QcK enc es<=4*Qf0 es:=by
 unfold QcK Qf0
 induction es with
 |nil=>simp
 |cons e es ih=>
  have:=Qge enc e.put
  simp only[List.map_cons,List.sum_cons]
  omega
theorem QhR (es:List Ed)(k:Nat):Qf0 (es.take k)<=Qf0 es:=by
 conv=>rhs;rw[<-List.take_append_drop k es]
 unfold Qf0
 rw[List.map_append,List.sum_append]
 omega
theorem QdZ {α : Type}(l:List α)(k:Nat)(x : α)(h:l[k]? = some x):l.take (k+1)=l.take k++[x]:=by rw[List.take_add_one,h];rfl
def Qsn (c:List (Int × Int))(es:List Ed)(w:World)(k:Nat)(b d:Value)(wr:World):Prop:=
 ∃(j:Nat) (a:Int),b=.int .i64 (j:Int)/\d=.int .i64 a/\Hid (Qdw a c.length (es.drop j)=Qdw 0 c.length es)/\j<=es.length/\ZB w wr/\es.length-j<=k
def QsE (enc BY:Int)(es:List Ed)(w:World)(k:Nat)(a b:Value)(wr:World):Prop:=
 ∃(j:Nat) (S:Int),a=.int .i64 (j:Int)/\b=.int .i64 (BY+S)/\Hid (S=QcK enc (es.take j)/\QjE enc (es.take j)=true)/\j<=es.length/\ZB w wr/\es.length-j<=k
def Qsz (c:List (Int × Int))(BS:Int)(es:List Ed)(w:World)(k:Nat)(a b:Value)(wr:World):Prop:=
 ∃(j:Nat) (R:Int),a=.int .i64 (j:Int)/\b=.int .i64 (BS-R)/\Hid (R=Qgs c (es.take j) /\ -(1073741824*(j:Int))<=R/\R<=1073741824*(j:Int))/\j<=es.length/\ZB w wr/\es.length-j<=k
def Qsu (enc BS:Int)(put:List Int)(w:World)(k:Nat)(a b:Value)(wr:World):Prop:=
 ∃(i:Nat) (S:Int),a=.int .i64 (i:Int)/\b=.int .i64 (BS+S)/\Hid (S=Qcc enc (put.take i)/\Qqc enc (put.take i)=true)/\i<=put.length/\ZB w wr/\put.length-i<=k
theorem QlA (D D2:Nat->Prop)(g:Nat)(enc lim:Int)(t:Tr)(a:Option Addr)(add:Value)(A:Option Addr)(m c:Nat)(es:List Ed)(w:World)(h:TextIn w D g enc lim t a add)(he:EdsAt w D2 A m es)(hp:Qf0 es<=268435456) :
  Calls Tryz.prog 155 #[.pointer (some ⟨g,0,none⟩),.slice A m c] w fun e w'=>e=.returned (.int .i64 (QbN enc lim (QC enc t.list) es))/\ZB w w':=by
 have j2:=he.len
 have a9:TextAt w D g enc (QC enc t.list):=⟨lim,t,a,add,h,rfl⟩
 have K:=QaS D g enc _ w a9
 have Y:=fun(w':World) (T:ZB w w')=>Qou D g enc _ w' (a9.below T)
 have d4:=h.decLen
 have i4:=h.tot
 obtain⟨b,Q⟩:=ZN (QC enc t.list)
 have N:=fun(x:Int) (w':World) (T:ZB w w') (h0:0<=x) (h1:x<=(b.length:Int))=>Qio D g enc lim t a add x w' (h.below T) h0 (by rw[Q];exact h1)
 have h9:0<=(Qi b).bytes/\(Qi b).bytes<=1073741824:=by
  have h1:=Qd2 h.ok
  have h2:=Qm (Qai enc t.list)
  rw[Q] at h1 h2
  obtain⟨⟨_,_,h4,_⟩,_,h5⟩:=h2
  omega
 rw[Q] at K Y N d4 ⊢
 have g0:=Zh Q
 by_cases hlen:70000<es.length
 ·have e1:QbN enc lim b es=3:=by unfold QbN;rw[if_pos hlen]
  rw[e1]
  have q:((70000:Int)<(m:Int))=True:=by simp;omega
  clear K Y N e1
  go_enter Tryz.func155,Tryz.ntmps155
  go_wp2_with fail
  go_ret
  exact⟨rfl,Below.refl _ _⟩
 ·have q:((70000:Int)<(m:Int))=False:=by simp;omega
  have c2:QbN enc lim b es=if Qdw 0 b.length es=false then 2 else if QjE enc es=false then 11 else if lim<(Qi b).bytes+QcK enc es-Qgs b es then 50 else 0:=by unfold QbN;rw[if_neg hlen]
  rw[c2]
  obtain⟨V,hV⟩:∃V:Int,(if Qdw 0 b.length es=false then 2 else if QjE enc es=false then 11 else if lim<(Qi b).bytes+QcK enc es-Qgs b es then 50 else 0)=V:=⟨_,rfl⟩
  rw[hV]
  have HV:=Zh hV
  obtain⟨DL,b4⟩:=ZN (b.length)
  rw[b4] at K N d4
  have I:=Zh b4
  have e0:=Zh K
  have e7:=Zh Y
  have c6:=Zh N
  have HE:=Zh he
  have HH:=Zh h
  clear K Y N c2 he h a9 Q hV b4
  go_enter Tryz.func155,Tryz.ntmps155
  go_wp2_with fail
  refine(e0.out).mono ?_
  rintro e w1 ⟨rfl,g4⟩
  go_wp2_with fail
  go_loopg [24,5] es.length (fun k g5 q5 wr=>Qsn b es w k g5 q5 wr)
  case atStart=>exact⟨0,0,rfl,rfl,Zh rfl,by omega,g4,by omega⟩
  case round=>
   obtain⟨j,at_,rfl,rfl,ho,hj,l,f3⟩:=hrel
   by_cases hlt:j<m
   ·obtain⟨eb,eo,ed,rfl,d,d7,z0,z1,z2⟩:=(HE.out.below l).at_ hlt
    obtain⟨ef,et,eA,en,ec,eput⟩:=ed
    dsimp only at z0 z1 z2
    have e6:es.drop j=⟨ef,et,eA,en,ec,eput⟩::es.drop (j+1):=by
     rw[List.drop_eq_getElem_cons (by omega)]
     rw[List.getElem?_eq_getElem (by omega)] at d
     injection d with d
     rw[d]
    have e2:Qdw at_ b.length (es.drop j)=if ef<at_\/et<ef\/(b.length:Int)<et then false else Qdw et b.length (es.drop (j+1)):=by rw[e6];rfl
    have HO:Hid (Qdw 0 b.length es=if ef<at_\/et<ef\/(b.length:Int)<et then false else Qdw et b.length (es.drop (j+1))):=Zh (by rw[<-ho.out];exact e2)
    clear e2 e6 ho d HH
    rw[I.out] at HO
    have i3:((ef<at_)=True)\/((ef<at_)=False/\(((et<ef)=True)\/((et<ef)=False/\(((DL:Int)<et)=True\/((DL:Int)<et)=False)))):=by
     simp only[eq_iff_iff,iff_true,iff_false]
     omega
    rcases i3 with q1|⟨q1,q2|⟨q2,q3|q3⟩⟩
    ·go_wp2_with fail
     go_ret
     exact⟨QaB (by rw[<-HV.out,I.out,if_pos (by rw[HO.out,if_pos (.inl (of_eq_true q1))])]),Qa l⟩
    ·go_wp2_with fail
     go_ret
     exact⟨QaB (by rw[<-HV.out,I.out,if_pos (by rw[HO.out,if_pos (.inr (.inl (of_eq_true q2)))])]),Qa l⟩
    ·go_wp2_with fail
     go_ret
     exact⟨QaB (by rw[<-HV.out,I.out,if_pos (by rw[HO.out,if_pos (.inr (.inr (of_eq_true q3)))])]),Qa l⟩
    ·go_wp2_with fail
     go_roundg (es.length-(j+1))
     case measure=>omega
     case rel=>
      refine⟨j+1,et,by go_num,rfl,Zh ?_,by omega,Qa l,by omega⟩
      rw [I.out, HO.out, if_neg (by
       rintro(h|h|h)
       ·exact(of_eq_false q1) h
       ·exact(of_eq_false q2) h
       ·exact(of_eq_false q3) h)]
   ·have g3:j=es.length:=by omega
    subst g3
    have a2:Qdw 0 b.length es=true:=by
     have:=ho.out
     rw[List.drop_length] at this
     exact this.symm
    have a7:=e7.out _ l
    obtain⟨BY,b6⟩:=ZN ((Qi b).bytes)
    have g7:=Zh b6
    rw[b6] at a7 h9
    have d8:=Zh a7
    have L:=Zh a2
    clear a7 a2 ho b6 e7 e0
    go_wp2_with fail
    refine(d8.out).mono ?_
    rintro e w2 ⟨rfl,b9⟩
    have g9:=Qf l b9
    clear b9 l d8
    go_wp2_with fail
    go_loopg [52,9] es.length (fun k f1 q9 wr=>QsE enc BY es w k f1 q9 wr)
    case atStart=>exact⟨0,0,rfl,by simp,Zh ⟨by simp[QcK],rfl⟩,by omega,g9,by omega⟩
    case round=>
     obtain⟨j,S,rfl,rfl,W,hj,l,f3⟩:=hrel
     obtain⟨w3,a5⟩:∃x,x=wr:=⟨_,rfl⟩
     subst a5
     obtain⟨k1,i0⟩:∃x,x=gk:=⟨_,rfl⟩
     subst i0
     by_cases hlt:j<m
     ·obtain⟨eb,eo,ed,rfl,d,d7,z0,z1,z2⟩:=(HE.out.below l).at_ hlt
      have n:=List.mem_of_getElem? d
      have E:=HE.out.put ed n
      have b5 : ∀x ∈ ed.put,szA enc x=0->QjE enc es=false:=by
       intro x hx hz
       unfold QjE
       rw[List.all_eq_false]
       refine⟨ed,n,?_⟩
       unfold Qqc
       simp only[List.all_eq_true,bne_iff_ne,ne_eq,Classical.not_forall,Decidable.not_not]
       exact⟨x,hx,hz⟩
      have g2:=Qhh enc (es.take j)
      have j0:=QhR es j
      have d0:=QhR es (j+1)
      have e3:=QdZ es j ed d
      rw[e3,QlW] at d0
      have hS:=W.out.1
      rw[<-hS] at g2
      have f2:=Zh hS
      clear hS
      have c4:=Zh e3
      have f9:=Zh W.out.2
      obtain⟨ef,et,eA,en,ec,eput⟩:=ed
      dsimp only at z0 z1 z2 E d0 b5
      have g1:=Zh b5
      clear b5
      have j1:=E.len
      have d9:=Zh E
      clear W e3 E d n
      go_wp2_with fail
      have s:=Qa (o:=.cells #[.int .i64 ef,.int .i64 et,.slice eA en ec] 89) l
      go_loopg [59,9] eput.length (fun k i1 q9 wr=>Qsu enc (BY+S) eput w k i1 q9 wr)
      case atStart=>exact⟨0,0,rfl,by simp,Zh ⟨rfl,rfl⟩,by omega,s,by omega⟩
      case round=>
       obtain⟨i,B,rfl,rfl,H,hi,p,i5⟩:=hrel
       by_cases hlt5:i<en
       ·obtain⟨i8,rfl,_,c5⟩:=Ints.at_ (Reads.below d9.out p) hlt5
        obtain⟨x,hx⟩:=ZN (eput.getD i 0)
        have Z:eput[i]? = some x:=by
         rw[<-hx,List.getD_eq_getElem?_getD,List.getElem?_eq_getElem (by omega)]
         rfl
        rw[hx] at c5
        have e5:=QdZ eput i x Z
        have F:=Qh0 enc x wr HH.out.enc4
        have i2:=QjZ enc x
        have f8:=Qmw enc x
        have f0:=Qge enc (eput.take i)
        rw[List.length_take] at f0
        have C:=H.out.1
        rw[<-C] at f0
        obtain⟨t0,-⟩:=(HH.out.below p).cells
        by_cases hzz:szA enc x=0
        ·have hv:V=11:=by
          rw[<-HV.out,L.out,g1.out x (List.mem_of_getElem? Z) hzz]
          simp
         have G:=Zh hv
         rw[hzz] at F
         have b7:=Zh F
         clear hv F hx Z e5 C H
         go_wp2_with fail
         refine(b7.out).mono ?_
         rintro e w6 ⟨rfl,b2⟩
         go_wp2_with fail
         go_ret
         exact⟨QaB G.out.symm,Qf p b2⟩
        ·obtain⟨z,hz⟩:=ZN (szA enc x)
         rw[hz] at F hzz i2 f8
         have a4:=Qkl enc (eput.take i) x
         rw[<-e5,hz,<-C] at a4
         have d3:Qqc enc (eput.take (i+1))=true:=by
          have h1:=H.out.2
          rw[e5]
          unfold Qqc at h1 ⊢
          rw[List.all_append,h1]
          simp[hz,hzz]
         have q0:(z==0)=false:=by simpa using hzz
         have b7:=Zh F
         have g6:=Zh a4
         have f5:=Zh d3
         clear F hx Z e5 H hz a4 d3 C
         go_wp2_with fail
         refine(b7.out).mono ?_
         rintro e w6 ⟨rfl,b2⟩
         go_wp2_with fail
         go_roundg (eput.length-(i+1))
         case measure=>omega
         case rel=>exact⟨i+1,B+z,by go_num,by rw[Int.add_assoc],Zh ⟨g6.out.symm,f5.out⟩,by omega,Qf p b2,by omega⟩
       ·have g8:i=eput.length:=by omega
        subst g8
        have u:=H.out
        rw[List.take_length] at u
        have e4:=Zh u
        clear H u
        go_wp2_with fail
        go_roundg (es.length-(j+1))
        case measure=>omega
        case rel=>
         refine⟨j+1,S+B,by go_num,by rw[Int.add_assoc],Zh ⟨?_,?_⟩,by omega,p,by omega⟩
         ·rw[c4.out,Ql8,<-e4.out.1,<-f2.out]
         ·have h1:=f9.out
          rw[c4.out]
          unfold QjE at h1 ⊢
          rw[List.all_append,h1]
          simp[e4.out.2]
     ·have b1:j=es.length:=by omega
      subst b1
      have u:=W.out
      rw[List.take_length] at u
      have f7:=Qhh enc es
      have a8:=u.1
      rw[<-a8] at f7
      have c8:=Zh u.2
      have f6:=Zh a8
      clear W u a8
      go_wp2_with fail
      go_loopg [78,9] es.length (fun k f4 q9 wr=>Qsz b (BY+S) es w k f4 q9 wr)
      case atStart=>exact⟨0,0,rfl,by simp,Zh ⟨by simp[Qgs],by simp⟩,by omega,l,by omega⟩
      case round=>
       obtain⟨j,R,rfl,rfl,W,i7,r,i6⟩:=hrel
       obtain⟨w3,a5⟩:∃x,x=wr:=⟨_,rfl⟩
       subst a5
       obtain⟨hR,i9⟩:=W.out
       by_cases hlt4:j<m
       ·obtain⟨eb,eo,ed,rfl,d,d7,z0,z1,z2⟩:=(HE.out.below r).at_ hlt4
        have n:=List.mem_of_getElem? d
        have a3:=Qda es 0 b.length L.out (Int.le_refl _) ed n
        have e3:=QdZ es j ed d
        have b0:=Qno b (es.take j) ed
        rw[<-e3,<-hR] at b0
        have b8:=Zh b0
        obtain⟨ef,et,eA,en,ec,eput⟩:=ed
        dsimp only at z0 z1 z2 a3
        rw[I.out] at a3
        have s:=Qa (o:=.cells #[.int .i64 ef,.int .i64 et,.slice eA en ec] 89) r
        have O:=Blk.new w3 89 #[.int .i64 ef,.int .i64 et,.slice eA en ec]
        clear W e3 d n b0 hR
        by_cases hft:ef<et
        ·have q1:(ef<et)=True:=by simpa using hft
         have X:=fun(w':World) (T:ZB w w')=>c6.out et w' T (by omega) (by omega)
         have U:=fun(w':World) (T:ZB w w')=>c6.out ef w' T (by omega) (by omega)
         have y:QnB b ⟨ef,et,eA,en,ec,eput⟩=(Qi (b.take et.toNat)).bytes-(Qi (b.take ef.toNat)).bytes:=by unfold QnB;rw[if_pos hft]
         have a6 : ∀x:Int,0<=(Qi (b.take x.toNat)).bytes/\(Qi (b.take x.toNat)).bytes<=1073741824:=by
          intro x
          have h1:=Qd2 HH.out.ok
          have h2:=Qm ((Qai enc t.list).take x.toNat)
          have h3:=Qm ((Qai enc t.list).drop x.toNat)
          have h4:((QC enc t.list).map Prod.snd).sum=(((QC enc t.list).take x.toNat).map Prod.snd).sum+(((QC enc t.list).drop x.toNat).map Prod.snd).sum:=by
           rw[<-List.sum_append,<-List.map_append,List.take_append_drop]
          rw[g0.out] at h1 h2 h3 h4
          obtain⟨⟨_,_,h5,_⟩,_,h6⟩:=h2
          obtain⟨⟨_,_,h7,_⟩,_,h8⟩:=h3
          omega
         have a1:=a6 et
         have a0:=a6 ef
         obtain⟨B,C⟩:=ZN (Qi (b.take et.toNat))
         obtain⟨J,d1⟩:=ZN (Qi (b.take ef.toNat))
         rw[C] at X y a1
         rw[d1] at U y a0
         have M:=Zh y
         have k1:=QlY B.atoms B.bytes B.breaks B.lf B.cr
         have k2:=QlY J.atoms J.bytes J.breaks J.lf J.cr
         unfold Sums.cells at X U
         have d6:=Zh X
         have c9:=Zh U
         obtain⟨B1,c3⟩:=ZN (B.bytes)
         obtain⟨B2,c7⟩:=ZN (J.bytes)
         rw[c3] at d6 M a1 k1
         rw[c7] at c9 M a0 k2
         have e8:IntKind.i64.wrap (B1-B2)=B1-B2:=IntWalk.i64_in _ (by omega)
         have e9:IntKind.i64.wrap (BY+S-R-(B1-B2))=BY+S-R-(B1-B2):=IntWalk.i64_in _ (by omega)
         clear X U y C d1 a6 hft c3 c7
         go_upto_region 28 with fail
         obtain⟨w4,c0⟩:=ZN (w3.alloc (.cells #[.int .i64 ef,.int .i64 et,.slice eA en ec] 89))
         rw[c0] at s O ⊢
         clear c0
         have d5 : ∀w',ZB w4 w'->w'.cell? ⟨w3.heap.size,0,none⟩=some (.int .i64 ef)/\w'.cell? ⟨w3.heap.size,1,none⟩=some (.int .i64 et):=fun w' T=>⟨(O.below T).cell 0,(O.below T).cell 1⟩
         have b3:=Zh d5
         clear d5 O
         refine Qv (fun w'=>ZB w4 w') (by kernel_rfl) (by kernel_rfl) (Below.drew (Below.refl _ _)) ?_
         repeat ((first
          |(refine Q9 (v:=?_) (by rfl) (fun w6 hSw=>?_) ?_;rotate_left;(·(obtain⟨y0,y1⟩:=b3.out _ hSw;go_simp;try with_reducible rfl)))
          |refine Qaw (by rfl) ?_
          |(refine QO (f:=?_) (args:=?_) (v:=.agg #[.int .i64 B.atoms,.int .i64 B1,.int .i64 B.breaks,.bool B.lf,.bool B.cr]) (by rfl) (fun w6 hSw=>?_) (fun w6 hSw=>?_) ?_;rotate_left 2;(·(obtain⟨y0,y1⟩:=b3.out _ hSw;go_simp;first|done|(constructor<;>with_reducible rfl)|with_reducible rfl));(·((with_reducible refine(d6.out _ (Qf s hSw)).mono ?_);rintro e w5 ⟨rfl,P⟩;exact⟨rfl,Qf hSw P⟩)))
          |(refine QO (f:=?_) (args:=?_) (v:=.agg #[.int .i64 J.atoms,.int .i64 B2,.int .i64 J.breaks,.bool J.lf,.bool J.cr]) (by rfl) (fun w6 hSw=>?_) (fun w6 hSw=>?_) ?_;rotate_left 2;(·(obtain⟨y0,y1⟩:=b3.out _ hSw;go_simp;first|done|(constructor<;>with_reducible rfl)|with_reducible rfl));(·((with_reducible refine(c9.out _ (Qf s hSw)).mono ?_);rintro e w5 ⟨rfl,P⟩;exact⟨rfl,Qf hSw P⟩))));(try simp only[Act.put,pA,pB,pC]))
         refine Qav ?_
         intro w5 d2
         have P:=Qf s d2
         clear d2 s
         go_wp2_with fail
         go_roundg (es.length-(j+1))
         case measure=>omega
         case rel=>
          exact⟨j+1,R+(B1-B2),by go_num,by rw[Int.sub_sub],Zh ⟨by rw[b8.out,M.out],by omega⟩,by omega,P,by omega⟩
        ·have q1:(ef<et)=False:=by simpa using hft
         have y:QnB b ⟨ef,et,eA,en,ec,eput⟩=0:=by unfold QnB;rw[if_neg hft]
         have M:=Zh y
         clear y hft O
         go_wp2_with fail
         go_roundg (es.length-(j+1))
         case measure=>omega
         case rel=>
          exact⟨j+1,R,by go_num,rfl,Zh ⟨by rw[b8.out,M.out,Int.add_zero],by omega⟩,by omega,s,by omega⟩
       ·have b1:j=es.length:=by omega
        subst b1
        rw[List.take_length] at hR
        have c1:=(HH.out.below r).blk.cell 1
        simp at c1
        have hv:V=if lim<BY+S-R then 50 else 0:=by
         rw[<-HV.out,L.out,c8.out,g7.out,f6.out,hR]
         simp
        have G:=Zh hv
        clear W hR hv
        by_cases hl:lim<BY+S-R
        ·have q1:(lim<BY+S-R)=True:=eq_true hl
         rw[if_pos hl] at G
         clear hl
         go_wp2_with fail
         go_ret
         exact⟨QaB G.out.symm,r⟩
        ·have q1:(lim<BY+S-R)=False:=eq_false hl
         rw[if_neg hl] at G
         clear hl
         go_wp2_with fail
         go_ret
         exact⟨QaB G.out.symm,r⟩
def ed1 {α : Type}(f:Int -> α)(e:Ed)(l:List α):List α := l.take e.f.toNat++e.put.map f++l.drop e.t.toNat
def edL {α : Type}(f:Int -> α)(es:List Ed)(l:List α):List α := es.foldr (ed1 f) l
def edD (enc:Int):List Ed->List (Int × Int)->List (Int × Int):=edL (fun x=>(x,szA enc x))
def edA:List Ed->List (Int × Int)->List (Int × Int):=edL (fun x=>(x,-1))
theorem QgX {α : Type}(f:Int -> α)(e:Ed)(es:List Ed)(l:List α):edL f (e::es) l=ed1 f e (edL f es l):=rfl
theorem Qkz {α : Type}(f:Int -> α) : ∀(es:List Ed) (a:Int) (l:List α),Qdw a l.length es=true->0<=a->a<=l.length->(edL f es l).take a.toNat=l.take a.toNat:=by
 intro es
 induction es with
 |nil=>intro a l _ _ _;rfl
 |cons e r ih=>
  intro a l h b h1
  have hm:=Qda (e::r) a l.length h b e List.mem_cons_self
  unfold Qdw at h
  split at h
  ·cases h
  ·have c:=ih e.t l h (by omega) (by omega)
   rw[QgX]
   unfold ed1
   have h2:(edL f r l).take e.f.toNat=l.take e.f.toNat:=by
    have:=congrArg (List.take e.f.toNat) c
    rw[List.take_take,List.take_take,Nat.min_eq_left (by omega)] at this
    exact this
   rw[h2,List.append_assoc,List.take_append_of_le_length (by rw[List.length_take];omega),List.take_take,Nat.min_eq_left (by omega)]
theorem Qrg {α : Type}(f:Int -> α)(es:List Ed)(a:Int)(l:List α)(h:Qdw a l.length es=true)(b:0<=a)(h1:a<=l.length):a<=(edL f es l).length:=by
 have:=congrArg List.length (Qkz f es a l h b h1)
 rw[List.length_take,List.length_take] at this
 omega
theorem Qj7 {α : Type}(f:Int -> α)(e:Ed)(l:List α)(a:0<=e.f)(h:e.f=e.t)(hp:e.put=[]):ed1 f e l=l:=by
 unfold ed1
 rw[hp,<-h,List.map_nil,List.append_nil,List.take_append_drop]
def szS (l:List (Int × Int)):Int:=(l.map Prod.snd).sum
theorem Qgz (a b:List (Int × Int)):szS (a++b)=szS a+szS b:=by unfold szS;rw[List.map_append,List.sum_append]
theorem Qfr (l:List (Int × Int))(k:Nat):szS l=szS (l.take k)+szS (l.drop k):=by rw[<-Qgz,List.take_append_drop]
theorem QmZ {l:List (Int × Int)}(h:PosD l):0<=szS l:=by
 have h1:=Qm h
 obtain⟨⟨_,_,b,_⟩,_,a⟩:=h1
 unfold szS
 omega
theorem Qe2 {l:List (Int × Int)}(h:PosD l)(a b:Nat)(c:a<=b):szS (l.take a)<=szS (l.take b):=by
 have e:(l.take b).take a=l.take a:=by rw[List.take_take,Nat.min_eq_left c]
 have:=Qfr (l.take b) a
 rw[e] at this
 have h2:=QmZ ((h.take b).drop a)
 omega
theorem Qce {l:List (Int × Int)}(h:PosD l)(k:Nat):(Qi (l.take k)).bytes=szS (l.take k):=(Qm (h.take k)).2.2
theorem Qi0 {l:List (Int × Int)}(h:PosD l)(e:Ed)(a:e.f<=e.t):QnB l e=szS (l.take e.t.toNat)-szS (l.take e.f.toNat):=by
 unfold QnB
 split
 ·rw[Qce h,Qce h]
 ·have:e.f=e.t:=by omega
  rw[this]
  omega
theorem Qrb {l:List (Int × Int)}(hp:PosD l) : ∀(es:List Ed) (a:Int),Qdw a l.length es=true->0<=a->Qgs l es<=szS l-szS (l.take a.toNat):=by
 intro es
 induction es with
 |nil=>
  intro a _ _
  have:=Qfr l a.toNat
  have:=QmZ (hp.drop a.toNat)
  unfold Qgs
  simp
  omega
 |cons e r ih=>
  intro a h b
  have hm:=Qda (e::r) a l.length h b e List.mem_cons_self
  unfold Qdw at h
  split at h
  ·cases h
  ·have h1:=ih e.t h (by omega)
   have h2:=Qi0 hp e hm.2.1
   have c:=Qe2 hp a.toNat e.f.toNat (by omega)
   unfold Qgs at h1 ⊢
   rw[List.map_cons,List.sum_cons]
   omega
theorem Qnx (enc:Int)(xs:List Int):szS (xs.map fun x=>(x,szA enc x))=Qcc enc xs:=by
 unfold szS Qcc
 rw[List.map_map]
 rfl
theorem Qp8 {enc:Int}{l:List (Int × Int)}(hp:PosD l) : ∀(es:List Ed) (a:Int),Qdw a l.length es=true->0<=a->szS (edD enc es l)=szS l+QcK enc es-Qgs l es:=by
 intro es
 induction es with
 |nil=>intro a _ _;simp[edD,edL,QcK,Qgs]
 |cons e r ih=>
  intro a h d
  have hm:=Qda (e::r) a l.length h d e List.mem_cons_self
  unfold Qdw at h
  split at h
  ·cases h
  ·have h1:=ih e.t h (by omega)
   have h2:=Qi0 hp e hm.2.1
   have b:(edD enc r l).take e.t.toNat=l.take e.t.toNat:=Qkz _ r e.t l h (by omega) hm.2.2
   have i:(edD enc r l).take e.f.toNat=l.take e.f.toNat:=by
    have:=congrArg (List.take e.f.toNat) b
    rw[List.take_take,List.take_take,Nat.min_eq_left (by omega)] at this
    exact this
   have c:=Qfr (edD enc r l) e.t.toNat
   have g:edD enc (e::r) l=ed1 (fun x=>(x,szA enc x)) e (edD enc r l):=rfl
   rw[g]
   unfold ed1
   rw[Qgz,Qgz,Qnx,i]
   unfold QcK Qgs at h1 ⊢
   rw[List.map_cons,List.sum_cons,List.map_cons,List.sum_cons]
   rw[b] at c
   omega
theorem Qpz {enc:Int}{es:List Ed}(h:QjE enc es=true) : ∀e ∈ es,Fit enc e.put:=by
 intro e b x a
 unfold QjE at h
 have h1:=List.all_eq_true.1 h e b
 unfold Qqc at h1
 have h2:=List.all_eq_true.1 h1 x a
 have c:=Qmw enc x
 simp at h2
 omega
theorem Qm1 (enc:Int)(xs:List Int)(h:Fit enc xs):(xs.length:Int)<=Qcc enc xs:=by
 unfold Qcc
 induction xs with
 |nil=>simp
 |cons a xs ih=>
  have h1:=h a List.mem_cons_self
  have h2:=ih (fun x b=>h x (List.mem_cons_of_mem _ b))
  simp only[List.map_cons,List.sum_cons,List.length_cons]
  omega
theorem QpV (enc:Int)(es:List Ed) : ∀e ∈ es,Qcc enc e.put<=QcK enc es:=by
 induction es with
 |nil=>intro e a;cases a
 |cons x r ih=>
  intro e a
  have h1:=Qge enc x.put
  have h2:=Qhh enc r
  have b:QcK enc (x::r)=Qcc enc x.put+QcK enc r:=by unfold QcK;simp
  rcases List.mem_cons.1 a with rfl|a
  ·omega
  ·have:=ih e a;omega
theorem Qmo : ∀(es:List Ed) (a size:Int) (i:Nat) (e:Ed),Qdw a size es=true->es[i]? = some e->Qdw e.t size (es.drop (i+1))=true:=by
 intro es
 induction es with
 |nil=>intro _ _ i e _ h;simp at h
 |cons x r ih=>
  intro a size i e h b
  unfold Qdw at h
  split at h
  ·cases h
  ·cases i with
   |zero=>
    simp at b
    subst b
    exact h
   |succ i=>exact ih x.t size i e h (by simpa using b)
theorem Qrh {l:List (Int × Int)}(hp:PosD l) : ∀(es:List Ed) (a:Int),Qdw a l.length es=true->0<=a->0<=Qgs l es:=by
 intro es
 induction es with
 |nil=>intro a _ _;simp[Qgs]
 |cons e r ih=>
  intro a h b
  have hm:=Qda (e::r) a l.length h b e List.mem_cons_self
  unfold Qdw at h
  split at h
  ·cases h
  ·have h1:=ih e.t h (by omega)
   have h2:=Qi0 hp e hm.2.1
   have c:=Qe2 hp e.f.toNat e.t.toNat (by omega)
   unfold Qgs at h1 ⊢
   rw[List.map_cons,List.sum_cons]
   omega
theorem Qnz (enc:Int)(e:Ed)(es:List Ed):QcK enc (e::es)=Qcc enc e.put+QcK enc es:=by unfold QcK;simp
theorem Qhv (enc:Int)(es:List Ed)(k:Nat):QcK enc (es.drop k)<=QcK enc es:=by
 have e:QcK enc es=QcK enc (es.take k)+QcK enc (es.drop k):=by
  conv=>lhs;rw[<-List.take_append_drop k es]
  unfold QcK
  rw[List.map_append,List.sum_append]
 have:=(Qhh enc (es.take k)).1
 omega
theorem QqL (enc:Int)(xs:List Int)(h:Fit enc xs):((QF enc xs).length:Int)=Qcc enc xs:=by
 rw[QjP enc xs h]
 unfold Qat Qcc
 rw[List.map_map]
 rfl
theorem QiL {enc lim:Int}{a:List (Int × Int)}{es:List Ed}(hp:PosD a)(h:QbN enc lim a es=0)(g:lim<=65536)(k:szS a<=65536) :
  es.length<=70000/\Qdw 0 a.length es=true/\QjE enc es=true/\QcK enc es<=131072/\szS (edD enc es a)<=lim:=by
 unfold QbN at h
 split at h
 ·cases h
 ·rename_i h1
  split at h
  ·cases h
  ·rename_i h2
   split at h
   ·cases h
   ·rename_i e
    split at h
    ·cases h
    ·rename_i f
     have b:Qdw 0 a.length es=true:=by simpa using h2
     have c:QjE enc es=true:=by simpa using e
     have j:=Qp8 (enc:=enc) hp es 0 b (Int.le_refl _)
     have l:=Qrb hp es 0 b (Int.le_refl _)
     have d:(Qi a).bytes=szS a:=(Qm hp).2.2
     have i:szS (a.take (0:Int).toNat)=0:=by simp[szS]
     rw[d] at f
     exact⟨by omega,b,c,by omega,by omega⟩
def QsX (B g:Nat)(enc lim:Int)(n:Nat)(add:Value)(xs:List Value)(e ats:List (Int × Int))(es:List Ed)(w:World)(k:Nat)(d:Value)(wr:World):Prop:=
 ∃(j:Nat) (a:Value) (c:Nat) (b:List Value),d=.int .i64 ((j:Int)-1)/\Hid (ReplR g add a n c B xs b enc lim (edD enc (es.drop j) e) (edA (es.drop j) ats) w wr)/\(c:Int)<=n+QcK enc (es.drop j)/\j<=es.length/\j<=k
def QmB (B g:Nat)(enc lim:Int)(n:Nat)(add:Value)(xs:List Value)(d ats:List (Int × Int))(es:List Ed)(w w':World):Prop:=
 ∃(a:Value) (c:Nat) (b:List Value),ReplR g add a n c B xs b enc lim (edD enc es d) (edA es ats) w w'/\c<=n+131072
theorem ReplR.below {B g:Nat}{enc lim:Int}{n f:Nat}{add b:Value}{xs c:List Value}{i ats:List (Int × Int)}{w w1 e:World}(h:ReplR g add b n f B xs c enc lim i ats w w1)(j:w.ownsRow B 5 1 add n xs)(d:ZB w1 e):ReplR g add b n f B xs c enc lim i ats w e:=by
 obtain⟨t,a,h1,h2,l,k⟩:=h
 exact⟨t,a,h1.below d,h2.loc (S:=No) (Fr.of_below d) (fun _ m=>m.elim) j,l,k⟩
theorem QkB (B g:Nat)(enc lim:Int)(n:Nat)(add:Value)(t:Tr)(a:Option Addr)(xs:List Value)(D:Nat->Prop)(A:Option Addr)(m c:Nat)(es:List Ed)(w:World)(h:TextM w B g enc lim n add t a xs)(he:EdsAt w D A m es)(hD : ∀b,D b->b≠g/\add.ownBlock≠some b)(hp:Qf0 es<=268435456)
    (c3:lim<=65536) (b3:szS (QC enc t.list)<=65536) (hn:n+131072<=1073741824) :
    Calls Tryz.prog 134 #[.pointer (some ⟨g,0,none⟩),.slice A m c] w fun e w'=>e=.returned (.int .i64 (QbN enc lim (QC enc t.list) es))/\(QbN enc lim (QC enc t.list) es≠0->ZB w w') /\
      (QbN enc lim (QC enc t.list) es=0->QmB B g enc lim n add xs (QC enc t.list) (QaM enc t.list) es w w'):=by
  have hK:=QlA Any D g enc lim t a add A m c es w h.text he hp
  have b0:=he.len
  have o:=Qai enc t.list
  obtain⟨D',a6⟩:∃D':Nat->Prop,D'=fun b=>D b/\b<w.heap.size:=⟨_,rfl⟩
  have Y:EdsAt w D' A m es:=he.more (fun b h1 h2=>by rw[a6];exact⟨h1,h2⟩)
  have N : ∀b,D' b->b≠g/\add.ownBlock≠some b/\b<w.heap.size:=fun b H=>by
    rw[a6] at H
    exact⟨(hD b H.1).1,(hD b H.1).2,H.2⟩
  clear a6 hD he
  by_cases hz:QbN enc lim (QC enc t.list) es=0
  · obtain⟨o1,o2,o3,o4,o5⟩:=QiL o hz c3 b3
    rw[hz] at hK ⊢
    have hL:=h.text.decLen
    have P:(QaM enc t.list).length=(QC enc t.list).length:=QaQ enc _
    obtain⟨z,a9⟩:=ZN (QC enc t.list)
    obtain⟨ats,M⟩:=ZN (QaM enc t.list)
    rw[a9] at hL P o o2 o5 b3 ⊢
    rw[M] at P ⊢
    have HK:=Zh hK
    have HH:=Zh h
    have HE:=Zh Y
    have U:=Zh o2
    have b9:=Zh o3
    have d3:=Zh a9
    have c0:=Zh M
    have e5:=Zh P
    clear hK h Y o2 o3 a9 M hz P
    go_enter Tryz.func134,Tryz.ntmps134
    go_wp2_with fail
    refine(HK.out).mono ?_
    rintro e w1 ⟨rfl,R⟩
    have e1:IntKind.i64.wrap ((m:Int)-1)=(m:Int)-1:=IntWalk.i64_in _ (by omega)
    go_wp2_with fail
    go_loopg [6] es.length (fun k q6 wr=>QsX B g enc lim n add xs z ats es w k q6 wr)
    case atStart=>
      refine⟨m,add,n,xs,rfl,Zh ⟨t,a,HH.out.below R,TStep.below HH.out.row R,?_,?_⟩,?_,by omega,by omega⟩
      · rw[<-b0,List.drop_length]
        exact d3.out
      · rw[<-b0,List.drop_length]
        exact c0.out
      · rw[<-b0,List.drop_length]
        simp[QcK]
    case round=>
      obtain⟨j,l,T,s,rfl,hR,d7,hj,e4⟩:=hrel
      obtain⟨w2,d0⟩:∃x,x=wr:=⟨_,rfl⟩
      subst d0
      by_cases hj0:0<j
      · have q1:((0:Int)<=(j:Int)-1)=True:=by simp;omega
        obtain⟨i,rfl⟩:∃i,j=i+1:=⟨j-1,by omega⟩
        obtain⟨Z,a2,a7,Q,O,b5⟩:=hR.out
        have a8:=HE.out.fr Q.fr (fun b H _ hs=>hs.elim (fun e=>(N b H).1 e) (fun e=>(N b H).2.1 e))
        obtain⟨eb,eo,ed,rfl,v,e8,z0,z1,z2⟩:=a8.at_ (show i<m by omega)
        have r:=List.mem_of_getElem? v
        have L:=a8.put ed r
        have C:=Qda es 0 z.length U.out (Int.le_refl _) ed r
        have F:=Qpz b9.out ed r
        have d8:=QpV enc es ed r
        have d4:=Qm1 enc ed.put F
        have G:es.drop i=ed::es.drop (i+1):=by
          rw[List.getElem?_eq_getElem (by omega)] at v
          injection v with v
          rw[List.drop_eq_getElem_cons (by omega),v]
        have q:=Qmo es 0 z.length i ed U.out v
        have c1:=Qrg (fun x=>(x,szA enc x)) (es.drop (i+1)) ed.t z q (by omega) C.2.2
        have b4:=Qp8 (enc:=enc) o (es.drop (i+1)) ed.t q (by omega)
        have c8:=Qrh o (es.drop (i+1)) ed.t q (by omega)
        have d6:=Qhv enc es (i+1)
        have e3:=QqL enc ed.put F
        have J:=L.len
        have c4:=Qd2 a7.tree.pcs.ok
        rw[O] at c4
        have K:ZB w2 (w2.alloc (.cells #[.int .i64 ed.f,.int .i64 ed.t,.slice ed.A ed.n ed.c] 89)):=Qa (Below.refl _ _)
        have b7:=a7.below K
        have V : ∀b,D' b->b≠g/\l.ownBlock≠some b:=fun b H=>⟨(N b H).1,fun hh=>by
          rcases Q.own b hh with h1|h1
          · exact(N b H).2.1 h1
          · have:=(N b H).2.2;omega⟩
        have b2:ed.t<=((QC enc Z.list).length:Int):=by rw[O];exact c1
        have a5:szS (edD enc (es.drop (i+1)) z)=((edD enc (es.drop (i+1)) z).map Prod.snd).sum:=rfl
        have c7:Qbl Z.list<=196608:=by
          have e0:edL (fun x=>(x,szA enc x)) (es.drop (i+1)) z=edD enc (es.drop (i+1)) z:=rfl
          omega
        have d9:QcK enc (es.drop i)=Qcc enc ed.put+QcK enc (es.drop (i+1)):=by rw[G,Qnz]
        have b6:=Qhv enc es i
        have a0:=QoL B g enc lim T l Z a2 s ed.f ed.t ed.put D' ed.A ed.n ed.c _ b7 (by omega) C.2.1 b2 (Reads.below L K) V F (by omega) (by omega) (by omega)
        have y : ∀w4 d,ReplR g l d T (T+(QF enc ed.put).length) B s (s++(QF enc ed.put).map (Value.int .u8)) enc lim ((QC enc Z.list).take ed.f.toNat++Qat enc ed.put++(QC enc Z.list).drop ed.t.toNat) ((QaM enc Z.list).take ed.f.toNat++ed.put.map (fun x=>(x,-1))++(QaM enc Z.list).drop ed.t.toNat) (w2.alloc (.cells #[.int .i64 ed.f,.int .i64 ed.t,.slice ed.A ed.n ed.c] 89)) w4 ->
            ReplR g add d n (T+(QF enc ed.put).length) B xs (s++(QF enc ed.put).map (Value.int .u8)) enc lim (edD enc (es.drop i) z) (edA (es.drop i) ats) w w4:=by
          rintro w4 d ⟨t4,a4,r1,r2,r3,r4⟩
          refine⟨t4,a4,r1,(Q.loc (S:=No) (Fr.of_below K) (fun _ hs=>hs.elim) HH.out.row).trans r2 HH.out.row HH.out.ne,?_,?_⟩
          · rw[r3,O,G]
            rfl
          · rw[r4,b5,G]
            rfl
        have u:ed.f=ed.t->ed.put=[]->ReplR g add l n T B xs s enc lim (edD enc (es.drop i) z) (edA (es.drop i) ats) w (w2.alloc (.cells #[.int .i64 ed.f,.int .i64 ed.t,.slice ed.A ed.n ed.c] 89)):=by
          intro h1 h2
          have h3:=hR.out.below HH.out.row K
          have e1:edD enc (es.drop i) z=edD enc (es.drop (i+1)) z:=by rw[G];exact Qj7 _ ed _ (by omega) h1 h2
          have e2:edA (es.drop i) ats=edA (es.drop (i+1)) ats:=by rw[G];exact Qj7 _ ed _ (by omega) h1 h2
          rw[e1,e2]
          exact h3
        have d1:0<=Qcc enc ed.put:=(Qge enc ed.put).1
        have a3:((T+(QF enc ed.put).length:Nat):Int)<=n+QcK enc (es.drop i):=by omega
        have W:(T:Int)<=n+QcK enc (es.drop i):=by omega
        have b1:ed.put.length=ed.n:=J
        have p:ed.n=0->ed.put=[]:=fun h=>List.eq_nil_of_length_eq_zero (by omega)
        have c9:=C.2.1
        have e6:(((i+1:Nat):Int)-1)=(i:Int):=by omega
        have e7:IntKind.i64.wrap ((i:Int)-1)=(i:Int)-1:=IntWalk.i64_in _ (by omega)
        have q0:((0:Int)<=(i:Int))=True:=by simp
        obtain⟨ef,et,eA,en,ec,eput⟩:=ed
        dsimp only at z0 z1 z2 a0 y u a3 c9 p
        rw[e6]
        have a1:=Zh a0
        have HJ:=Zh y
        have c2:=Zh u
        have c6:=Zh a3
        have c5:=Zh W
        have d5:=Zh p
        clear a0 y u a3 W p G v r L F c1 b4 c8 d6 e3 c4 b7 V b2 a5 d9 d1 e6 q1 hR a7 Q O b5 a8 q b1 J C c7 d8 d4 K b6
        by_cases hc1:ef<et
        · have q1:(ef<et)=True:=eq_true hc1
          clear hc1
          go_wp2_with fail
          refine(a1.out).mono ?_
          rintro e w4 ⟨rfl,d,I⟩
          have X:=Zh (HJ.out _ _ I)
          clear I
          go_wp2_with fail
          go_roundg i
          case measure=>omega
          case rel=>exact⟨i,d,_,_,rfl,X,c6.out,by omega,by omega⟩
        · have q1:(ef<et)=False:=eq_false hc1
          by_cases hc2:0<en
          · have q2:((0:Int)<(en:Int))=True:=by simp;omega
            have q3:(0<en)=True:=by simp;omega
            clear hc1 hc2
            go_wp2_with fail
            refine(a1.out).mono ?_
            rintro e w4 ⟨rfl,d,I⟩
            have X:=Zh (HJ.out _ _ I)
            clear I
            go_wp2_with fail
            go_roundg i
            case measure=>omega
            case rel=>exact⟨i,d,_,_,rfl,X,c6.out,by omega,by omega⟩
          · have q2:((0:Int)<(en:Int))=False:=by simp;omega
            have q3:(0<en)=False:=by simp;omega
            have d2:=Zh (c2.out (by omega) (d5.out (by omega)))
            clear hc1 hc2 a1 HJ c2
            go_wp2_with fail
            go_roundg i
            case measure=>omega
            case rel=>exact⟨i,l,T,s,rfl,d2,c5.out,by omega,by omega⟩
      · have b8:j=0:=by omega
        subst b8
        rw[List.drop_zero] at hR d7
        have hc:QmB B g enc lim n add xs z ats es w w2:=⟨l,T,s,hR.out,by omega⟩
        have HC:=Zh hc
        clear hc
        go_wp2_with fail
        go_ret
        exact⟨rfl,fun h=>absurd rfl h,fun _=>HC.out⟩
  · obtain⟨E,hE⟩:=ZN (QbN enc lim (QC enc t.list) es)
    rw[hE] at hK hz ⊢
    have q2:(E != 0)=true:=by rw[bne_iff_ne];exact hz
    have HK:=Zh hK
    have HZ:=Zh hz
    clear hK hE hz h Y
    go_enter Tryz.func134,Tryz.ntmps134
    go_wp2_with fail
    refine(HK.out).mono ?_
    rintro e w1 ⟨rfl,R⟩
    go_wp2_with fail
    go_ret
    exact⟨rfl,fun _=>R,fun h=>absurd h HZ.out⟩
theorem QeJ {P:Program}(w:World)(d:Nat)(t e:TypeId)(a:Addr)(i:TypeInfo)(h:P.underlying t=some (.pointer e))(b:P.info? e=some i)(c:i.size≠0) :
  (Op.equalIn (d+1) t (.pointer (some a)) (.pointer (some a))).run P w=.ok true w:=by
 simp[Op.equalIn,run_underlying h,sizeOf,typeInfo,b,c,sameAddr]
theorem QhU {P:Program}(w:World)(t e:TypeId)(a:Addr)(i:TypeInfo)(h:P.underlying t=some (.pointer e))(b:P.info? e=some i)(c:i.size≠0) :
  (binOp .neq t (.pointer (some a)) (.pointer (some a))).run P w=.ok (.bool false) w:=by
 have h1:(Op.equal t (.pointer (some a)) (.pointer (some a))).run P w=.ok true w:=QeJ w 9999 t e a i h b c
 simp only[binOp]
 simp[h1]
def SnapAt (w:World)(g:Nat)(add:Value)(n:Nat)(enc:Int)(s:Nat)(ats:List (Int × Int)):Prop:=
 ∃t a,Blk w s 226 #[.pointer (some ⟨g,0,none⟩),.pointer a]/\TreeIn w add n enc t a/\QaM enc t.list=ats/\szS (QC enc t.list)<=65536
theorem Qg5 (B g:Nat)(enc lim:Int)(n:Nat)(add:Value)(t:Tr)(a:Option Addr)(xs:List Value)(w:World)(h:TextM w B g enc lim n add t a xs)(c:szS (QC enc t.list)<=65536) :
  Calls Tryz.prog 125 #[.pointer (some ⟨g,0,none⟩)] w fun e w'=>∃s,e=.returned (.pointer (some ⟨s,0,none⟩))/\SnapAt w' g add n enc s (QaM enc t.list)/\w.heap.size<=s/\ZB w w':=by
 have c2:=h.blk.cell 2
 simp at c2
 have b:ZB w (w.alloc (.cells #[.pointer (some ⟨g,0,none⟩),.pointer a] 226)):=Qa (Below.refl _ _)
 have d:=Zh h
 have HS:=Zh c
 clear h c
 go_enter Tryz.func125,Tryz.ntmps125
 go_wp2_with fail
 go_ret
 exact⟨_,rfl,⟨t,a,Blk.new w _ _,(d.out.below b).tree,rfl,HS.out⟩,Nat.le_refl _,b⟩
theorem QoD:∃i,Tryz.prog.info? 104=some i/\True/\i.size=4/\True:=by
 have h:(Tryz.prog.info? 104).map (fun i=>i.size)=some 4:=by kernel_rfl
 obtain⟨i,b,a⟩:=Option.map_eq_some_iff.1 h
 exact⟨i,b,trivial,a,trivial⟩
theorem Qh6 (g s:Nat)(f:Array Value)(d:Option Addr)(w:World)(c:Blk w g 104 f)(h2:∃v,f[2]? = some v)(h:Blk w s 226 #[.pointer (some ⟨g,0,none⟩),.pointer d]) :
  Calls Tryz.prog 110 #[.pointer (some ⟨g,0,none⟩),.pointer (some ⟨s,0,none⟩)] w fun e w'=>e=.returned (.int .i64 0)/\w'=w.setCell ⟨g,2,none⟩ (.pointer d):=by
 obtain⟨v,h2⟩:=h2
 have c0:=h.cell 0
 have c1:=h.cell 1
 have c2:=c.cell 2
 have j:=c.frozen 2
 rw[h2] at c2
 simp at c0 c1
 obtain⟨ti,b,-,a,-⟩:=QoD
 have i:=fun(w:World)=>QhU w 33 104 ⟨g,0,none⟩ ti Tryz.underlying33 b (by rw[a];decide)
 go_enter Tryz.func110,Tryz.ntmps110
 go_wp2_with fail
 go_ret
 exact⟨rfl,rfl⟩
theorem Qc9 (d g:Nat)(f:Array Value)(D:Nat->Prop)(enc:Int)(b:List (Int × Int))(x:Int)(w:World)(h:Blk w d 97 f)(i:f[0]? = some (.pointer (some ⟨g,0,none⟩)))(j:TextAt w D g enc b) :
  Calls Tryz.prog 124 #[.pointer (some ⟨d,0,none⟩),.int .i64 x] w fun e w'=>e=.returned (.bool (decide (0<=x/\x<=(b.length:Int))))/\ZB w w':=by
 have c0:=h.cell 0
 rw[i] at c0
 have c:=QaS D g enc b w j
 have k:=Zh c
 clear c
 by_cases hx:0<=x
 ·have q:((0:Int)<=x)=True:=eq_true hx
  go_enter Tryz.func124,Tryz.ntmps124
  go_wp2_with fail
  refine(k.out).mono ?_
  rintro e w1 ⟨rfl,a⟩
  go_wp2_with fail
  go_ret
  refine⟨Qb3 ?_,a⟩
  simp[hx]
 ·have q:((0:Int)<=x)=False:=eq_false hx
  go_enter Tryz.func124,Tryz.ntmps124
  go_wp2_with fail
  go_ret
  refine⟨Qb3 ?_,Below.refl _ _⟩
  simp[hx]
theorem Qlu (a:Nat)(b:Array Value)(p:Option Addr)(w:World)(c:Blk w a 97 b)(f:b[6]? = some (.pointer p)) :
  Calls Tryz.prog 88 #[.pointer (some ⟨a,0,none⟩)] w fun e w'=>e=.returned (.bool p.isSome)/\w=w':=by
 have d:=c.cell 6
 rw[f] at d
 cases p with
 |none=>
  go_enter Tryz.func88,Tryz.ntmps88
  go_wp2_with fail
  go_ret
  exact⟨rfl,rfl⟩
 |some p=>
  go_enter Tryz.func88,Tryz.ntmps88
  go_wp2_with fail
  go_ret
  exact⟨rfl,rfl⟩
def RowT (w:World)(N:Nat)(T:TypeId)(size:Nat)(A:Option Addr)(n:Nat)(xs:List Value):Prop:=
 xs.length=n*size/\(0<n->∃b o a,A=some ⟨b,o,none⟩/\b<N/\Blk w b T a/\∀j u,xs[j]? = some u->a[o+j]? = some u)
def KeepTy (N:Nat)(T:TypeId)(w w':World):Prop:=∀b a,b<N->Blk w b T a->Blk w' b T a
section
variable {w w' w'':World} {N N' size n:Nat} {T:TypeId} {A:Option Addr} {xs:List Value}
theorem RowT.keep (h:RowT w N T size A n xs)(i:KeepTy N T w w'):RowT w' N T size A n xs:=by
 refine⟨h.1,fun hn=>?_⟩
 obtain⟨b,o,c,e,a,f,d⟩:=h.2 hn
 exact⟨b,o,c,e,a,i b c a f,d⟩
theorem RowT.mono (h:RowT w N T size A n xs)(i:N<=N'):RowT w N' T size A n xs:=by
 refine⟨h.1,fun hn=>?_⟩
 obtain⟨b,o,d,e,a,f,c⟩:=h.2 hn
 exact⟨b,o,d,e,Nat.lt_of_lt_of_le a i,f,c⟩
theorem RowT.of_own {B c:Nat}(h:w.ownsRow B T size (.slice A n c) n xs)(i:w.heap.size<=N):RowT w N T size A n xs:=by
 refine⟨h.1,fun hn=>?_⟩
 rcases h.2 with ⟨_,k⟩|⟨g,cap,cur,e,_,d,_,_,_,f⟩
 ·omega
 ·injection e with e1 e2 e3
  subst e1
  have b:Blk w g T cur:=d
  refine⟨g,0,cur,rfl,Nat.lt_of_lt_of_le b.lt i,b,fun j u a=>?_⟩
  rw[<-f,List.getElem?_take] at a
  split at a
  ·rw[Nat.zero_add]
   simpa using a
  ·cases a
theorem KeepTy.trans (h:KeepTy N T w w')(k:KeepTy N T w' w''):KeepTy N T w w'':=fun b c a d=>k b c a (h b c a d)
theorem KeepTy.below (h:ZB w w'):KeepTy N T w w':=fun _ _ _ a=>a.below h
theorem KeepTy.fr {S:Nat->Prop}(e:Fr S w w')(f : ∀b a,b<N->S b->¬Blk w b T a):KeepTy N T w w':=fun b a d c=>c.fr e (fun h=>f b a d h c)
end
structure Mv where
 f:Int
 t:Int
 n:Int
def Mv.cells (e:Mv):Array Value := #[.int .i64 e.f,.int .i64 e.t,.int .i64 e.n]
def Qck (l:List Mv):List Value:=l.flatMap fun e=>e.cells.toList
structure Gr where
 before:List (Int × Int)
 behind:List (Int × Int)
 bgn:Int
 fin:Int
 moves:List (List Mv)
 old:Int
 fresh:Int
def MvRows (w:World)(N:Nat)(vs:List Value)(mvs:List (List Mv)):Prop:=vs.length=mvs.length/\∀(i:Nat) (v:Value) (mv:List Mv),vs[i]? = some v->mvs[i]? = some mv->∃A m c,v=Value.slice A m c/\m<=c/\RowT w N 207 3 A m (Qck mv)/\mv.length=m
structure GKeep (N:Nat) (add add':Value) (n n':Nat) (enc:Int) (w w':World):Prop where
 gr:KeepTy N 182 w w'
 sn:KeepTy N 226 w w'
 rows:KeepTy N 184 w w'
 mvs:KeepTy N 207 w w'
 tree : ∀t a,TreeIn w add n enc t a->TreeIn w' add' n' enc t a
def SnapB (w:World)(N g:Nat)(add:Value)(n:Nat)(enc:Int)(s:Nat)(ats:List (Int × Int)):Prop:=s<N/\SnapAt w g add n enc s ats
def GrAt (w:World)(N g:Nat)(add:Value)(n:Nat)(enc:Int)(p:Nat)(G:Gr):Prop:=
 ∃a b A m c vs,p<N/\Blk w p 182 #[.pointer (some ⟨a,0,none⟩),.pointer (some ⟨b,0,none⟩),.int .i64 G.bgn,.int .i64 G.fin,.slice A m c,.int .i64 G.old,.int .i64 G.fresh] /\
  SnapB w N g add n enc a G.before/\SnapB w N g add n enc b G.behind/\RowT w N 184 1 A m vs/\m<=c/\MvRows w N vs G.moves/\m<=1073741824
section
variable {w w' w'':World} {N N' g n n' n'':Nat} {add add' add'':Value} {enc:Int}
theorem GKeep.below {B:Nat}{xs:List Value}{d:Array Value}(a:w.ownsRow B 5 1 add n xs)(b:Blk w g 104 d)(h:ZB w w'):GKeep N add add n n enc w w':=
 ⟨KeepTy.below h,KeepTy.below h,KeepTy.below h,KeepTy.below h,fun _ _ c=>c.step (g:=g) (TStep.below a h) a b⟩
theorem GKeep.trans (h:GKeep N add add' n n' enc w w')(k:GKeep N add' add'' n' n'' enc w' w''):GKeep N add add'' n n'' enc w w'':=
 ⟨h.gr.trans k.gr,h.sn.trans k.sn,h.rows.trans k.rows,h.mvs.trans k.mvs,fun t a b=>k.tree t a (h.tree t a b)⟩
theorem GKeep.step {B:Nat}{xs:List Value}{e:Array Value}(a:TStep g add add' n n' w w')(f:w.ownsRow B 5 1 add n xs)(d:Blk w g 104 e):GKeep N add add' n n' enc w w':=by
 have key : ∀ T : TypeId, T ≠ 104 -> T ≠ 5 -> KeepTy N T w w' := fun T h1 h2 => KeepTy.fr a.fr (fun b e _ a c=>by
  rcases a with rfl|a
  ·exact Blk.ne_ c d h1 rfl
  ·exact Qk f c (Ne.symm h2) a)
 exact⟨key _ (by decide) (by decide),key _ (by decide) (by decide),key _ (by decide) (by decide),key _ (by decide) (by decide),fun _ _ h=>h.step a f d⟩
def Far2 (w:World)(N k:Nat):Prop:=Far w k/\∀T a,Blk w k T a->(T≠182/\T≠226/\T≠184/\T≠207)\/N<=k
theorem GKeep.far {S:Nat->Prop}(c:Fr S w w')(d : ∀k,k<w.heap.size->S k->Far2 w N k):GKeep N add add n n enc w w':=by
 have key : ∀ T : TypeId, (T = 182 \/ T = 226 \/ T = 184 \/ T = 207) -> KeepTy N T w w' := fun T e => KeepTy.fr c (fun b j m l a=>by
  rcases(d b a.lt l).2 T j a with ⟨h1,h2,i,h⟩|o
  ·rcases e with rfl|rfl|rfl|rfl
   ·exact h1 rfl
   ·exact h2 rfl
   ·exact i rfl
   ·exact h rfl
  ·omega)
 exact⟨key _ (.inl rfl),key _ (.inr (.inl rfl)),key _ (.inr (.inr (.inl rfl))),key _ (.inr (.inr (.inr rfl))),fun _ _ f=>f.far c (fun k h1 h2=>(d k h1 h2).1)⟩
theorem Far2.blk {T:TypeId}{d:Array Value}{k:Nat}(h:Blk w k T d)(h1:(T≠104/\T≠147/\T≠5)/\T≠182/\T≠226/\T≠184/\T≠207):Far2 w N k:=
 ⟨Far.blk h h1.1, fun c b a => .inl (by
  have:c=T:=by
   unfold Blk at h a
   rw[h] at a
   injection a with a
   injection a with _ a
   exact a.symm
  rw[this]
  exact h1.2)⟩
theorem Far2.new {T:TypeId}{a:Array Value}{k:Nat}(h:Blk w k T a)(h1:T≠104/\T≠147/\T≠5)(b:N<=k):Far2 w N k:=⟨Far.blk h h1,fun _ _ _=>.inr b⟩
theorem SnapB.keep {s:Nat}{ats:List (Int × Int)}(h:SnapB w N g add n enc s ats)(c:GKeep N add add' n n' enc w w'):SnapB w' N g add' n' enc s ats:=by
 obtain⟨b,t,a,h1,h2,d⟩:=h
 exact⟨b,t,a,c.sn s _ b h1,c.tree t a h2,d⟩
theorem MvRows.keep {vs:List Value}{mvs:List (List Mv)}(h:MvRows w N vs mvs)(d:KeepTy N 207 w w'):MvRows w' N vs mvs:=by
 refine⟨h.1,fun i v mv b hm=>?_⟩
 obtain⟨A,m,c,e,f,j,a⟩:=h.2 i v mv b hm
 exact⟨A,m,c,e,f,j.keep d,a⟩
theorem GrAt.keep {p:Nat}{G:Gr}(h:GrAt w N g add n enc p G)(a:GKeep N add add' n n' enc w w'):GrAt w' N g add' n' enc p G:=by
 obtain⟨d,i,A,m,c,vs,hp,h1,h2,f,k,e,j,b⟩:=h
 exact⟨d,i,A,m,c,vs,hp,a.gr p _ hp h1,h2.keep a,f.keep a,k.keep a.rows,e,j.keep a.mvs,b⟩
theorem SnapB.mono {s:Nat}{ats:List (Int × Int)}(h:SnapB w N g add n enc s ats)(a:N<=N'):SnapB w N' g add n enc s ats:=⟨Nat.lt_of_lt_of_le h.1 a,h.2⟩
theorem MvRows.mono {vs:List Value}{mvs:List (List Mv)}(h:MvRows w N vs mvs)(j:N<=N'):MvRows w N' vs mvs:=by
 refine⟨h.1,fun i v mv b hm=>?_⟩
 obtain⟨A,m,c,e,d,f,a⟩:=h.2 i v mv b hm
 exact⟨A,m,c,e,d,f.mono j,a⟩
theorem GrAt.mono {p:Nat}{G:Gr}(h:GrAt w N g add n enc p G)(a:N<=N'):GrAt w N' g add n enc p G:=by
 obtain⟨d,i,A,m,c,vs,hp,h1,h2,f,k,e,j,b⟩:=h
 exact⟨d,i,A,m,c,vs,Nat.lt_of_lt_of_le hp a,h1,h2.mono a,f.mono a,k.mono a,e,j.mono a,b⟩
end
def StackAt (w:World)(N B g:Nat)(add:Value)(n:Nat)(enc:Int)(v:Value)(Gs:List Gr):Prop:=
 ∃ps:List Nat,w.ownsRow B 177 1 v ps.length (ps.map fun p=>Value.pointer (some ⟨p,0,none⟩))/\ps.length=Gs.length/\(∀(i p:Nat) (G:Gr),ps[i]? = some p->Gs[i]? = some G->GrAt w N g add n enc p G)/\Gs.length<=1048576
theorem StackAt.keep {w w':World}{N N' B g n n':Nat}{add add' v:Value}{enc:Int}{Gs:List Gr}(h:StackAt w N B g add n enc v Gs)(a:GKeep N add add' n n' enc w w')(c:N<=N')
  (b : ∀m xs,w.ownsRow B 177 1 v m xs->w'.ownsRow B 177 1 v m xs):StackAt w' N' B g add' n' enc v Gs:=by
 obtain⟨ps,h1,h2,f,e⟩:=h
 exact⟨ps,b _ _ h1,h2,fun i p G hp d=>((f i p G hp d).keep a).mono c,e⟩
theorem QaD {w w':World}{B e size n:Nat}{S:Nat->Prop}{v:Value}{xs:List Value}(h:w.ownsRow B e size v n xs)(d:Fr S w w')(hn : ∀b f,S b->¬Blk w b e f):w'.ownsRow B e size v n xs:=
 QeE h d (fun b a i=>by
  rcases h.2 with ⟨rfl,_⟩|⟨r,c,cur,rfl,_,h2,_⟩
  ·cases a
  ·have:r=b:=by simpa[Value.ownBlock] using a
   subst this
   exact hn r cur i h2)
theorem TextM.far {w w':World}{B g n:Nat}{enc lim:Int}{add:Value}{t:Tr}{a:Option Addr}{xs:List Value}{S:Nat->Prop}(h:TextM w B g enc lim n add t a xs)(c:Fr S w w')(d : ∀k,k<w.heap.size->S k->Far w k):TextM w' B g enc lim n add t a xs:=
 ⟨h.blk.fr c (fun e=>(d g h.blk.lt e).ne (.inl rfl) h.blk rfl),QaD h.row c (fun b i e f=>(d b f.lt e).ne (.inr (.inr rfl)) f rfl),h.enc4,Nat.le_trans h.base c.size,h.tree.far c d⟩
def MapE (w:World)(mb r:Nat):Prop:=EmptyMap w r/\r≠mb/\mb<w.heap.size
section
variable {w w':World} {mb r:Nat}
theorem MapE.lt (h:MapE w mb r):r<w.heap.size:=h.1.lt
theorem MapE.below (h:MapE w mb r)(a:ZB w w'):MapE w' mb r:=⟨h.1.below a,h.2.1,Nat.lt_of_lt_of_le h.2.2 a.size⟩
theorem MapE.fr {S:Nat->Prop}(h:MapE w mb r)(a:Fr S w w')(hn : ¬S r):MapE w' mb r:=⟨h.1.fr a hn,h.2.1,Nat.lt_of_lt_of_le h.2.2 a.size⟩
theorem MapE.alloc (h:MapE w mb r)(o:Obj):MapE (w.alloc o) mb r:=h.below (Qa (Below.refl _ _))
theorem MapE.far (h:MapE w mb r){p:Addr}(hp:r≠p.block)(u:Value):MapE (w.setCell p u) mb r:=⟨h.1.far hp u,h.2.1,by simpa[World.setCell] using h.2.2⟩
theorem MapE.ne_blk {g:Nat}{T:TypeId}{b:Array Value}(h:MapE w mb r)(a:Blk w g T b):r≠g:=h.1.ne_blk a
end
structure OpS where
 before:List (Int × Int)
 bgn:Int
 moves:List (List Mv)
 old:Int
 changed:Bool
def Qr1 (w:World)(N B g:Nat)(add:Value)(n:Nat)(enc:Int)(mb p:Nat)(o:OpS):Prop:=
 ∃s m vm vs,Blk w p 196 #[.pointer (some ⟨s,0,none⟩),.pointer none,.int .i64 o.bgn,.int .i64 0,vm,.int .i64 o.old,.int .i64 0,.map (some m),.slice none 0 0,.bool o.changed]/\MapE w mb m/\SnapB w N g add n enc s o.before /\
  w.ownsRow N 184 1 vm vs.length vs/\MvRows w w.heap.size vs o.moves/\o.moves.length<=1048576
structure BkS where
 ats:List (Int × Int)
 undo:List Gr
 redo:List Gr
 now:Option OpS
 state:Int
 saved:Int
 last:Int
 depth:Int
 mb:Nat:=0
structure BkAt (w:World) (N B gb g:Nat) (enc lim:Int) (n:Nat) (add:Value) (st:BkS) (t:Tr) (a:Option Addr) (xs:List Value) (m:Nat) (vu vr:Value) (now:Option Addr):Prop where
 blk:Blk w gb 97 #[.pointer (some ⟨g,0,none⟩),.int .i64 st.depth,vu,vr,.map (some m),.slice none 0 0,.pointer now,.int .i64 st.state,.int .i64 st.saved,.int .i64 st.last]
 text:TextM w B g enc lim n add t a xs
 ats:QaM enc t.list=st.ats
 sz:szS (QC enc t.list)<=65536
 lim0:lim<=65536
 map:MapE w st.mb m
 undo:StackAt w N B g add n enc vu st.undo
 redo:StackAt w N B g add n enc vr st.redo
 sep : ∀b,vu.ownBlock=some b->vr.ownBlock≠some b
 open_:match st.now with|none=>now=none|some o=>∃p,now=some ⟨p,0,none⟩/\Qr1 w N B g add n enc st.mb p o
 nle:N<=w.heap.size
 nums:0<=st.last/\st.last<=1073741824/\1<=st.depth/\st.depth<=200
 low:B<=gb/\B<=g/\B<=N/\∀p,now=some ⟨p,0,none⟩->B<=p
def Qd1 (T:TypeId):Prop:=T=104\/T=5\/T=97\/T=196\/T=184\/T=177
def BkFr (B:Nat)(w w':World):Prop:=Fr (fun b=>B<=b/\∃T a,Blk w b T a/\Qd1 T) w w'
theorem BkFr.refl (B:Nat)(w:World):BkFr B w w:=Fr.refl _ _
theorem BkFr.below {B:Nat}{w w':World}(h:ZB w w'):BkFr B w w':=Fr.of_below h
theorem BkFr.trans {B:Nat}{w w' w'':World}(h:BkFr B w w')(k:BkFr B w' w''):BkFr B w w'':=by
 refine⟨k.os.trans h.os,k.tape.trans h.tape,k.output.trans h.output,Nat.le_trans h.size k.size,fun i a hn=>?_⟩
 have h1:=h.block i a hn
 refine(k.block i (Nat.lt_of_lt_of_le a h.size) (fun e=>?_)).trans h1
 obtain⟨c,T,d,b,f⟩:=e
 exact hn ⟨c,T,d,h1.symm.trans b,f⟩
theorem BkFr.blk {B : Nat}{w w' : World}{b : Nat}{T : TypeId}{e : Array Value}(h : BkFr B w w')(c : Blk w b T e)(k : ¬ Qd1 T) : Blk w' b T e := c.fr h (fun j=>by
 obtain⟨-,i,f,a,d⟩:=j
 have:T=i:=by
  unfold Blk at c a
  rw[c] at a
  injection a with a
  injection a with _ a
 exact k (this▸d))
theorem BkFr.own {m : Nat}{w w' : World}{B e size n : Nat}{v : Value}{xs : List Value}(h : BkFr m w w')(j : w.ownsRow B e size v n xs)(f : ¬ Qd1 e) : w'.ownsRow B e size v n xs := QaD j h (fun b o l d=>by
 obtain⟨-,k,i,a,c⟩:=l
 have:e=k:=by
  unfold Blk at d a
  rw[d] at a
  injection a with a
  injection a with _ a
 exact f (this▸c))
theorem OwnB.low {w:World}{B e size n y:Nat}{v:Value}{xs:List Value}(h:OwnB v y)(b:w.ownsRow B e size v n xs):B<=y:=by
 rcases b.2 with ⟨a,_⟩|⟨r,c,cur,a,h1,_⟩
 ·unfold OwnB at h;rw[a] at h;cases h
 ·unfold OwnB at h
  rw[a] at h
  have:r=y:=by simpa[Value.ownBlock] using h
  omega
theorem BkFr.of_fr {B:Nat}{w w':World}{S:Nat->Prop}(h:Fr S w w')(a : ∀b,b<w.heap.size->S b->B<=b/\∃T c,Blk w b T c/\Qd1 T):BkFr B w w':=h.more a
theorem Qfq (w:World)(c m:Nat)(b:Array Value)(l:Value)(a:Blk w c 97 b)(f:b[4]? = some (.map (some m)))(d:b[5]? = some (.slice none 0 0))(hm:EmptyMap w m) :
  Calls Tryz.prog 111 #[.pointer (some ⟨c,0,none⟩),l] w fun e w'=>e=.returned (.tuple #[])/\ZB w w':=by
 have g:=a.cell 4
 rw[f] at g
 have i:=EmptyMap.range (t:=94) hm Tryz.underlying94
 have j:=EmptyMap.next hm 0
 have h:=(a.alloc (.mapIter (some m) 0 #[] 0)).cell 5
 rw[d] at h
 clear a f d
 go_enter Tryz.func111,Tryz.ntmps111
 go_wp2_with fail
 refine wp_loop_rounds 1 ?_
 rw[rounds_succ]
 go_wp2_with fail
 refine wp_loop_rounds 1 ?_
 rw[rounds_succ]
 go_wp2_with fail
 show bodyPost _ _ _ _ _ _
 refine bodyPost_end (results_none rfl _ _ _) rfl ?_
 exact⟨rfl,Qa (Below.refl _ _)⟩
theorem QqW {α : Type}(l:List α)(a b:Int)(c:0<=a)(h:a<=b)(h2:b<=l.length):((seg a b l).length:Int)=b-a:=by
 unfold seg
 rw[List.length_take,List.length_drop]
 omega
theorem Qd9 (a b:Int):a<b\/b<=a:=by omega
section
variable {ds:List (Int × Int)} (hp:PosD ds)
include hp in
theorem QqP {k p:Nat}(b:0<k)(c:k<=QaG ds)(a:isE (ds.map Prod.fst) p=true)(e:Qdk (ds.map Prod.fst) p=k):sk ds k=p:=by
 obtain⟨_,h2,d⟩:=Qeg hp b c
 rcases Nat.lt_trichotomy (sk ds k) p with h|h|h
 ·have:=Qel (ds.map Prod.fst) h a
  omega
 ·exact h
 ·have:=Qel (ds.map Prod.fst) h h2
  omega
end
def abE (e:Ed):Int × Int × List Int:=(e.f,e.t,e.put)
theorem Qq8 {ds:List (Int × Int)}(hp:PosD ds){i j:Nat}(h:i<j)(a:j<=QaG ds):sk ds i<sk ds j:=by
 induction j with
 |zero=>omega
 |succ j ih=>
  have h1:=Ql3 hp (k:=j) (by omega)
  rcases Nat.lt_or_ge i j with h2|h2
  ·have:=ih h2 (by omega)
   omega
  ·rw[show i=j by omega]
   exact h1
def lkI:List (Int × Value)->Int->Nat->Option (Nat × Value)
 | [],_,_=>none
 |(a,v)::r,k,i=>if k=a then some (i,v) else lkI r k (i+1)
def Qgg (l:List (Int × Value))(k:Int):Option Value:=(lkI l k 0).map Prod.snd
def Qf3 (k:Int)(v:Value):List (Int × Value)->List (Int × Value)
 | []=>[(k,v)]
 |(a,x)::r=>if k=a then (k,v)::r else (a,x)::Qf3 k v r
def QiC (k:Int):List (Int × Value)->List (Int × Value)
 | []=>[]
 |(a,x)::r=>if k=a then r else (a,x)::QiC k r
theorem QcW (k:Int) : ∀(l:List (Int × Value)) (i:Nat),lkI l k i=(lkI l k 0).map (fun p=>(p.1+i,p.2)):=by
 intro l
 induction l with
 |nil=>intro i;rfl
 |cons p r ih=>
  intro i
  obtain⟨a,v⟩:=p
  unfold lkI
  split
  ·simp
  ·rw[ih (i+1),ih 1]
   cases lkI r k 0 with
   |none=>rfl
   |some q=>simp;omega
theorem Qba (a:Int)(v:Value)(r:List (Int × Value))(k:Int):Qgg ((a,v)::r) k=if k=a then some v else Qgg r k:=by
 unfold Qgg
 rw[lkI]
 split
 ·rfl
 ·rw[QcW]
  cases lkI r k 0 with
  |none=>rfl
  |some q=>rfl
theorem QjS (k:Int)(v:Value)(b:Int) : ∀l:List (Int × Value),Qgg (Qf3 k v l) b=if b=k then some v else Qgg l b:=by
 intro l
 induction l with
 |nil=>unfold Qf3;rw[Qba]
 |cons p r ih=>
  obtain⟨a,x⟩:=p
  unfold Qf3
  split
  ·rename_i h
   subst h
   rw[Qba,Qba]
   split<;>rfl
  ·rename_i h
   rw[Qba,Qba,ih]
   by_cases h1:b=a
   ·rw[if_pos h1,if_pos h1,if_neg (by omega)]
   ·rw[if_neg h1,if_neg h1]
theorem QnI {l:List (Int × Value)}{k:Int}(h:k ∉ l.map Prod.fst):Qgg l k=none:=by
 induction l with
 |nil=>rfl
 |cons p r ih=>
  obtain⟨a,x⟩:=p
  rw[List.map_cons,List.mem_cons,not_or] at h
  rw[Qba,if_neg h.1,ih h.2]
theorem Qoo (k b:Int) : ∀l:List (Int × Value),(l.map Prod.fst).Nodup->Qgg (QiC k l) b=if b=k then none else Qgg l b:=by
 intro l
 induction l with
 |nil=>intro _;unfold QiC;split<;>rfl
 |cons p r ih=>
  obtain⟨a,x⟩:=p
  intro h
  rw[List.map_cons,List.nodup_cons] at h
  unfold QiC
  split
  ·rename_i h1
   subst h1
   by_cases h2:b=k
   ·rw[if_pos h2,h2]
    exact QnI h.1
   ·rw[if_neg h2,Qba,if_neg h2]
  ·rename_i h1
   rw[Qba,Qba,ih h.2]
   by_cases h2:b=a
   ·rw[if_pos h2,if_pos h2,if_neg (by omega)]
   ·rw[if_neg h2,if_neg h2]
theorem Qon (k:Int)(v:Value) : ∀l:List (Int × Value),∀x,x ∈ (Qf3 k v l).map Prod.fst↔x=k\/x ∈ l.map Prod.fst:=by
 intro l
 induction l with
 |nil=>intro x;simp[Qf3]
 |cons p r ih=>
  obtain⟨a,y⟩:=p
  intro x
  unfold Qf3
  split
  ·rename_i h
   subst h
   simp
  ·rw[List.map_cons,List.map_cons,List.mem_cons,List.mem_cons,ih x]
   constructor
   ·rintro(h|h|h)
    ·exact .inr (.inl h)
    ·exact .inl h
    ·exact .inr (.inr h)
   ·rintro(h|h|h)
    ·exact .inr (.inl h)
    ·exact .inl h
    ·exact .inr (.inr h)
theorem QhQ (k:Int)(v:Value) : ∀l:List (Int × Value),(l.map Prod.fst).Nodup->((Qf3 k v l).map Prod.fst).Nodup:=by
 intro l
 induction l with
 |nil=>intro _;simp[Qf3]
 |cons p r ih=>
  obtain⟨a,y⟩:=p
  intro h
  rw[List.map_cons,List.nodup_cons] at h
  unfold Qf3
  split
  ·rename_i h1
   subst h1
   rw[List.map_cons,List.nodup_cons]
   exact h
  ·rename_i h1
   rw[List.map_cons,List.nodup_cons]
   refine⟨fun h2=>?_,ih h.2⟩
   rcases(Qon k v r a).1 h2 with b|b
   ·exact h1 b.symm
   ·exact h.1 b
theorem Qpq (k:Int) : ∀l:List (Int × Value),∀x,x ∈ (QiC k l).map Prod.fst->x ∈ l.map Prod.fst:=by
 intro l
 induction l with
 |nil=>intro x h;exact h
 |cons p r ih=>
  obtain⟨a,y⟩:=p
  intro x h
  unfold QiC at h
  split at h
  ·exact List.mem_cons_of_mem _ h
  ·rw[List.map_cons,List.mem_cons] at h ⊢
   exact h.imp id (ih x)
theorem QmW (k:Int) : ∀l:List (Int × Value),(l.map Prod.fst).Nodup->((QiC k l).map Prod.fst).Nodup:=by
 intro l
 induction l with
 |nil=>intro h;exact h
 |cons p r ih=>
  obtain⟨a,y⟩:=p
  intro h
  rw[List.map_cons,List.nodup_cons] at h
  unfold QiC
  split
  ·exact h.2
  ·rw[List.map_cons,List.nodup_cons]
   exact⟨fun h2=>h.1 (Qpq k r a h2),ih h.2⟩
def Qfh (p:Int × Value):Value × Value:=(.int .i64 p.1,p.2)
def MapIs (w:World)(r:Nat)(l:List (Int × Value)):Prop:=∃(es:Array MapEntry) (clock:Nat),w.heap[r]? = some (.map es clock)/\es.toList.map (fun e=>(e.key,e.val))=l.map Qfh
theorem MapIs.of_empty {w:World}{r:Nat}(h:EmptyMap w r):MapIs w r []:=⟨#[],0,h,rfl⟩
theorem MapIs.lt {w:World}{r:Nat}{l:List (Int × Value)}(h:MapIs w r l):r<w.heap.size:=by
 obtain⟨_,_,h,_⟩:=h
 exact(Array.getElem?_eq_some_iff.1 h).1
theorem MapIs.fr {w w':World}{S:Nat->Prop}{r:Nat}{l:List (Int × Value)}(h:MapIs w r l)(b:Fr S w w')(hn : ¬S r):MapIs w' r l:=by
 have a:=h.lt
 obtain⟨es,c,h,d⟩:=h
 exact⟨es,c,(b.block r a hn).trans h,d⟩
theorem MapIs.below {w w':World}{r:Nat}{l:List (Int × Value)}(h:MapIs w r l)(a:ZB w w'):MapIs w' r l:=h.fr (S:=fun _=>False) (Fr.of_below a) (fun h=>h)
theorem MapIs.ne_blk {w:World}{r g:Nat}{T:TypeId}{b:Array Value}{l:List (Int × Value)}(h:MapIs w r l)(a:Blk w g T b):r≠g:=by
 obtain⟨es,c,h,_⟩:=h
 rintro rfl
 unfold Blk at a
 rw[h] at a
 cases a
section
variable {P:Program} {w:World} {r:Nat} {l:List (Int × Value)} {t kt et:TypeId} {kd:IntKind}
theorem Qjk (k:Int) : ∀(es:List MapEntry) (l:List (Int × Value)) (i:Nat),es.map (fun e=>(e.key,e.val))=l.map Qfh->Instr.findNow (.int kd) (.int .i64 k) es i=some (lkI l k i):=by
 intro es
 induction es with
 |nil=>
  intro l i h
  cases l with
  |nil=>rfl
  |cons p r=>cases h
 |cons e es ih=>
  intro l i h
  cases l with
  |nil=>cases h
  |cons p r=>
   obtain⟨a,v⟩:=p
   rw[List.map_cons,List.map_cons] at h
   injection h with h1 h2
   unfold Qfh at h1
   injection h1 with h3 h4
   unfold Instr.findNow lkI
   rw[h3]
   have b:Instr.sameNow (.int kd) (.int .i64 k) (.int .i64 a)=some (k==a):=rfl
   rw[b]
   by_cases hk:k=a
   ·subst hk
    simp[h4]
   ·have:(k==a)=false:=by rw[beq_eq_false_iff_ne];exact hk
    rw[this,if_neg hk]
    exact ih r (i+1) h2
theorem QcS (b:Bool)(n:Nat)(k:Int)(a:P.underlying kt=some (.int kd)):(Instr.checkKey b (n+1) kt (.int .i64 k)).run P w=.ok () w:=by
 simp[Instr.checkKey,run_underlying a]
theorem QdC {es:List MapEntry}(k:Int)(b:P.underlying kt=some (.int kd))(a:es.map (fun e=>(e.key,e.val))=l.map Qfh):(Instr.findKey kt (.int .i64 k) es).run P w=.ok (lkI l k 0) w:=by
 simp[Instr.findKey,run_underlying b,Qjk k es l 0 a]
theorem MapIs.lookup (h:MapIs w r l)(e:P.underlying t=some (.map kt et))(f:P.underlying kt=some (.int kd))(k:Int){z:Value}(g:(zeroValue et).run P w=.ok z w) :
  (Instr.lookup t (.map (some r)) (.int .i64 k) true).run P w=.ok (.tuple #[(Qgg l k).getD z,.bool (Qgg l k).isSome]) w:=by
 obtain⟨es,c,d,i⟩:=h
 have a:=QcS (P:=P) (w:=w) es.isEmpty 9999 k f
 have b:=QdC (P:=P) (w:=w) k f i
 unfold Qgg
 cases hl:lkI l k 0 with
 |none=>
  rw[hl] at b
  simp[Instr.lookup,run_underlying e,MapKept.run_getObj_map d,a,b,g]
 |some p=>
  rw[hl] at b
  simp[Instr.lookup,run_underlying e,MapKept.run_getObj_map d,a,b]
theorem Qru {es:List MapEntry}(k:Int)(v:Value) : ∀(l:List (Int × Value)) (i:Nat) (x:Value),es.map (fun e=>(e.key,e.val))=l.map Qfh->lkI l k 0=some (i,x) ->
  (es.modify i fun e=>{ e with key:=.int .i64 k,val:=v }).map (fun e=>(e.key,e.val))=(Qf3 k v l).map Qfh/\∃e,es[i]? = some e/\e.key=.int .i64 k:=by
 induction es with
 |nil=>
  intro l i x h b
  cases l with
  |nil=>cases b
  |cons p r=>cases h
 |cons e es ih=>
  intro l i x h b
  cases l with
  |nil=>cases h
  |cons p r=>
   obtain⟨a,y⟩:=p
   rw[List.map_cons,List.map_cons] at h
   injection h with h1 h2
   unfold lkI at b
   unfold Qf3
   split at b
   ·rename_i c
    injection b with b
    injection b with hl1 hl2
    subst hl1 c
    rw[if_pos rfl,List.map_cons]
    refine⟨?_,e,rfl,?_⟩
    ·show ((Value.int .i64 k,v)::es.map (fun e=>(e.key,e.val)))=_
     rw[h2]
     rfl
    ·unfold Qfh at h1
     injection h1
   ·rename_i c
    rw[QcW] at b
    cases hq:lkI r k 0 with
    |none=>rw[hq] at b;cases b
    |some q=>
     obtain⟨j,z⟩:=q
     rw[hq] at b
     injection b with b
     injection b with hl1 hl2
     simp only[Nat.zero_add] at hl1
     subst hl1
     obtain⟨f,m,g,d⟩:=ih r j z h2 hq
     rw[if_neg c,List.map_cons]
     refine⟨?_,m,?_,d⟩
     ·show ((e.key,e.val)::(es.modify j _).map _)=_
      rw[f,h1]
     ·rw[List.getElem?_cons_succ]
      exact g
theorem Qrm {es:List MapEntry}(k:Int)(v:Value)(b:Nat) : ∀(l:List (Int × Value)),es.map (fun e=>(e.key,e.val))=l.map Qfh->lkI l k 0=none->(es++[({ key:=.int .i64 k,val:=v,born:=b }:MapEntry)]).map (fun e=>(e.key,e.val))=(Qf3 k v l).map Qfh:=by
 intro l h c
 have:Qf3 k v l=l++[(k,v)]:=by
  clear h
  induction l with
  |nil=>rfl
  |cons p r ih=>
   obtain⟨a,y⟩:=p
   unfold lkI at c
   unfold Qf3
   split at c
   ·cases c
   ·rename_i d
    rw[QcW] at c
    rw [if_neg d, ih (by
     cases hq:lkI r k 0 with
     |none=>rfl
     |some q=>rw[hq] at c;cases c)]
    rfl
 rw[this,List.map_append,List.map_append,h]
 rfl
theorem QdX {w:World}{r:Nat}{o o':Obj}(a:w.heap[r]? = some o):Fr (· = r) w { w with heap:=w.heap.setIfInBounds r o' }:=
 ⟨rfl,rfl,rfl,by simp,fun i b hn=>(MapKept.heap_set (o':=o') a).2 i hn⟩
theorem Qpp (k:Int):(Instr.keyThatStays (.int .i64 k) (.int .i64 k)).run P w=.ok (.int .i64 k) w:=by
 simp[Instr.keyThatStays,Instr.sameBits]
theorem MapIs.update (h:MapIs w r l)(m:P.underlying t=some (.map kt et))(n:P.underlying kt=some (.int kd))(k:Int)(v:Value) :
  ∃w',(Instr.mapUpdate t (.map (some r)) (.int .i64 k) v).run P w=.ok () w'/\MapIs w' r (Qf3 k v l)/\Fr (· = r) w w':=by
 obtain⟨es,c,a,j⟩:=h
 have b:=QcS (P:=P) (w:=w) false 9999 k n
 have d:=QdC (P:=P) (w:=w) k n j
 cases hl:lkI l k 0 with
 |none=>
  rw[hl] at d
  refine⟨{ w with heap:=w.heap.setIfInBounds r (.map (es.push { key:=.int .i64 k,val:=v,born:=c }) (c+1)) },?_,⟨_,_,(MapKept.heap_set a).1,?_⟩,QdX a⟩
  ·simp[Instr.mapUpdate,run_underlying m,MapKept.run_getObj_map a,b,d,MapKept.run_setObj_map _ a]
  ·rw[Array.toList_push]
   exact Qrm k v c l j hl
 |some p=>
  obtain⟨i,x⟩:=p
  rw[hl] at d
  obtain⟨h1,e,h2,o⟩:=Qru k v l i x j hl
  have g:es[i]? = some e:=by rw[<-Array.getElem?_toList];exact h2
  have f:=Qpp (P:=P) (w:=w) k
  refine⟨{ w with heap:=w.heap.setIfInBounds r (.map (es.modify i fun e=>{ e with key:=.int .i64 k,val:=v }) c) },?_,⟨_,_,(MapKept.heap_set a).1,?_⟩,QdX a⟩
  ·simp[Instr.mapUpdate,run_underlying m,MapKept.run_getObj_map a,b,d,g,o,f,MapKept.run_setObj_map _ a]
  ·rw[Array.toList_modify]
   exact h1
theorem QqV {es:List MapEntry}(k:Int) : ∀(l:List (Int × Value)) (i:Nat) (x:Value),es.map (fun e=>(e.key,e.val))=l.map Qfh->lkI l k 0=some (i,x)->(es.eraseIdx i).map (fun e=>(e.key,e.val))=(QiC k l).map Qfh:=by
 induction es with
 |nil=>
  intro l i x h b
  cases l with
  |nil=>cases b
  |cons p r=>cases h
 |cons e es ih=>
  intro l i x h b
  cases l with
  |nil=>cases h
  |cons p r=>
   obtain⟨a,y⟩:=p
   rw[List.map_cons,List.map_cons] at h
   injection h with h1 h2
   unfold lkI at b
   unfold QiC
   split at b
   ·rename_i c
    injection b with b
    injection b with hl1 hl2
    subst hl1
    rw[if_pos c]
    exact h2
   ·rename_i c
    rw[QcW] at b
    cases hq:lkI r k 0 with
    |none=>rw[hq] at b;cases b
    |some q=>
     obtain⟨j,z⟩:=q
     rw[hq] at b
     injection b with b
     injection b with hl1 hl2
     simp only[Nat.zero_add] at hl1
     subst hl1
     rw[if_neg c,List.map_cons,List.eraseIdx_cons_succ,List.map_cons,ih r j z h2 hq,h1]
theorem QoI (k:Int) : ∀l:List (Int × Value),lkI l k 0=none->QiC k l=l:=by
 intro l
 induction l with
 |nil=>intro _;rfl
 |cons p r ih=>
  obtain⟨a,y⟩:=p
  intro b
  unfold lkI at b
  unfold QiC
  split at b
  ·cases b
  ·rename_i c
   rw[QcW] at b
   rw [if_neg c, ih (by
    cases hq:lkI r k 0 with
    |none=>rfl
    |some q=>rw[hq] at b;cases b)]
theorem MapIs.delete (h:MapIs w r l)(f:P.underlying t=some (.map kt et))(g:P.underlying kt=some (.int kd))(k:Int)(j ty:TypeId) :
  ∃w',(Builtin.delete_ #[t,j] ty #[.map (some r),.int .i64 k]).run P w=.ok (.tuple #[]) w'/\MapIs w' r (QiC k l)/\Fr (· = r) w w':=by
 obtain⟨es,c,a,e⟩:=h
 have b:=QcS (P:=P) (w:=w) es.isEmpty 9999 k g
 have d:=QdC (P:=P) (w:=w) k g e
 cases hl:lkI l k 0 with
 |none=>
  rw[hl] at d
  refine⟨{ w with heap:=w.heap.setIfInBounds r (.map es c) },?_,⟨_,_,(MapKept.heap_set a).1,?_⟩,QdX a⟩
  ·simp[Builtin.delete_,run_underlying f,MapKept.run_getObj_map a,b,d,MapKept.run_setObj_map _ a]
  ·rw[QoI k l hl]
   exact e
 |some p=>
  obtain⟨i,x⟩:=p
  rw[hl] at d
  refine⟨{ w with heap:=w.heap.setIfInBounds r (.map (es.eraseIdxIfInBounds i) c) },?_,⟨_,_,(MapKept.heap_set a).1,?_⟩,QdX a⟩
  ·simp[Builtin.delete_,run_underlying f,MapKept.run_getObj_map a,b,d,MapKept.run_setObj_map _ a]
  ·rw[Array.toList_eraseIdxIfInBounds]
   exact QqV k l i x e hl
end
end Go.Proofs.YtgiihhikdoikgaaGreat
