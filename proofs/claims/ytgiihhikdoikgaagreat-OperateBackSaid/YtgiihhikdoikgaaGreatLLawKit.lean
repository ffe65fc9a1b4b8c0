/-
  What the statements' own functions have in common.
-/
import Derived.Test.YtgiihhikdoikgaaGreatLType
import Derived.Lib.SlBytesConst
set_option linter.unusedSimpArgs false
set_option linter.unusedVariables false
set_option maxRecDepth 100000
set_option maxHeartbeats 32000000
namespace Go.Proofs.YtgiihhikdoikgaaGreat
open Go.RowKit
def IntsI (w:World)(A:Option Addr)(n:Nat)(l:List Int):Prop:=Ints w (fun b=>∃a,Blk w b 3 a) A n l
theorem IntsI.fr {w w':World}{A:Option Addr}{n:Nat}{l:List Int}{S:Nat->Prop}(h:IntsI w A n l)(f:Fr S w w')(g : ∀b,b<w.heap.size->S b->¬∃a,Blk w b 3 a):IntsI w' A n l:=by
 have i:Ints w (fun b=>∃a,Blk w b 3 a) A n l:=h
 have h1:Ints w' (fun b=>b<w.heap.size/\∃a,Blk w b 3 a) A n l:=Reads.fr (Reads.more i (D':=fun b=>b<w.heap.size/\∃a,Blk w b 3 a) (fun b d c=>⟨c,d⟩) (by decide)) f (fun b d c e=>g b c e d.2)
 exact Reads.more h1 (D' := fun b => ∃ a, Blk w' b 3 a) (fun b d _=>by
  obtain⟨c,a,d⟩:=d
  exact⟨a,d.fr f (fun e=>g b c e ⟨a,d⟩)⟩) (by decide)
theorem IntsI.bel {w w':World}{A:Option Addr}{n:Nat}{l:List Int}(h:IntsI w A n l)(a:ZB w w'):IntsI w' A n l:=h.fr (S:=fun _=>False) (Fr.of_below a) (fun _ _ b=>b.elim)
theorem IntsI.any {w:World}{A:Option Addr}{n:Nat}{l:List Int}(h:IntsI w A n l):Ints w Any A n l:=by
 have a:Ints w (fun b=>∃c,Blk w b 3 c) A n l:=h
 exact Reads.more a (fun _ _ _=>trivial) (by decide)
theorem IntsI.of_own {w:World}{base n c:Nat}{A:Option Addr}{xs:List Int}(h:w.ownsRow base 3 1 (.slice A n c) n (xs.map (Value.int .i64))):IntsI w A n xs:=by
 refine⟨h.1,fun f=>?_⟩
 rcases h.2 with ⟨l,k⟩|⟨r,c',cur,g,j,e,h1,h2,o,m⟩
 ·omega
 ·have b:A=some ⟨r,0,none⟩:=by injection g
  obtain⟨i,a,_,d⟩:=(Reads.of_own h).2 f
  rw[b] at a
  injection a with a
  refine⟨i,by rw[b,a],⟨cur,?_⟩,d⟩
  rw[<-a]
  exact e
def Qq1 (st:BkS)(n:Nat)(at_:Int)(xs:List Int)(c x:Int)(a:List (Int × Int))(o':OpS)(b:Nat):Prop:=
 ∃(A:Option Addr) (k:Nat),x=at_+xs.length/\a=edA [QA at_ xs A k] st.ats/\o'=⟨st.ats,c,[[QiD (QA at_ xs A k)]],st.state,true⟩/\b=n+131072
def QkS (st:BkS)(at_:Int)(xs:List Int)(A:Option Addr)(k:Nat):BkS:=
 { st with ats:=edA [QA at_ xs A k] st.ats,now:=none,undo:=st.undo++[⟨st.ats,edA [QA at_ xs A k] st.ats,at_,at_+xs.length,[[QiD (QA at_ xs A k)]],st.state,st.last+1⟩],redo:=[],state:=st.last+1,last:=st.last+1 }
def QjQ (B a b g:Nat)(enc lim:Int)(n:Nat)(st:BkS)(c:Array Value)(at_:Int)(xs:List Int)(w:World)(e:Ending)(w':World):Prop:=
 e=.returned (.int .i64 0)/\∃(A:Option Addr) (k:Nat),DeskIs w' B a b g enc lim (n+131072) (QkS st at_ xs A k) (c.setIfInBounds 2 (.int .i64 (at_+xs.length)))/\DFr B (· = a) w w'
theorem QjX {at_:Int}{xs:List Int}{A:Option Addr}{k:Nat}{ats:List (Int × Int)}:edA [QA at_ xs A k] ats=ats.take at_.toNat++xs.map (fun x=>(x,-1))++ats.drop at_.toNat:=rfl
theorem Qnl (B j r g n C t I:Nat)(enc lim at_ b:Int)(st:BkS)(i:Array Value)(A:Option Addr)(m c:Nat)(xs:List Int)(w:World)(h:DeskIs w B j r g enc lim n st i)(hn:st.now=none)(E:i.size=10)
  (M:i[9]? = some (.int .i64 b)) (o:b=1\/b=2\/b=3)
  (Y:Blk w C 23 #[.pointer (some ⟨j,0,none⟩)]) (N:Blk w t 3 #[.int .i64 at_]) (L:Blk w I 36 #[.slice A m c])
  (d:Ints w (fun b=>b<w.heap.size/\∃K,Blk w b 3 K) A m xs) (hm:0<m/\m<=1048576) (y : ∀x ∈ xs,x≠10) (q:0<=at_/\at_<=(st.ats.length:Int)) (U : ∀l c',QbN enc lim (Qb enc st.ats) [QA at_ xs l c']=0) (F:n+131072<=1073741824)
  (s:(st.undo.length:Int)<st.depth) (z:st.last<1073741824) :
  Calls Tryz.prog 36 #[.pointer (some ⟨j,0,none⟩),.int .i64 at_,.func (.func 108) #[] #[.pointer (some ⟨C,0,none⟩),.pointer (some ⟨t,0,none⟩),.pointer (some ⟨I,0,none⟩)]] w (QjQ B j r g enc lim n st i at_ xs w):=by
 have W:=d.len
 refine(Qrj B j r g n enc lim at_ st i _ _ (fun _=>False) (Qq1 st n at_ xs at_) w h hn q E Tryz.call108 (fun _ d=>d.elim) (fun w1 D f=>?_) (fun u p o' S X=>?_) (by omega)).mono ?_
 ·refine (Qnu B j r g n C t I enc lim at_ b { st with now:=some ⟨st.ats,at_,[],st.state,false⟩ } ⟨st.ats,at_,[],st.state,false⟩ i A m c xs w1 D rfl (by simp) M o (f.blk Y (by decide) (fun d=>d)) (f.blk N (by decide) (fun d=>d)) (f.blk L (by decide) (fun d=>d))
   (Reads.more (Reads.fr d f (fun b o _ G=>?_)) (fun _ _ _=>trivial) (by decide)) hm y q U F).mono ?_
  ·rcases G with ⟨_,T,K,J,O⟩|G
   ·obtain⟨_,Q,a⟩:=o
    have:T=3:=by
     unfold Blk at J a
     rw[J] at a
     injection a with a
     injection a with _ a
    subst this
    exact absurd O (by decide)
   ·exact G
  ·rintro e R ⟨l,c',rfl,v,H⟩
   exact⟨_,_,_,_,⟨l,c',rfl,rfl,rfl,rfl⟩,rfl,v,DFr.of_bk H⟩
 ·obtain⟨l,k,rfl,rfl,rfl,rfl⟩:=X
  refine⟨⟨by omega,?_⟩,fun _=>⟨s,z⟩⟩
  rw[QjX]
  simp
  omega
 ·rintro e R ⟨rfl,u,p,o',S,⟨l,k,rfl,rfl,rfl,rfl⟩,P,V⟩
  exact⟨rfl,l,k,P,V.wide (Nat.le_refl _) (fun b _ o=>o.resolve_left (fun h=>h))⟩
theorem Qiq {w:World}{p q a:Addr}{u v:Value}(x:Value)(hp:p.block≠a.block)(b:q.block≠a.block)(h:w.cell? p=some u/\w.cell? q=some v):(w.setCell a x).cell? p=some u/\(w.setCell a x).cell? q=some v:=
 ⟨(World.cell?_of_block (w:=w) (Below.heap_setCell w a x p.block hp)).trans h.1,(World.cell?_of_block (w:=w) (Below.heap_setCell w a x q.block b)).trans h.2⟩
theorem Qo4 (B d S g n:Nat)(enc lim at_ b:Int)(st:BkS)(y:Array Value)(A:Option Addr)(m c:Nat)(xs:List Int)(w:World)(h:DeskIs w B d S g enc lim n st y)(hn:st.now=none)(G:y.size=10)
  (h2:y[2]? = some (.int .i64 at_)) (h9:y[9]? = some (.int .i64 b)) (l:b=1\/b=2\/b=3)
  (hx:Ints w (fun b=>b<w.heap.size/\∃D,Blk w b 3 D) A m xs) (hm:0<m/\m<=1048576) (O : ∀x ∈ xs,x≠10) (r:0<=at_/\at_<=(st.ats.length:Int)) (hz : ∀T c',QbN enc lim (Qb enc st.ats) [QA at_ xs T c']=0) (U:n+131072<=1073741824)
  (P:(st.undo.length:Int)<st.depth) (Q:st.last<1073741824) :
  Calls Tryz.prog 60 #[.pointer (some ⟨d,0,none⟩),.slice A m c] w (QjQ B d S g enc lim n st y at_ xs w):=by
 have a0 : ∀(fn:Fn) (first cap:Array Value) (w:World),(Instr.makeFunc fn first cap).run Tryz.prog w=.ok (.func fn first cap) w:=fun _ _ _ _=>rfl
 have E:=h.len
 have a:ZB w ((w.alloc (.cells #[.pointer (some ⟨d,0,none⟩)] 23)).alloc (.cells #[.slice A m c] 36)):=Qa (Qa (Below.refl _ _))
 have z:Blk ((w.alloc (.cells #[.pointer (some ⟨d,0,none⟩)] 23)).alloc (.cells #[.slice A m c] 36)) w.heap.size 23 #[.pointer (some ⟨d,0,none⟩)]:=(Blk.new w _ _).alloc _
 have M:Blk ((w.alloc (.cells #[.pointer (some ⟨d,0,none⟩)] 23)).alloc (.cells #[.slice A m c] 36)) (w.heap.size+1) 36 #[.slice A m c]:=Blk.new' (by simp)
 have K:=Zh h
 have HT:=Zh (fun(w':World) (l:ZB w w')=>Qae (h.below l))
 have q:=fun(w':World) (l:ZB w w')=>QaS Any g enc (Qb enc st.ats) w' (h.below l).at_
 rw[Qr] at q
 have u:=Zh q
 obtain⟨N,L⟩:=ZN (st.ats.length)
 rw[L] at u r E
 have R:=Zh L
 have Y:=Zh hx
 clear h q L hx
 go_enter Tryz.func60,Tryz.ntmps60
 go_upto_region 1 with fail
 obtain⟨j,p⟩:∃x',((w.alloc (.cells #[.pointer (some ⟨d,0,none⟩)] 23)).alloc (.cells #[.slice A m c] 36))=x':=⟨_,rfl⟩
 rw[p] at a z M ⊢
 clear p
 have J:j.cell? ⟨w.heap.size,0,none⟩=some (.pointer (some ⟨d,0,none⟩))/\j.cell? ⟨d,2,none⟩=some (.int .i64 at_):=⟨z.cell 0,((K.out.below a).desk.cell 2).trans h2⟩
 go_cut [5] (fun s wx=>∃I,s=.pointer (some ⟨I,0,none⟩)/\Hid (Blk wx I 3 #[.int .i64 at_])/\ZB j wx)
 case first=>
  have p1:(at_<0)=False:=by simp;omega
  have p2:((N:Int)<at_)=False:=by simp;omega
  have p3:max at_ 0=at_:=by omega
  have p4:min at_ (N:Int)=at_:=by omega
  have s1:=QeM (Below.drew (Below.refl _ _)) J
  have n1:w.heap.size≠j.heap.size:=by have:=z.lt;omega
  have n2:d≠j.heap.size:=by have:=K.out.desk.lt;have:=a.size;omega
  have n3 : ∀i:World,j.heap.size<=i.heap.size->w.heap.size≠i.heap.size/\d≠i.heap.size:=fun i h5=>by have:=z.lt;have:=K.out.desk.lt;have:=a.size;omega
  go_region_held3 (fun w'=>w'.cell? ⟨w.heap.size,0,none⟩=some (.pointer (some ⟨d,0,none⟩))/\w'.cell? ⟨d,2,none⟩=some (.int .i64 at_)) (first|(with_reducible assumption)|(with_reducible exact QeM (Below.drew (Qa (Below.refl _ _))) J)|(with_reducible exact QeM (Qa (Below.refl _ _)) s1)|(with_reducible exact QeM (Qa (Below.refl _ _)) H)|(with_reducible exact Qiq _ n1 n2 H)|(with_reducible exact Qiq _ (n3 _ z5).1 (n3 _ z5).2 (QeM (Qa (Below.refl _ _)) H))) (first|(go_at_call 34;(with_reducible refine(HT.out _ (Qf a (Below.drew (Below.refl _ _)))).mono ?_);rintro e i ⟨rfl,rfl⟩)|(go_at_call 34;(with_reducible refine(HT.out _ (Qf a (Below.drew (Qa (Below.refl _ _))))).mono ?_);rintro e i ⟨rfl,rfl⟩)|(go_at_call 12;(with_reducible refine(u.out _ (Qf a (Below.drew (Below.refl _ _)))).mono ?_);rintro e i ⟨rfl,f⟩;have H:=QeM f s1;have z5:j.heap.size<=i.heap.size:=f.size)|(go_at_call 12;(with_reducible refine(u.out _ (Qf a (Below.drew (Qa (Below.refl _ _))))).mono ?_);rintro e i ⟨rfl,f⟩;have H:=QeM (Qf (Below.drew (Qa (Below.refl _ _))) f) J;have t:=((Blk.new j 3 #[.int .i64 0]).drew).below f;have z0:i.cell? ⟨j.heap.size,0,none⟩=some (.int .i64 0):=t.cell 0;have zf:=t.frozen 0))
  all_goals
   go_wp2_with fail
   go_meet
   first
    |exact⟨_,rfl,Zh (Blk.new _ _ _),Qa (QD f)⟩
    |exact⟨_,rfl,Zh ((t.set_ 0 _).eq_ (by simp)),(Qf (Below.drew (Qa (Below.refl _ _))) f).setCell (Nat.le_refl _) _⟩
 case rest=>
  obtain⟨I,rfl,C,v⟩:=hcut
  have o:=Qf a v
  have X:=z.below v
  have k2:=M.below v
  have y0:=X.cell 0
  have y5:=C.out.cell 0
  simp at y0 y5
  have F : Ints wc (fun b => b < wc.heap.size /\ ∃ D, Blk wc b 3 D) A m xs := Reads.more (Reads.below Y.out o) (fun b l V=>by
   obtain⟨_,D,l⟩:=l
   exact⟨V,D,l.below o⟩) (by decide)
  rw[<-R.out] at r
  have W:=Zh (Qnl B d S g n w.heap.size I (w.heap.size+1) enc lim at_ b st y A m c xs wc (K.out.below o) hn G h9 l X C.out k2 F hm O r hz U P Q)
  clear F X k2 Y hz h2 h9 G hn J z M
  go_wp2_with fail
  refine(W.out).mono ?_
  rintro e w9 ⟨rfl,T,k,Z,hf⟩
  have HD:=Zh Z
  clear Z
  go_wp2_with fail
  go_ret
  exact⟨rfl,T,k,HD.out,(DFr.of_below o).trans hf⟩
theorem Qe5 (es:List Mv)(k:Nat)(a:k<es.length)(j:Nat)(b:j<3):(Qck es)[k*3+j]? = es[k].cells[j]? :=by
 unfold Qck
 induction es generalizing k with
 |nil=>simp at a
 |cons p ps ih=>
  rw[List.flatMap_cons]
  cases k with
  |zero=>
   rw[List.getElem?_append_left (by simp[Mv.cells];omega)]
   simp
  |succ k=>
   rw[List.getElem?_append_right (by simp[Mv.cells];omega)]
   have:=ih k (by simpa using a)
   simp only[List.getElem_cons_succ]
   rw[<-this]
   congr 1
   simp[Mv.cells]
   omega
theorem RowT.mv {w:World}{N m:Nat}{A:Option Addr}{mv:List Mv}(h:RowT w N 207 3 A m (Qck mv))(g:mv.length=m){j:Nat}(d:j<m) :
  ∃b o f t n,A=some ⟨b,o,none⟩/\w.cell? ⟨b,o+j*3,none⟩=some (.int .i64 f)/\w.cell? ⟨b,o+j*3+1,none⟩=some (.int .i64 t)/\w.cell? ⟨b,o+j*3+2,none⟩=some (.int .i64 n):=by
 obtain⟨b,o,i,e,_,c,a⟩:=h.2 (by omega)
 refine⟨b,o,mv[j].f,mv[j].t,mv[j].n,e,?_,?_,?_⟩
 ·rw[c.cell]
  exact a _ _ (by have:=Qe5 mv j (by omega) 0 (by omega);rw[Nat.add_zero] at this;rw[this];rfl)
 ·rw[c.cell,Nat.add_assoc]
  exact a _ _ (by rw[Qe5 mv j (by omega) 1 (by omega)];rfl)
 ·rw[c.cell,Nat.add_assoc]
  exact a _ _ (by rw[Qe5 mv j (by omega) 2 (by omega)];rfl)
def QsN (e:World)(b m:Nat)(k:Nat)(d a:Value)(wr:World):Prop:=
 ∃(s:Int) (j:Nat) (c:Array Value),d=.int .i64 s/\a=.int .i64 (j:Int)/\Blk wr b 207 c/\c.size=m*3/\Fr (fun x=>x=b) e wr/\j<=m/\m-j<=k
theorem Qji (N:Nat)(A:Option Addr)(m c:Nat)(mv:List Mv)(w:World)(hr:RowT w N 207 3 A m (Qck mv))(hN:N<=w.heap.size)(hl:mv.length=m)(hm:m<=1073741824) :
  Calls Tryz.prog 112 #[.slice A m c] w fun e w'=>(∃v,e=.returned v)/\ZB w w':=by
 obtain⟨im,U,B,G,I⟩:=info_parts Qhw
 have HR:=Zh hr
 have HL:=Zh hl
 clear hr hl
 go_enter Tryz.func112,Tryz.ntmps112
 go_wp2_with (at_make;refine wpList_make_full _ rfl _ _ 184 rfl w.heap.size 207 im (.agg #[.int .i64 0,.int .i64 0,.int .i64 0]) 3 Tryz.underlying184 U B G _ _ _ _ m rfl rfl rfl rfl (by rw[I];omega) (by unfold maxLen;omega) (Nat.le_refl _) ?_)
 intro T H J
 obtain⟨o,a2,K⟩:∃o:Array Value,o.size=m*3/\Blk T w.heap.size 207 o:=⟨_,by simp[size_madeCells],Qit H⟩
 have C:ZB w T:=Qcu J
 have a1:w.heap.size<T.heap.size:=K.lt
 clear H J U B G I
 go_wp2_with fail
 go_loopg [4,12] m (fun k q4 a5 wr=>QsN T w.heap.size m k q4 a5 wr)
 case atStart=>exact⟨0,0,o,rfl,rfl,K,a2,Fr.refl _ _,by omega,by omega⟩
 case round=>
  obtain⟨s,j,t,rfl,rfl,Z,a6,M,hj,a7⟩:=hrel
  obtain⟨w3,a0⟩:∃x,x=wr:=⟨_,rfl⟩
  subst a0
  by_cases hlt:j<m
  ·have R:RowT w3 N 207 3 A m (Qck mv):=(HR.out.keep (KeepTy.below C)).keep (KeepTy.fr M (fun b t hb hs _=>by omega))
   obtain⟨eb,eo,ef,et,en,rfl,z0,z1,z2⟩:=R.mv HL.out hlt
   have a8:=Z.lt
   clear R
   go_upto_region 6 with fail
   obtain⟨w4,D⟩:=ZN (w3.alloc (.cells #[.int .i64 ef,.int .i64 et,.int .i64 en] 207))
   have f:=Blk.new w3 207 #[.int .i64 ef,.int .i64 et,.int .i64 en]
   have d:=Z.alloc (.cells #[.int .i64 ef,.int .i64 et,.int .i64 en] 207)
   have z:=M.alloc (.cells #[.int .i64 ef,.int .i64 et,.int .i64 en] 207)
   rw[D] at f d z ⊢
   clear D
   obtain⟨u0,Y⟩:∃u,t[j*3]? = some u:=⟨t[j*3]'(by omega),Array.getElem?_eq_getElem (by omega)⟩
   obtain⟨u1,V⟩:∃u,t[j*3+1]? = some u:=⟨t[j*3+1]'(by omega),Array.getElem?_eq_getElem (by omega)⟩
   obtain⟨u2,F⟩:∃u,t[j*3+2]? = some u:=⟨t[j*3+2]'(by omega),Array.getElem?_eq_getElem (by omega)⟩
   have r0:=d.cell (j*3)
   have r1:=d.cell (j*3+1)
   have r2:=d.cell (j*3+2)
   rw[Y] at r0
   rw[V] at r1
   rw[F] at r2
   have f0:=d.frozen (j*3)
   have f1:=d.frozen (j*3+1)
   have f2:=d.frozen (j*3+2)
   have x0:=f.cell 0
   have x1:=f.cell 1
   have x2:=f.cell 2
   simp at x0 x1 x2
   clear Y V F z0 z1 z2
   have ej:((j:Int)+1)=((j+1:Nat):Int):=by omega
   have y:w3.heap.size≠w.heap.size:=by omega
   have a : ∀(q:Int) n l g,QsN T w.heap.size m (m-(j+1)) (.int .i64 q) (.int .i64 ((j+1:Nat):Int)) (((w4.setCell ⟨w.heap.size,j*3,none⟩ n).setCell ⟨w.heap.size,j*3+1,none⟩ l).setCell ⟨w.heap.size,j*3+2,none⟩ g):=fun q n l g=>
    ⟨q,j+1,_,rfl,rfl,((d.set_ (j*3) n).set_ (j*3+1) l).set_ (j*3+2) g,by simp[a6],((z.setCell (p:=⟨w.heap.size,j*3,none⟩) (.inl rfl) n).setCell (p:=⟨w.heap.size,j*3+1,none⟩) (.inl rfl) l).setCell (p:=⟨w.heap.size,j*3+2,none⟩) (.inl rfl) g,by omega,by omega⟩
   have E:=fun n l g=>((f.far (p:=⟨w.heap.size,j*3,none⟩) y n).far (p:=⟨w.heap.size,j*3+1,none⟩) y l).far (p:=⟨w.heap.size,j*3+2,none⟩) y g
   have r:=Zh a
   have L:=Zh E
   clear a E d z Z M f
   go_upto_region 7 with fail
   obtain⟨n,O⟩:∃v,Value.int .i64 (wrap64 (ef+s))=v:=⟨_,rfl⟩
   obtain⟨l,X⟩:∃v,Value.int .i64 (wrap64 (wrap64 (ef+s)+en))=v:=⟨_,rfl⟩
   obtain⟨g,W⟩:∃v,Value.int .i64 (wrap64 (et-ef))=v:=⟨_,rfl⟩
   rw[X,W,O]
   clear O X W
   have Q:=L.out n l g
   have a:=fun q=>r.out q n l g
   obtain⟨w5,P⟩:=ZN (((w4.setCell ⟨w.heap.size,j*3,none⟩ n).setCell ⟨w.heap.size,j*3+1,none⟩ l).setCell ⟨w.heap.size,j*3+2,none⟩ g)
   rw[P] at Q a ⊢
   rw[<-ej] at a
   have y0:=Q.cell 0
   have y1:=Q.cell 1
   have y2:=Q.cell 2
   simp at y0 y1 y2
   have a4:=Zh a
   clear a Q L r P ej x0 x1 x2 r0 r1 r2 f0 f1 f2
   go_wp2_with fail
   go_roundg (m-(j+1))
   case measure=>omega
   case rel=>exact a4.out _
  ·have a3:j=m:=by omega
   subst a3
   have a:ZB w w3:=(Fr.call (S:=fun x=>x=w.heap.size) (Fr.of_below C) M (fun i hi hs=>hs)).below (fun k hk h=>by omega)
   clear Z M
   go_wp2_with fail
   go_ret
   exact⟨⟨_,rfl⟩,a⟩
def QrC (N B f g:Nat)(enc lim:Int)(n:Nat)(add:Value)(st:BkS)(xs:List Value)(m:Nat)(us:List Gr)(G:Gr)(w:World)(e:Ending)(w':World):Prop:=
 e=.returned (.tuple #[.int .i64 G.bgn,.int .i64 0])/\(∃d c a b,BkAt w' N B f g enc lim n add { st with ats:=G.before,undo:=us,redo:=st.redo++[G],state:=G.old } d c xs m a b none)/\BkFr B w w'
def Qsw (a:World)(mm:Nat)(j:Nat)(b:Value)(wr:World):Prop:=
 ∃i:Int,b=.int .i64 i/\ZB a wr /\ -1<=i/\i<(mm:Int)/\i+1<=(j:Int)
theorem QlN (N B d g:Nat)(enc lim:Int)(n:Nat)(add:Value)(st:BkS)(t:Tr)(a:Option Addr)(xs:List Value)(m:Nat)(vu vr:Value)(now:Option Addr)(us:List Gr)(G:Gr)(w:World)
  (h:BkAt w N B d g enc lim n add st t a xs m vu vr now) (hn:st.now=none) (hu:st.undo=us++[G]) (hr:st.redo.length<1048576) (i0 : ∀mv,mv ∈ G.moves->mv.length<=1048576) :
  Calls Tryz.prog 62 #[.pointer (some ⟨d,0,none⟩)] w (QrC N B d g enc lim n add st xs m us G w):=by
 have f9:=h.open_
 rw[hn] at f9
 subst f9
 have W:=h.undo
 rw[hu] at W
 obtain⟨bu,cu,q,rfl,i5,k5,h8,⟨csu,b9⟩,b2,hG,W⟩:=W.last
 obtain⟨pr,a4,f0,g3,-⟩:=h.redo
 obtain⟨k,hk⟩:=ZN (us.length)
 rw[hk] at i5 h8 b2 W h
 obtain⟨s1,s2,Am,mm,cm,vs,i9,hq,f2,j2,X,i4,g2,j3⟩:=hG
 have HG:=Zh (show GrAt w N g add n enc q G from ⟨s1,s2,Am,mm,cm,vs,i9,hq,f2,j2,X,i4,g2,j3⟩)
 obtain⟨j6,t2,P,a7,h5,d1,h9⟩:=f2
 have e1:IntKind.i64.wrap (((k+1:Nat):Int)-1)=(k:Int):=by rw[IntWalk.i64_in _ (by omega)];omega
 have e2:(((k+1:Nat):Int)==0)=false:=by simp;omega
 have c6:=h.blk.cell 6
 have c2:=h.blk.cell 2
 have c3:=h.blk.cell 3
 simp at c6 c2 c3
 have d5:d≠g:=fun e=>Blk.ne_ h.blk h.text.blk (by decide) e
 have l:=Zh h
 have HK:=Zh hk
 have HU:=Zh hu
 have HN:=Zh hn
 have h7:=Zh W
 have HQ:=Zh hq
 obtain⟨Ar,cr,rfl,k4⟩:=Qj a4
 have e6 : ∀w',Fr (OwnB (.slice Ar pr.length cr)) w w'->Blk w' d 97 #[.pointer (some ⟨g,0,none⟩),.int .i64 st.depth,.slice (some ⟨bu,0,none⟩) (k+1) cu,.slice Ar pr.length cr,.map (some m),.slice none 0 0,.pointer none,.int .i64 st.state,.int .i64 st.saved,.int .i64 st.last]:=fun w' hf=>l.out.blk.fr hf (Qk a4 l.out.blk (by decide))
 have z:=Zh e6
 have b8:=Zh a4
 have j4:pr.length<=1048576:=by omega
 have k1:((k:Int)<=(cu:Int))=True:=by simp;omega
 have k2:(k<=cu)=True:=by simp;omega
 have e3:IntKind.i64.wrap (k:Int)=(k:Int):=IntWalk.i64_in _ (by omega)
 have k0:((0:Int)<=(k:Int))=True:=by simp
 have k3:((cu:Int)<(k:Int))=False:=by simp;omega
 have h4:=Zh f0
 have i1:=Zh d1
 have h6:=l.out.text.base
 obtain⟨ig,g6,e8,d7,d3⟩:=info_parts QcC
 clear h hk hu W f0 hq a4 d1 hn e6
 go_enter Tryz.func62,Tryz.ntmps62
 go_upto_region 7 with fail
 refine Qg (fun w'=>w'.cell? ⟨d,2,none⟩=some (.slice (some ⟨bu,0,none⟩) (k+1) cu)/\w'.cell? ⟨d,3,none⟩=some (.slice Ar pr.length cr)) (fun w'=>w'=w.drew) (fun k=>k==14 || k==15 || k==18 || k==21) (fun k=>k==18 || k==21) (fun k=>k==1 || k==19 || k==20 || k==21) (by kernel_rfl) (by kernel_rfl) (rfl) (fun w' h=>by subst h;exact⟨(z.out _ (Fr.refl _ _).drew).cell 2,(z.out _ (Fr.refl _ _).drew).cell 3⟩) ?_
 repeat ((first
  |(refine Qc (v:=?_) (by rfl) (by rfl) (fun w6 hSw=>?_) ?_;rotate_left;(·(obtain⟨y0,y1⟩:=hSw;go_simp;try with_reducible rfl)))
  |(refine Qd (v:=?_) (by rfl) (fun w6=>?_) ?_;rotate_left;(·(go_simp;try with_reducible rfl)))
  |refine Qe (by rfl) ?_);(try simp only[Act.put,pA,pB,pC]))
 refine Ql (fun u w'=>u=.slice (some ⟨w.heap.size,0,none⟩) 1 1/\w'=w.drew.alloc (.cells #[.pointer (some ⟨q,0,none⟩)] 177)) (by rfl) (by rfl) (fun w6 hSw=>?_) (.inr (fun v6 w6 hT6=>?_)) (fun v6 hv6=>?_)
 ·(subst hSw;go_simp;exact⟨rfl,rfl⟩)
 ·(obtain⟨-,rfl⟩:=hT6;exact⟨(z.out _ ((Fr.refl _ _).drew.alloc _)).cell 2,(z.out _ ((Fr.refl _ _).drew.alloc _)).cell 3⟩)
 obtain⟨wz,rfl,-⟩:=hv6
 (try simp only[Act.put,pA,pB,pC])
 refine Ql (fun u w'=>(w'.ownsRow B 177 1 u (pr.length+1) ((pr.map fun p=>Value.pointer (some ⟨p,0,none⟩))++[.pointer (some ⟨q,0,none⟩)])/\∀b,u.ownBlock=some b->(Value.slice Ar pr.length cr).ownBlock=some b\/w.heap.size<=b)/\Fr (OwnB (.slice Ar pr.length cr)) w w') (by rfl) (by rfl) (fun w6 hSw=>?_) (.inr (fun v6 w6 hT6=>?_)) (fun v6 hv6=>?_)
 ·(obtain⟨-,rfl⟩:=hSw;exact Q5 93 rfl B 177 ig (.pointer none) 1 8 Tryz.underlying93 g6 e8 d7 d3 rfl (by decide) (.slice Ar pr.length cr) pr.length _ rfl ((QN b8.out (Below.refl _ _).drew).alloc _) ⟨w.heap.size,0,none⟩ 1 1 [.pointer (some ⟨q,0,none⟩)] rfl rfl (cell_one_new w.drew _ _) (by simp[Value.oneCell']) (by unfold maxLen;omega) (by omega) (by simp;omega) (fun v' w' i3 i2 _ c9=>⟨⟨i3,fun b H=>(by rcases c9 with e|e;exact .inl (e▸H);rw[e] at H;injection H with H;right;rw[<-H];simp)⟩,((Fr.refl _ _).drew.alloc _).grown i2 (fun k hk _=>hk)⟩))
 ·(exact⟨(z.out _ hT6.2).cell 2,(z.out _ hT6.2).cell 3⟩)
 obtain⟨wz,b5,-⟩:=hv6;obtain⟨A7,Y,rfl,-⟩:=Qj b5.1;have e4:=Zh b5.2
 (try simp only[Act.put,pA,pB,pC])
 iterate 2 ((first
  |(refine Qc (v:=?_) (by rfl) (by rfl) (fun w6 hSw=>?_) ?_;rotate_left;(·(obtain⟨y0,y1⟩:=hSw;go_simp;try with_reducible rfl)))
  |(refine Qd (v:=?_) (by rfl) (fun w6=>?_) ?_;rotate_left;(·(go_simp;try with_reducible rfl)))
  |refine Qe (by rfl) ?_);(try simp only[Act.put,pA,pB,pC]))
 refine Ql (fun _ w'=>∃wq,(wq.ownsRow B 177 1 (.slice A7 (pr.length+1) Y) (pr.length+1) ((pr.map fun p=>Value.pointer (some ⟨p,0,none⟩))++[.pointer (some ⟨q,0,none⟩)])/\Fr (OwnB (.slice Ar pr.length cr)) w wq)/\w'=wq.setCell ⟨d,2,none⟩ (.slice (some ⟨bu,0,none⟩) k cu)) (by rfl) (by rfl) (fun w6 hSw=>?_) (.inl (by rfl)) (fun v6 hv6=>?_)
 ·(have y2:=(z.out _ hSw.2).cell 2;have y3:=(z.out _ hSw.2).frozen 2;simp at y2;go_simp;exact⟨w6,⟨hSw.1.1,hSw.2⟩,rfl⟩)
 skip
 (try simp only[Act.put,pA,pB,pC])
 iterate 2 ((first
  |(refine Qc (v:=?_) (by rfl) (by rfl) (fun w6 hSw=>?_) ?_;rotate_left;(·(obtain⟨y0,y1⟩:=hSw;go_simp;try with_reducible rfl)))
  |(refine Qd (v:=?_) (by rfl) (fun w6=>?_) ?_;rotate_left;(·(go_simp;try with_reducible rfl)))
  |refine Qe (by rfl) ?_);(try simp only[Act.put,pA,pB,pC]))
 refine Ql (fun _ w'=>∃wq,(wq.ownsRow B 177 1 (.slice A7 (pr.length+1) Y) (pr.length+1) ((pr.map fun p=>Value.pointer (some ⟨p,0,none⟩))++[.pointer (some ⟨q,0,none⟩)])/\Fr (OwnB (.slice Ar pr.length cr)) w wq)/\w'=(wq.setCell ⟨d,2,none⟩ (.slice (some ⟨bu,0,none⟩) k cu)).setCell ⟨d,3,none⟩ (.slice A7 (pr.length+1) Y)) (by rfl) (by rfl) (fun w6 hSw=>?_) (.inl (by rfl)) (fun v6 hv6=>?_)
 ·(obtain⟨wq,f3,rfl⟩:=hSw;have y4:=(z.out _ f3.2).set_ 2 (.slice (some ⟨bu,0,none⟩) k cu);have y2:=y4.cell 3;have y3:=y4.frozen 3;simp at y2;go_simp;exact⟨wq,f3,rfl⟩)
 skip
 (try simp only[Act.put,pA,pB,pC])
 refine Qu ?_
 rintro w4 ⟨wq,⟨hu,b7⟩,rfl⟩
 have U:=z.out _ b7
 have typed : ∀y,(y=d\/OwnB (.slice Ar pr.length cr) y)->(∃V,Blk w y 97 V)\/(∃V,Blk w y 177 V):=fun y Q=>by
  rcases Q with rfl|Q
  ·exact .inl ⟨_,l.out.blk⟩
  ·rcases b8.out.2 with ⟨e0,_⟩|⟨r,c,cur,e0,h1,h2,_⟩
   ·unfold OwnB at Q;rw[e0] at Q;cases Q
   ·unfold OwnB at Q
    rw[e0] at Q
    have:r=y:=by simpa[Value.ownBlock] using Q
    subst this
    exact .inr ⟨cur,h2⟩
 have c8 : ∀M y,y<w.heap.size->(y=d\/OwnB (.slice Ar pr.length cr) y)->Far2 w M y:=fun M y _ Q=>by
  rcases typed _ Q with ⟨c1,I⟩|⟨c1,I⟩
  ·exact Far2.blk I (by decide)
  ·exact Far2.blk I (by decide)
 have notT : ∀{T:TypeId} {V:Array Value} {y:Nat},Blk w y T V->T≠97->T≠177->¬(y=d\/OwnB (.slice Ar pr.length cr) y):=fun H h1 h2 Q=>by
  rcases typed _ Q with ⟨c1,I⟩|⟨c1,I⟩
  ·exact Blk.ne_ H I h1 rfl
  ·exact Blk.ne_ H I h2 rfl
 have S:=((U.set_ 2 (.slice (some ⟨bu,0,none⟩) k cu)).set_ 3 (.slice A7 (pr.length+1) Y)).eq_ (show _ = #[.pointer (some ⟨g,0,none⟩),.int .i64 st.depth,.slice (some ⟨bu,0,none⟩) k cu,.slice A7 (pr.length+1) Y,.map (some m),.slice none 0 0,.pointer none,.int .i64 st.state,.int .i64 st.saved,.int .i64 st.last] by simp)
 have E:=Qt (i:=3) (u:=.slice A7 (pr.length+1) Y) (Qt (i:=2) (u:=.slice (some ⟨bu,0,none⟩) k cu) hu U (by decide)) (U.set_ 2 (.slice (some ⟨bu,0,none⟩) k cu)) (by decide)
 have F:=((b7.more (S':=fun y=>y=d\/OwnB (.slice Ar pr.length cr) y) (fun _ _ h=>.inr h)).setCell (p:=⟨d,2,none⟩) (.inl (.inl rfl)) (.slice (some ⟨bu,0,none⟩) k cu)).setCell (p:=⟨d,3,none⟩) (.inl (.inl rfl)) (.slice A7 (pr.length+1) Y)
 obtain⟨w4,c5⟩:=ZN ((wq.setCell ⟨d,2,none⟩ (.slice (some ⟨bu,0,none⟩) k cu)).setCell ⟨d,3,none⟩ (.slice A7 (pr.length+1) Y))
 rw[c5] at S E F ⊢
 have D:=l.out.text.blk.fr F (notT l.out.text.blk (by decide) (by decide))
 have a8:=a7.fr F (notT a7 (by decide) (by decide))
 have a5:=HQ.out.fr F (notT HQ.out (by decide) (by decide))
 have HX:=Zh (show w4.drew.cell? ⟨d,0,none⟩=some (.pointer (some ⟨g,0,none⟩))/\w4.drew.cell? ⟨q,0,none⟩=some (.pointer (some ⟨s1,0,none⟩)) from ⟨S.drew.cell 0,a5.drew.cell 0⟩)
 clear c5 U hu b7 b5 g6 e8 d7 d3
 go_wp2_with fail
 refine Qg (fun w'=>w'.cell? ⟨d,0,none⟩=some (.pointer (some ⟨g,0,none⟩))/\w'.cell? ⟨q,0,none⟩=some (.pointer (some ⟨s1,0,none⟩))) (fun w'=>w'=w4.drew) (fun k=>k==8) (fun k=>k==8) (fun _=>false) (by kernel_rfl) (by kernel_rfl) (rfl) (fun w' h=>by subst h;exact HX.out) ?_
 repeat ((first
  |(refine Qc (v:=?_) (by rfl) (by rfl) (fun w6 hSw=>?_) ?_;rotate_left;(·(obtain⟨y0,y1⟩:=hSw;go_simp;try with_reducible rfl)))
  |(refine Qd (v:=?_) (by rfl) (fun w6=>?_) ?_;rotate_left;(·(go_simp;try with_reducible rfl)))
  |refine Qe (by rfl) ?_);(try simp only[Act.put,pA,pB,pC]))
 refine Qn (f:=?_) (args:=?_) (fun v w'=>v=.int .i64 0/\w'=w4.drew.setCell ⟨g,2,none⟩ (.pointer P)) (by rfl) (by rfl) (fun w6 hSw=>?_) (fun w6 hSw=>?_) (.inl (by rfl)) (fun v6 hv6=>?_)
 rotate_left 2
 ·(skip;go_simp;first|done|(constructor<;>with_reducible rfl)|with_reducible rfl)
 ·(subst hSw;refine(Qh6 g s1 _ P _ D.drew ⟨_,rfl⟩ a8.drew).mono ?_;rintro e w' ⟨rfl,rfl⟩;exact⟨_,rfl,rfl,rfl⟩)
 obtain⟨wz,rfl,-⟩:=hv6
 (try simp only[Act.put,pA,pB,pC])
 refine Qu ?_
 rintro w5 ⟨-,rfl⟩
 have C:w4.drew.ownsRow B 5 1 add n xs:=QaD l.out.text.row F.drew (fun b V hs I=>notT I (by decide) (by decide) hs)
 have b4 : MapE w4.drew st.mb m := l.out.map.fr F.drew (fun Q=>by
  rcases typed _ Q with ⟨c1,I⟩|⟨c1,I⟩
  ·exact l.out.map.ne_blk I rfl
  ·exact l.out.map.ne_blk I rfl)
 have Z : ∀M,GKeep M add add n n enc w (w4.drew.setCell ⟨g,2,none⟩ (.pointer P)):=fun M=>(GKeep.far F.drew (c8 M)).trans (GKeep.step (TStep.set C D.drew l.out.text.ne 2 _) C D.drew)
 have a1:=(D.drew.set_ 2 (.pointer P)).eq_ (show _ = #[.int .i64 enc,.int .i64 lim,.pointer P,add] by simp)
 have o:=S.drew.far (p:=⟨g,2,none⟩) d5 (.pointer P)
 have L:=a5.drew.far (p:=⟨g,2,none⟩) (Blk.ne_ a5 D (by decide)) (.pointer P)
 have A:=Qt (i:=2) (u:=.pointer P) C D.drew (by decide)
 have O:=Qt (i:=2) (u:=.pointer P) (show w4.drew.ownsRow B 177 1 (.slice A7 (pr.length+1) Y) (pr.length+1) ((pr.map fun p=>Value.pointer (some ⟨p,0,none⟩))++[.pointer (some ⟨q,0,none⟩)]) from ⟨E.1,E.2⟩) D.drew (by decide)
 have s:=b4.far (p:=⟨g,2,none⟩) (fun e=>b4.ne_blk D.drew e) (.pointer P)
 have a3:=(F.drew.more (S':=fun y=>y=g\/y=d\/OwnB (.slice Ar pr.length cr) y) (fun _ _ h=>.inr h)).setCell (p:=⟨g,2,none⟩) (.inl (.inl rfl)) (.pointer P)
 obtain⟨w5,d9⟩:=ZN (w4.drew.setCell ⟨g,2,none⟩ (.pointer P))
 rw[d9] at Z a1 o L A O s a3 ⊢
 have a6 : ∀w6,ZB w5 w6->QrC N B d g enc lim n add st xs m us G w (.returned (.tuple #[.int .i64 G.bgn,.int .i64 0])) (w6.setCell ⟨d,7,none⟩ (.int .i64 G.old)):=by
  intro w6 J
  have K:=o.below J
  have b3:Fr (fun y=>y=g\/y=d\/OwnB (.slice Ar pr.length cr) y) w (w6.setCell ⟨d,7,none⟩ (.int .i64 G.old)):=(a3.bel J).setCell (p:=⟨d,7,none⟩) (.inl (.inr (.inl rfl))) _
  have c0 : ∀M,GKeep M add add n n enc w (w6.setCell ⟨d,7,none⟩ (.int .i64 G.old)):=fun M=>((Z M).trans (GKeep.below A a1 J)).trans (GKeep.far (show Fr (· = d) w6 _ from (Fr.refl _ _).set1 7 _) (fun k _ hk=>hk▸Far2.blk K (by decide)))
  have b0:=b3.size
  have i7:TextM (w6.setCell ⟨d,7,none⟩ (.int .i64 G.old)) B g enc lim n add t2 P xs:=⟨(a1.below J).far (p:=⟨d,7,none⟩) (Ne.symm d5) _,Qt (QN A J) K (by decide),l.out.text.enc4,Nat.le_trans l.out.text.base b0,(c0 N).tree t2 P h5⟩
  have f8:=(K.set_ 7 (.int .i64 G.old)).eq_ (show _ = #[.pointer (some ⟨g,0,none⟩),.int .i64 st.depth,.slice (some ⟨bu,0,none⟩) k cu,.slice A7 (pr.length+1) Y,.map (some m),.slice none 0 0,.pointer none,.int .i64 G.old,.int .i64 st.saved,.int .i64 st.last] by simp)
  have d6 : StackAt (w6.setCell ⟨d, 7, none⟩ (.int .i64 G.old)) N B g add n enc (.slice (some ⟨bu, 0, none⟩) k cu) us := h7.out.keep (c0 N) (Nat.le_refl _) (fun m' j9 ho=>QeE ho b3 (fun b H hs=>by
   have c4:bu=b:=by simpa[Value.ownBlock] using H
   subst c4
   rcases hs with h1|h1|h1
   ·exact Blk.ne_ b9 l.out.text.blk (by decide) h1
   ·exact Blk.ne_ b9 l.out.blk (by decide) h1
   ·exact l.out.sep bu rfl h1))
  have g7:StackAt (w6.setCell ⟨d,7,none⟩ (.int .i64 G.old)) N B g add n enc (.slice A7 (pr.length+1) Y) (st.redo++[G]):=StackAt.push h4.out g3 (c0 N) HG.out (Qt (QN O J) K (by decide)) hr
  refine⟨rfl,⟨t2,P,_,_,f8,i7,i1.out,h9,l.out.lim0,(s.below J).far (fun e=>(s.below J).ne_blk K e) _,d6,g7,fun b H g9=>?_,(by dsimp only;rw[HN.out]),Nat.le_trans l.out.nle b0,l.out.nums,⟨l.out.low.1,l.out.low.2.1,l.out.low.2.2.1,fun _ e=>by cases e⟩⟩,BkFr.of_fr b3 (fun y Q hs=>?_)⟩
  ·have c4:bu=b:=by simpa[Value.ownBlock] using H
   subst c4
   rcases e4.out bu g9 with h1|h1
   ·exact l.out.sep bu rfl h1
   ·have:=b9.lt
    omega
  ·rcases hs with rfl|hs
   ·exact⟨l.out.low.2.1,_,_,l.out.text.blk,.inl rfl⟩
   ·have g0:B<=y:=by
     rcases hs with rfl|hs
     ·exact l.out.low.1
     ·exact hs.low b8.out
    rcases typed _ hs with ⟨c1,I⟩|⟨c1,I⟩
    ·exact⟨g0,_,_,I,.inr (.inr (.inl rfl))⟩
    ·exact⟨g0,_,_,I,.inr (.inr (.inr (.inr (.inr rfl))))⟩
 have b1:=X.keep (Z N).rows
 have a9:=g2.keep (Z N).mvs
 have g4:vs.length=mm:=by have:=X.1;omega
 have h0:N<=w5.heap.size:=Nat.le_trans l.out.nle a3.size
 have e5:=L.cell 4
 have g5 : ∀w6,ZB w5 w6->w6.cell? ⟨q,5,none⟩=some (.int .i64 G.old)/\w6.cell? ⟨q,2,none⟩=some (.int .i64 G.bgn)/\w6.cell? ⟨q,4,none⟩=some (.slice Am mm cm)/\w6.cell? ⟨d,7,none⟩=some (.int .i64 st.state)/\w6.frozen? ⟨d,7,none⟩=false:=fun w6 H=>
  ⟨(L.below H).cell 5,(L.below H).cell 2,(L.below H).cell 4,(o.below H).cell 7,(o.below H).frozen 7⟩
 have k7:q≠d:=Blk.ne_ L o (by decide)
 simp at e5
 have f4:=Zh a6
 have i8:=Zh g5
 have h3:=Zh b1
 have e9:=Zh a9
 have f1:=Zh g4
 have d4:=Zh o
 have f7:=Zh s
 clear a6 g5 b1 a9 g4 d9 Z a1 o L A O s a3 C b4 S E F D a8 a5 c2 c3 c6
 go_wp2_with fail
 go_loopg [6] mm (fun j q6 wr=>Qsw w5 mm j q6 wr)
 case atStart=>exact⟨_,rfl,Below.refl _ _,by omega,by omega,by omega⟩
 case round=>
  obtain⟨i,rfl,R,j7,j8,k6⟩:=hrel
  obtain⟨w6,j0⟩:∃x,x=wr:=⟨_,rfl⟩
  subst j0
  obtain⟨x0,x1,x2,x3,x4⟩:=i8.out w6 R
  by_cases hi:0<=i
  ·obtain⟨j,rfl⟩:=Int.eq_ofNat_of_zero_le hi
   have hj:j<mm:=by omega
   have d8:=h3.out.keep (KeepTy.below R)
   have g1:=e9.out.keep (KeepTy.below R)
   obtain⟨vb,vo,vcs,rfl,-,f5,d0⟩:=d8.2 (by omega)
   obtain⟨v,hv⟩:∃v,vs[j]? = some v:=⟨_,List.getElem?_eq_getElem (by have:=f1.out;omega)⟩
   obtain⟨mv,a0⟩:∃mv,G.moves[j]? = some mv:=⟨_,List.getElem?_eq_getElem (by have:=f1.out;have:=e9.out.1;omega)⟩
   obtain⟨A',m',c',rfl,j5,d2,g8⟩:=g1.2 j v mv hv a0
   have xv:w6.cell? ⟨vb,vo+j,none⟩=some (.slice A' m' c'):=by rw[f5.cell];exact d0 j _ hv
   have KI:=Zh (Qji N A' m' c' mv w6 d2 (Nat.le_trans h0 R.size) g8 (by have:=i0 mv (List.mem_of_getElem? a0);omega))
   have e7:IntKind.i64.wrap ((j:Int)-1)=(j:Int)-1:=IntWalk.i64_in _ (by omega)
   have b6:=Zh R
   clear d8 g1 f5 d0 hv a0 d2 g8 hi
   go_wp2_with fail
   refine(KI.out).mono ?_
   rintro e w7 ⟨⟨v7,rfl⟩,hb7⟩
   go_wp2_with fail
   refine(Qfq w7 d m _ v7 ((d4.out.below b6.out).below hb7) rfl rfl ((f7.out.below b6.out).below hb7).1).mono ?_
   rintro e w8 ⟨rfl,f6⟩
   have j1:=Zh (Qf b6.out (Qf hb7 f6))
   clear hb7 f6
   go_wp2_with fail
   go_roundg j
   case measure=>omega
   case rel=>exact⟨_,rfl,j1.out,by omega,by omega,by omega⟩
  ·have q1:(0<=i)=False:=eq_false hi
   have i6:=Zh R
   clear hi R
   go_wp2_with fail
   (try simp only[Exit.inBlock,Exit.then])
   exact bodyPost_ret (v:=.tuple #[.int .i64 G.bgn,.int .i64 0]) (by simp[results,Tryz.results62,go_sem]) rfl (f4.out w6 i6.out)
def Qhn (enc depth:Int)(l:List Int)(mk:Nat):BkS:={ ats:=QbS 0 0 (dec enc l),undo:=[],redo:=[],now:=none,state:=0,saved:=0,last:=0,depth:=depth,mb:=mk }
def QhZ (gb a:Nat)(native:Int):Array Value := #[.pointer (some ⟨gb,0,none⟩),.pointer (some ⟨a,0,none⟩),.int .i64 0,.slice none 0 0,.slice none 0 0,.slice none 0 0,.int .i64 0,.bool false,.bool false,.int .i64 native]
theorem QlF {enc depth:Int}{l:List Int}{mk:Nat}(b:enc=1\/enc=2\/enc=3\/enc=4)(a:Byt l):Qb enc (Qhn enc depth l mk).ats=dec enc l:=by
 have h1:=QhV enc b l.length l (Nat.le_refl _) a
 unfold Qb Qhn
 dsimp only
 rw[QgJ]
 exact h1.symm
theorem Qrq {enc:Int}{l:List Int}:szS (dec enc l)=(l.length:Int):=QjL enc l.length l (Nat.le_refl _)
theorem NewDesk.is {B:Nat}{enc lim native depth:Int}{l:List Int}{w:World}{gd gb q m u mk:Nat}(h:NewDesk B enc lim native depth l w gd gb q m u mk)(y:l.length<=65536)(d:lim<=65536)(s:1<=depth/\depth<=200) :
  DeskIs w B gd gb q enc lim 0 (Qhn enc depth l mk) (QhZ gb u (Qhq ((dec enc l).map Prod.fst) native)):=by
 have e:((dec enc l).map Prod.snd).sum<=65536:=by rw[QjL enc l.length l (Nat.le_refl _)];omega
 obtain⟨t,a,j,r,f⟩:=h.text.textM e
 have c:=h.ge
 have x:=h.book.1.lt
 have o:TextM w B q enc lim 0 (.slice none 0 0) t a []:=⟨j.blk,World.ownsRow_nil _ _ _ _,j.enc4,by omega,j.tree⟩
 refine⟨h.desk,rfl,c.1,w.heap.size,.slice none 0 0,t,a,[],m,.slice none 0 0,.slice none 0 0,none,0,Nat.le_refl _,?_⟩
 refine⟨h.book.1,o,f,by rw[r];exact e,d,⟨h.book.2,c.2.2.2.2.2.2,h.bank.2.lt⟩,?_,?_,fun b v=>(by cases v),rfl,Nat.le_refl _,⟨Int.le_refl 0,(show (0:Int)<=1073741824 by decide),s.1,s.2⟩,⟨c.2.1,c.2.2.1,by omega,fun p hp=>(by cases hp)⟩⟩
 ·exact⟨[],World.ownsRow_nil _ _ _ _,rfl,fun i p G k=>by simp at k,by simp[Qhn]⟩
 ·exact⟨[],World.ownsRow_nil _ _ _ _,rfl,fun i p G k=>by simp at k,by simp[Qhn]⟩
theorem TextTag.old {w:World}{g:Nat}{enc:Int}{ats:List (Int × Int)}(h:TextTag w Any g enc ats):TextTag w (fun b=>b<w.heap.size) g enc ats:=by
 obtain⟨lim,t,a,add,h,e⟩:=h
 exact⟨lim,t,a,add,⟨h.blk,h.enc4,h.node,h.len,h.tot,h.ok,fun p hp=>Reads.more (h.bts p hp) (fun b _ c=>c) (by decide)⟩,e⟩
theorem TextTag.below {w w':World}{D:Nat->Prop}{g:Nat}{enc:Int}{ats:List (Int × Int)}(h:TextTag w D g enc ats)(b:ZB w w'):TextTag w' D g enc ats:=by
 obtain⟨lim,t,a,add,h,e⟩:=h
 exact⟨lim,t,a,add,h.below b,e⟩
theorem QlC (g:Nat)(enc:Int)(ats:List (Int × Int))(f tt:Int)(w:World)(h:TextTag w Any g enc ats)(q : -2147483648<=f)(u:tt<=2147483648) :
  Calls Tryz.prog 107 #[.pointer (some ⟨g,0,none⟩),.int .i64 f,.int .i64 tt] w fun e w'=>NewInts (seg f tt (ats.map Prod.snd)) w e w':=by
 have l:ZB w (w.alloc (.cells #[.slice none 0 0] 36)):=Qa (Below.refl _ w)
 have m:=h.old.below l
 have i:=QfJ 139 #[.pointer (some ⟨w.heap.size,0,none⟩)] (fun(s:List Int) X w'=>Qpn w.heap.size w.heap.size s X w'/\w.heap.size<=w'.heap.size) (fun s _ t=>s++[t]) List.length (Qhx _ _ (Nat.le_refl _))
  (fun b=>b<w.heap.size) g enc ats f tt [] (fun b=>b=w.heap.size\/(Value.slice none 0 0).ownBlock=some b) _ m (fun b a _ d=>by rcases d with rfl|d;exact absurd a (Nat.lt_irrefl _);simp[Value.ownBlock] at d)
  ⟨⟨_,Blk.new w _ _,⟨rfl,.inl ⟨rfl,rfl⟩⟩,rfl⟩,by simp⟩ (by simp) q u
 rw[QhH,Qjs,List.nil_append] at i
 obtain⟨L,j⟩:=ZN (seg f tt (ats.map Prod.snd))
 rw[j] at i ⊢
 have o:=Zh i
 clear i j
 go_enter Tryz.func107,Tryz.ntmps107
 go_wp2_with fail
 refine(o.out).mono ?_
 rintro e w1 ⟨rfl,⟨X',⟨⟨v,a,k,rfl⟩,x⟩,d⟩,r⟩
 have c0:=a.cell 0
 simp at c0
 have p:=Zh k
 have c:ZB w w1:=bfr l r (fun b a=>by rcases a with rfl|a;exact Nat.le_refl _;simp[Value.ownBlock] at a)
 clear k d
 go_wp2_with fail
 go_ret
 exact⟨v,rfl,p.out,c⟩
theorem Qh3 {α : Type}(l:List α):seg 0 (l.length:Int) l=l:=by unfold seg;simp
section
variable {B gd gb g n:Nat} {enc lim:Int} {st:BkS} {dc:Array Value} {w:World}
theorem Qeo (h:DeskIs w B gd gb g enc lim n st dc):Calls Tryz.prog 11 #[.pointer (some ⟨gb,0,none⟩)] w fun e w'=>e=.returned (.pointer (some ⟨g,0,none⟩))/\w=w':=by
 obtain⟨c,a,b⟩:=h.blkB
 exact QcO w gb g c a b
theorem QbE (h:DeskIs w B gd gb g enc lim n st dc){gB:Nat}{vR:Value}(i:Blk w gB 52 #[.pointer (some ⟨gd,0,none⟩),vR]) :
  Calls Tryz.prog 16 #[.pointer (some ⟨gB,0,none⟩)] w fun e w'=>NewInts (st.ats.map Prod.fst) w e w':=by
 have p:=Zh (Qeo h)
 have f:=h.len
 have b:=QaS Any g enc (Qb enc st.ats) w h.at_
 rw[Qr] at b
 have c:=fun(w':World) (m:ZB w w')=>Qap Any g enc (Qb enc st.ats) 0 (st.ats.length:Int) w' (h.below m).at_ (by omega) (by omega)
 have l:seg 0 (st.ats.length:Int) ((Qb enc st.ats).map Prod.fst)=st.ats.map Prod.fst:=by
  rw[Qaq]
  have:=Qh3 (st.ats.map Prod.fst)
  rwa [List.length_map] at this
 rw[l] at c
 obtain⟨N,k⟩:=ZN (st.ats.length)
 rw[k] at b c
 have r:=Zh b
 have q:=Zh c
 have cd:=(h.desk.cell 0).trans h.c0
 obtain⟨cb,-⟩:=Qcl i
 clear b c h l k i
 go_enter Tryz.func16,Tryz.ntmps16
 go_wp2_with fail
 refine(p.out).mono ?_
 rintro e w1 ⟨rfl,rfl⟩
 go_wp2_with fail
 refine(r.out).mono ?_
 rintro e w1 ⟨rfl,a⟩
 go_wp2_with fail
 refine(q.out _ a).mono ?_
 rintro e s ⟨v,rfl,j,d⟩
 have o:=Zh j
 clear j
 go_wp2_with fail
 go_ret
 exact⟨v,rfl,Qan o.out a.size,Qf a d⟩
theorem Qng (h:DeskIs w B gd gb g enc lim n st dc){gB:Nat}{vR:Value}(i:Blk w gB 52 #[.pointer (some ⟨gd,0,none⟩),vR]) :
  Calls Tryz.prog 61 #[.pointer (some ⟨gB,0,none⟩)] w fun e w'=>NewInts (st.ats.map Prod.snd) w e w':=by
 have p:=Zh (Qeo h)
 have f:=h.len
 have b:=QaS Any g enc (Qb enc st.ats) w h.at_
 rw[Qr] at b
 have c:=fun(w':World) (m:ZB w w')=>QlC g enc st.ats 0 (st.ats.length:Int) w' (h.below m).tags (by omega) (by omega)
 have l:seg 0 (st.ats.length:Int) (st.ats.map Prod.snd)=st.ats.map Prod.snd:=by
  have:=Qh3 (st.ats.map Prod.snd)
  rwa [List.length_map] at this
 rw[l] at c
 obtain⟨N,k⟩:=ZN (st.ats.length)
 rw[k] at b c
 have r:=Zh b
 have q:=Zh c
 have cd:=(h.desk.cell 0).trans h.c0
 obtain⟨cb,-⟩:=Qcl i
 clear b c h l k i
 go_enter Tryz.func61,Tryz.ntmps61
 go_wp2_with fail
 refine(p.out).mono ?_
 rintro e w1 ⟨rfl,rfl⟩
 go_wp2_with fail
 refine(r.out).mono ?_
 rintro e w1 ⟨rfl,a⟩
 go_wp2_with fail
 refine(q.out _ a).mono ?_
 rintro e s ⟨v,rfl,j,d⟩
 have o:=Zh j
 clear j
 go_wp2_with fail
 go_ret
 exact⟨v,rfl,Qan o.out a.size,Qf a d⟩
theorem QmI (h:DeskIs w B gd gb g enc lim n st dc)(hn:st.now=none){us:List Gr}{G:Gr}(o:st.undo=us++[G])(l:st.redo.length<1048576)(f : ∀mv,mv ∈ G.moves->mv.length<=1048576) :
  Calls Tryz.prog 62 #[.pointer (some ⟨gb,0,none⟩)] w fun e w'=>e=.returned (.tuple #[.int .i64 G.bgn,.int .i64 0])/\DeskIs w' B gd gb g enc lim n { st with ats:=G.before,undo:=us,redo:=st.redo++[G],state:=G.old } dc/\BkFr B w w':=by
 obtain⟨N,add,t,a,xs,m,vu,vr,now,j,i,p⟩:=h.book
 refine(QlN N B gb g enc lim j add st t a xs m vu vr now us G w p hn o l f).mono ?_
 rintro e w' ⟨rfl,⟨r,q,b,c,d⟩,k⟩
 exact⟨rfl,h.bk k ⟨N,add,r,q,xs,m,b,c,none,j,i,d⟩,k⟩
end
def abS:Start:=⟨0,0,0,9,[97,98]⟩
theorem Qs5:abS.E=1:=by kernel_rfl
theorem Qs3:abS.l=[97,98]:=by kernel_rfl
theorem QrI:abS.lim=11:=by kernel_rfl
theorem Qsa:abS.nat=1:=by kernel_rfl
theorem QrS:abS.dep=1:=by kernel_rfl
theorem QqU:Qhq ((dec 1 [97,98]).map Prod.fst) 1=1:=by kernel_rfl
def abN (mk:Nat):BkS:=Qhn 1 1 [97,98] mk
theorem Qkk (mk:Nat):(abN mk).ats=[(97,0),(98,1)]:=by kernel_rfl
theorem QrT (mk:Nat)(A:Option Addr)(c:Nat):QbN 1 11 (Qb 1 (abN mk).ats) [QA 2 [120] A c]=0:=by
 rw[Qkk mk]
 rfl
theorem Qky (mk:Nat)(A:Option Addr)(k:Nat):(QkS (abN mk) 2 [120] A k).ats.map Prod.fst=[97,98,120]/\(QkS (abN mk) 2 [120] A k).ats.map Prod.snd=[0,1,-1]:=by
 unfold QkS
 dsimp only
 rw[QjX,Qkk mk]
 exact⟨rfl,rfl⟩
theorem NewInts.slice {l:List Int}{w w':World}{e:Ending}(h:NewInts l w e w'):∃A c,e=.returned (.slice A l.length c)/\Ints w' Any A l.length l/\l.length<=c/\ZB w w':=by
 obtain⟨v,rfl,a,b⟩:=h
 obtain⟨A,c,rfl,d⟩:=Qj a
 exact⟨A,c,rfl,Reads.more (Reads.of_own a) (fun _ _ _=>trivial) (by decide),d,b⟩
theorem Qg4 (w:World)(l:List Int)(H:Nat)(a:w.heap.size=H):Ints (w.alloc (.cells (l.map (Value.int .i64)).toArray 3)) Any (some ⟨H,0,none⟩) l.length l:=by
 subst a
 refine⟨by simp,fun _=>⟨_,rfl,trivial,fun j u b=>?_⟩⟩
 exact QaU w 3 _ j u (by simpa using b)
theorem Qk3 (w:World)(gB:Nat):Calls Tryz.prog 15 #[.pointer (some ⟨gB,0,none⟩)] w fun e w'=>e=.returned (.bool true)/\ZB w w':=by
 have I:ZB w (w.alloc (.cells #[.int .u8 97,.int .u8 98] 5 (2,3))):=Qa (Below.refl _ _)
 have a3:Bts (w.alloc (.cells #[.int .u8 97,.int .u8 98] 5 (2,3))) Any (some ⟨w.heap.size,0,none⟩) 2 abS.data:=by
  refine⟨rfl,fun _=>⟨_,rfl,trivial,fun j u hu=>?_⟩⟩
  rw[QaF,cell_of_row _ _ _ _ _ (2,3) (heap_alloc_new w _),Nat.zero_add]
  simpa[abS] using hu
 have a9:Calls Tryz.prog 14 #[.agg #[.int .i64 0,.slice (some ⟨w.heap.size,0,none⟩) 2 2,.int .i64 0,.int .i64 0,.int .i64 9]] (w.alloc (.cells #[.int .u8 97,.int .u8 98] 5 (2,3))) fun e w'=>QhW abS (w.alloc (.cells #[.int .u8 97,.int .u8 98] 5 (2,3))) e w':=Qir abS _ 2 2 _ a3 (fun x hx=>by simp[abS] at hx;omega) ⟨by decide,by decide⟩ ⟨by decide,by decide⟩ ⟨by decide,by decide⟩
 have b5:=Lib.run_convert_bytes_const (P:=Tryz.prog) w 47 5 #[.int .u8 97,.int .u8 98] 2 2 Tryz.underlying47 Tryz.underlying5
 have L:(#[Value.int .u8 97,.int .u8 98]:Array Value).size=2:=rfl
 rw[L] at b5
 clear L
 have d1:=Zh a9
 clear a9
 go_enter Tryz.func15,Tryz.ntmps15
 go_wp2_with fail
 refine(d1.out).mono ?_
 rintro e T ⟨t,gb,gt,m,gk,mk,v,f3,f1,e9,ld,rfl,d2,W⟩
 have hD:=d2.D
 rw[Qs5,Qs3,QrI,Qsa,QrS] at hD
 have hd:=hD.is (by decide) (by decide) (by decide)
 rw[QqU] at hd
 have HD:=Zh hd
 clear hd hD d2 d1
 obtain⟨w1,s⟩:∃x,w.alloc (.cells #[.int .u8 97,.int .u8 98] 5 (2,3))=x:=⟨_,rfl⟩
 rw[s] at I a3 W HD
 clear s a3 b5
 obtain⟨B,hB⟩:=ZN (w1.heap.size)
 rw[hB] at HD
 have d7:w.heap.size<=B:=by have h1:=I.size;rw[hB] at h1;exact h1
 clear hB
 go_upto_region 4 with fail
 have b4:=Qf I W
 have h:Blk (T.alloc (.cells #[.pointer (some ⟨t,0,none⟩),.pointer (some ⟨v,0,none⟩)] 52)) T.heap.size 52 #[.pointer (some ⟨t,0,none⟩),.pointer (some ⟨v,0,none⟩)]:=Blk.new T _ _
 have g:=HD.out.below (Qa (o:=.cells #[.pointer (some ⟨t,0,none⟩),.pointer (some ⟨v,0,none⟩)] 52) (Below.refl T.heap.size T))
 have Z:ZB w (T.alloc (.cells #[.pointer (some ⟨t,0,none⟩),.pointer (some ⟨v,0,none⟩)] 52)):=Qa b4
 obtain⟨bo,c8⟩:∃x,T.heap.size=x:=⟨_,rfl⟩
 obtain⟨w3,N⟩:∃x,T.alloc (.cells #[.pointer (some ⟨t,0,none⟩),.pointer (some ⟨v,0,none⟩)] 52)=x:=⟨_,rfl⟩
 rw[c8] at h ⊢
 rw[N] at h g Z ⊢
 clear N c8 W I b4 HD
 obtain⟨c0,-⟩:=Qcl h
 have e2:=g.desk.cell 2
 have f2:=g.desk.frozen 2
 simp[QhZ] at e2
 have H:=g.set (i:=2) (by decide) (.int .i64 2)
 have q:=h.far (p:=⟨t,2,none⟩) (Blk.ne_ h g.desk (by decide)) (.int .i64 2)
 have e5:DFr B (· = t) w3 (w3.setCell ⟨t,2,none⟩ (.int .i64 2)):=DFr.of_x ((Fr.refl _ _).set1 2 _)
 have e1:B<=t:=g.low
 have d9:bo≠t:=Blk.ne_ h g.desk (by decide)
 go_upto_region 5 with fail
 obtain⟨J,a⟩:∃x,(QhZ gb gk 1).setIfInBounds 2 (.int .i64 2)=x:=⟨_,rfl⟩
 have z4:J.size=10:=by rw[<-a];rfl
 have e4:J[2]? = some (.int .i64 2):=by rw[<-a];rfl
 have d6:J[9]? = some (.int .i64 1):=by rw[<-a];rfl
 have V:ZB w (w3.setCell ⟨t,2,none⟩ (.int .i64 2)):=Z.setCell (Nat.le_trans d7 e1) _
 obtain⟨w4,M⟩:∃x,w3.setCell ⟨t,2,none⟩ (.int .i64 2)=x:=⟨_,rfl⟩
 rw[M] at H q V ⊢
 rw[a] at H
 clear M a g h Z e5 e2 f2 c0
 have R:=q.alloc (.cells #[.int .i64 120] 3)
 have c1:ZB w (w4.alloc (.cells #[.int .i64 120] 3)):=Qa V
 have c6:Ints (w4.alloc (.cells #[.int .i64 120] 3)) (fun b=>b<(w4.alloc (.cells #[.int .i64 120] 3)).heap.size/\∃cs,Blk (w4.alloc (.cells #[.int .i64 120] 3)) b 3 cs) (some ⟨w4.heap.size,0,none⟩) 1 [120]:=
  ⟨rfl,fun _=>⟨_,rfl,⟨by simp,_,Blk.new w4 _ _⟩,cell_one_new _ _ _⟩⟩
 have hT:=Qo4 B t gb gt 0 1 11 2 1 (Qhn 1 1 [97,98] mk) J (some ⟨w4.heap.size,0,none⟩) 1 1 [120] _ (H.below (Qa (Below.refl _ _))) rfl z4 e4 d6 (.inl rfl) c6 ⟨by decide,by decide⟩ (fun x hx=>by simp at hx;omega) ⟨by decide,(show (2:Int)<=((abN mk).ats.length:Int) by rw[Qkk mk];decide)⟩ (QrT mk) (by decide) (by first|decide|(show ((0:Nat):Int)<1;decide)|(show (0:Int)<1073741824;decide)) (by first|decide|(show ((0:Nat):Int)<1;decide)|(show (0:Int)<1073741824;decide))
 have HT:=Zh hT
 obtain⟨c0,-⟩:=Qcl q
 clear hT c6 H
 go_wp2_with fail
 refine(HT.out).mono ?_
 rintro e w6 ⟨rfl,A',k',a2,a7⟩
 have E:=a7.blk R (by decide) d9
 have a6 : ZB w w6 := bfr c1 a7 (fun i hs=>by
  rcases hs with ⟨h1,_⟩|h1
  ·omega
  ·omega)
 have y:=QbE a2 E
 rw[show (QkS (Qhn 1 1 [97,98] mk) 2 [120] A' k').ats.map Prod.fst=[97,98,120] from (Qky mk A' k').1] at y
 have S:=Zh y
 have b3:=Zh a2
 clear y a2 a7 c0 HT V c1 q R
 go_wp2_with fail
 refine(S.out).mono ?_
 intro e w7 d
 obtain⟨A7,c7,rfl,Y,b7,hb7⟩:=d.slice
 simp only[List.length_cons,List.length_nil,Nat.zero_add,Nat.reduceAdd] at Y b7 ⊢
 have e7:=Qf a6 hb7
 have a8:=Qca (c:=c7) (c':=3) (Reads.below Y (Qa (o:=.cells #[.int .i64 97,.int .i64 98,.int .i64 120] 3) (Below.refl w7.heap.size w7))) (Qg4 w7 [97,98,120] _ rfl) (by decide)
 have b1:=Zh a8
 clear a8 d Y b7
 go_wp2_with fail
 refine(b1.out).mono ?_
 rintro e w8 ⟨rfl,c5⟩
 have f:=Qf hb7 (Qf (Qa (o:=.cells #[.int .i64 97,.int .i64 98,.int .i64 120] 3) (Below.refl w7.heap.size w7)) c5)
 have e3:=Qf a6 f
 have F:=E.below f
 have a4:=b3.out.below f
 obtain⟨c0,-⟩:=Qcl F
 have e2:=a4.desk.cell 2
 rw[Array.getElem?_setIfInBounds_self_of_lt (by omega)] at e2
 simp only[List.length_cons,List.length_nil] at e2
 have X:=Qng a4 F
 rw[show (QkS (Qhn 1 1 [97,98] mk) 2 [120] A' k').ats.map Prod.snd=[0,1,-1] from (Qky mk A' k').2] at X
 have c3:=Zh X
 clear X a4 c5 hb7 e7 b1 S
 go_wp2_with fail
 refine(c3.out).mono ?_
 intro e w9 d
 obtain⟨A9,c9,rfl,a0,d0,b0⟩:=d.slice
 simp only[List.length_cons,List.length_nil,Nat.zero_add,Nat.reduceAdd] at a0 d0 ⊢
 have c4:=Qca (c:=c9) (c':=3) (Reads.below a0 (Qa (o:=.cells #[.int .i64 0,.int .i64 1,.int .i64 (-1)] 3) (Below.refl w9.heap.size w9))) (Qg4 w9 [0,1,-1] _ rfl) (by decide)
 have b6:=Zh c4
 clear c4 d a0 d0 c0 e2
 go_wp2_with fail
 refine(b6.out).mono ?_
 rintro e f4 ⟨rfl,K⟩
 have k:=Qf f (Qf b0 (Qf (Qa (o:=.cells #[.int .i64 0,.int .i64 1,.int .i64 (-1)] 3) (Below.refl w9.heap.size w9)) K))
 have s:=Qf a6 k
 have l:=E.below k
 have r:=b3.out.below k
 obtain⟨c0,-⟩:=Qcl l
 have e0:=(r.desk.cell 0).trans r.c0
 have d4:=QmI r rfl (us:=[]) (G:=⟨(abN mk).ats,edA [QA 2 [120] A' k'] (abN mk).ats,2,2+([120]:List Int).length,[[QiD (QA 2 [120] A' k')]],0,1⟩) rfl (show (0:Nat)<1048576 by decide) (fun mv hm=>by simp at hm;subst hm;simp)
 have b2:=Zh d4
 clear d4 r K b0 e3 b6 c3 f F
 go_wp2_with fail
 refine(b2.out).mono ?_
 rintro e e6 ⟨rfl,Q,C⟩
 have a1:=C.blk l (by decide)
 have c2:ZB w e6:=bfr s C (fun i hs=>by have:=hs.1;omega)
 have n:=QbE Q a1
 rw[show List.map Prod.fst ((abN mk).ats)=[97,98] by rw[Qkk mk];rfl] at n
 have a5:=Zh n
 clear n Q C l b2 c0 e0
 go_wp2_with fail
 refine(a5.out).mono ?_
 intro e z d
 obtain⟨f0,d8,rfl,A,U,b8⟩:=d.slice
 simp only[List.length_cons,List.length_nil,Nat.zero_add,Nat.reduceAdd] at A U ⊢
 have O:=Qca (c:=d8) (c':=2) (Reads.below A (Qa (o:=.cells #[.int .i64 97,.int .i64 98] 3) (Below.refl z.heap.size z))) (Qg4 z [97,98] _ rfl) (by decide)
 have d5:=Zh O
 clear O d A U
 go_wp2_with fail
 refine(d5.out).mono ?_
 rintro e e8 ⟨rfl,d3⟩
 have b9:=Qf c2 (Qf b8 (Qf (Qa (o:=.cells #[.int .i64 97,.int .i64 98] 3) (Below.refl z.heap.size z)) d3))
 go_wp2_with fail
 go_ret
 exact⟨rfl,b9⟩
theorem QpC (s:Start):(s.E=1\/s.E=2\/s.E=3\/s.E=4)/\s.l.length<=4096/\(s.l.length:Int)<=s.lim/\s.lim<=65536/\1<=s.dep/\s.dep<=200:=by
 have h1:=QX s.room 4096 (by omega)
 have b:=QX s.depth 199 (by omega)
 have a:s.l.length<=4096:=by unfold Start.l;rw[List.length_take];omega
 unfold Start.E Start.lim Start.dep
 omega
end Go.Proofs.YtgiihhikdoikgaaGreat
