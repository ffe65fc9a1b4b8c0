/-
  operate.Type, where no line end is typed and the cursor is in the text.
-/
import Derived.Test.YtgiihhikdoikgaaGreatLTyped
import Derived.Test.YtgiihhikdoikgaaGreatLOfLaw
import Derived.Test.YtgiihhikdoikgaaGreatLDel
import Derived.Test.YtgiihhikdoikgaaGreatLEnd3
import Derived.Test.YtgiihhikdoikgaaGreatLHeavy
set_option linter.unusedSimpArgs false
set_option linter.unusedVariables false
set_option maxRecDepth 100000
set_option maxHeartbeats 32000000
namespace Go.Proofs.YtgiihhikdoikgaaGreat
open Go.RowKit
section
variable {B gd gb g n:Nat} {enc lim:Int} {st:BkS} {dc:Array Value} {w:World}
theorem Qae (h:DeskIs w B gd gb g enc lim n st dc):Calls Tryz.prog 34 #[.pointer (some ⟨gd,0,none⟩)] w fun e w'=>e=.returned (.pointer (some ⟨g,0,none⟩))/\w=w':=by
 obtain⟨c,a,b⟩:=h.blkB
 exact QnA gd gb g dc c w h.desk h.c0 a b
theorem QbC (h:DeskIs w B gd gb g enc lim n st dc)(at_:Int) :
  Calls Tryz.prog 31 #[.pointer (some ⟨gd,0,none⟩),.int .i64 at_] w fun e w'=>∃j:Nat,e=.returned (.int .i64 ((Qo (Qb enc st.ats) (Qs (Qb enc st.ats) at_ false)).from_+(mkb (Qbb (Qb enc st.ats) (Qs (Qb enc st.ats) at_ false)) j:Int)))/\ClampOk (Qb enc st.ats) at_ j/\j<=nC (Qbb (Qb enc st.ats) (Qs (Qb enc st.ats) at_ false))/\ZB w w':=by
 have c:=Zh (Qae h)
 have b:=Zh (Qiu Any g enc (Qb enc st.ats) at_ w h.at_)
 clear h
 go_enter Tryz.func31,Tryz.ntmps31
 go_wp2_with fail
 refine(c.out).mono ?_
 rintro e w1 ⟨rfl,rfl⟩
 go_wp2_with fail
 refine(b.out).mono ?_
 rintro e w1 ⟨j,rfl,h1,h2,a⟩
 go_wp2_with fail
 go_ret
 exact⟨j,rfl,h1,h2,a⟩
theorem Qnb {a:List (Int × Int)}(hp:PosD a){at_:Int}{j:Nat}(c:j<=nC (Qbb a (Qs a at_ false))):0<=(Qo a (Qs a at_ false)).from_+(mkb (Qbb a (Qs a at_ false)) j:Int)/\(Qo a (Qs a at_ false)).from_+(mkb (Qbb a (Qs a at_ false)) j:Int)<=(a.length:Int):=by
 have b:=QaO a at_ false
 have e:=Q3 hp b
 have d:=QaE hp b
 have:=QpO c
 omega
theorem QdU (h:DeskIs w B gd gb g enc lim n st dc)(i:Nat)(H:i<=QaG (Qb enc st.ats)) :
  Calls Tryz.prog 39 #[.pointer (some ⟨gd,0,none⟩),.int .i64 (i:Int)] w fun e w'=>e=.returned (.agg (Qo (Qb enc st.ats) i).cells)/\ZB w w':=by
 have m:ZB w (w.alloc (.cells (Ln.mk 0 0 0 0).cells 59)):=Qa (Below.refl _ w)
 have b:Blk (w.alloc (.cells (Ln.mk 0 0 0 0).cells 59)) w.heap.size 59 (Ln.mk 0 0 0 0).cells:=Blk.new w _ _
 have t:=Zh (Qae (h.below m))
 have p:=Zh (Qc0 Any g enc (Qb enc st.ats) i _ (h.below m).at_ H)
 obtain⟨L,z⟩:=ZN (Qo (Qb enc st.ats) i)
 rw[z] at p ⊢
 obtain⟨x0,o,q,s⟩:=L
 unfold Ln.cells at t p m b ⊢
 dsimp only at t p m b ⊢
 clear h z
 go_enter Tryz.func39,Tryz.ntmps39
 go_wp2_with fail
 refine(t.out).mono ?_
 rintro e w1 ⟨rfl,rfl⟩
 go_wp2_with fail
 refine(p.out).mono ?_
 rintro e w1 ⟨rfl,k⟩
 have c:=b.below k
 go_wp2_with fail
 refine(Qb9 _).mono ?_
 rintro e A ⟨rfl,rfl⟩
 have d:=QK (l:=⟨0,0,0,0⟩) (c.alloc (.cells #[.int .i64 x0,.int .i64 o,.int .i64 q,.int .i64 s] 59))
 dsimp only at d
 obtain⟨⟨E,y,C,D⟩,I,J,F,G⟩:=d
 have j:ZB w (w1.alloc (.cells #[.int .i64 x0,.int .i64 o,.int .i64 q,.int .i64 s] 59)):=Qa (Qf m k)
 obtain⟨A,a⟩:∃x,w1.alloc (.cells #[.int .i64 x0,.int .i64 o,.int .i64 q,.int .i64 s] 59)=x:=⟨_,rfl⟩
 have r:Blk A w1.heap.size 59 (Ln.mk x0 o q s).cells:=a▸Blk.new w1 _ _
 rw[a] at E y C D I J F G j ⊢
 have f:=QK r
 dsimp only at f
 obtain⟨⟨K,N,O,M⟩,-⟩:=f
 have u:=Zh (fun(u1 u2 u3 u4:Value)=>Qam (u1:=u1) (u2:=u2) (u3:=u3) (u4:=u4) j (Nat.le_refl _))
 clear a r c k b m p t j
 go_wp2_with fail
 refine bodyPost_ret (v:=.agg #[.int .i64 x0,.int .i64 o,.int .i64 q,.int .i64 s]) (by simp[results,Tryz.results39,go_sem,E,y,C,D]) rfl ⟨rfl,u.out _ _ _ _⟩
theorem QjJ (h:DeskIs w B gd gb g enc lim n st dc){o:OpS}(hn:st.now=some o){D:Nat->Prop}{A:Option Addr}{k c:Nat}{es:List Ed}(J:EdsAt w D A k es)(G : ∀b,D b->b<w.heap.size->∃T E,Blk w b T E/\QfN T)
  (hp:Qf0 es<=268435456) (P:n+131072<=1073741824) (x:o.moves.length<1048576) (I:QbN enc lim (Qb enc st.ats) es=0) :
  Calls Tryz.prog 99 #[.pointer (some ⟨gb,0,none⟩),.slice A k c] w fun e w'=>e=.returned (.int .i64 0)/\DeskIs w' B gd gb g enc lim (n+131072) { st with ats:=edA es st.ats,now:=some { o with moves:=o.moves++[es.map QiD],changed:=o.changed || es.any chg } } dc/\BkFr B w w':=by
 obtain⟨N,add,t,a,xs,m,vu,vr,now,F,L,j⟩:=h.book
 have u:EdsAt w (fun b=>D b/\b<w.heap.size) A k es:=J.more (fun b h1 h2=>⟨h1,h2⟩)
 refine(QfO N B gb g enc lim F add st t a xs m vu vr now o (fun b=>D b/\b<w.heap.size) A k c es w j hn u (fun b y=>?_) hp (by omega) x).mono ?_
 ·obtain⟨T,E,l,v⟩:=G b y.1 y.2
  refine⟨Blk.ne_ l j.text.blk v.1.1,fun f=>Qk j.text.row l (Ne.symm v.1.2.2) f,fun f=>?_⟩
  have z:=j.open_
  rw[hn] at z
  obtain⟨p,M,s,m2,vm,vs,h1,_⟩:=z
  rw[M] at f
  injection f with f
  injection f with f
  exact Blk.ne_ l h1 v.2.2.2.1 f.symm
 ·rintro e w' ⟨rfl,-,d⟩
  rw[I] at d ⊢
  obtain⟨n2,i,K,H,r,q,O,C⟩:=d rfl
  exact⟨rfl,h.bk C ⟨N,i,K,H,r,m,vu,vr,now,n2,by omega,q⟩,C⟩
theorem QeD (h:DeskIs w B gd gb g enc lim n st dc){o:OpS}(hn:st.now=some o){D:Nat->Prop}{A:Option Addr}{k c:Nat}{es:List Ed}(l:EdsAt w D A k es)(i : ∀b,D b->b<w.heap.size->∃T r,Blk w b T r/\QfN T)
  (hp:Qf0 es<=268435456) (a:n+131072<=1073741824) (d:o.moves.length<1048576) (j:QbN enc lim (Qb enc st.ats) es=0) :
  Calls Tryz.prog 43 #[.pointer (some ⟨gd,0,none⟩),.slice A k c] w fun e w'=>e=.returned (.tuple #[])/\DeskIs w' B gd gb g enc lim (n+131072) { st with ats:=edA es st.ats,now:=some { o with moves:=o.moves++[es.map QiD],changed:=o.changed || es.any chg } } dc/\BkFr B w w':=by
 have m:=Zh (QjJ (c:=c) h hn l i hp a d j)
 have cd:=(h.desk.cell 0).trans h.c0
 clear h l i j
 go_enter Tryz.func43,Tryz.ntmps43
 go_wp2_with fail
 refine(m.out).mono ?_
 rintro e w1 ⟨rfl,f,p⟩
 have q:=Zh f
 clear f
 go_wp2_with fail
 refine(Qb9 _).mono ?_
 rintro e s ⟨rfl,rfl⟩
 go_wp2_with fail
 show bodyPost _ _ _ _ _ _
 refine bodyPost_end (results_none rfl _ _ _) rfl ?_
 exact⟨rfl,q.out,p⟩
end
def Qlg (us:List Gr)(d:Int)(G:Gr):List Gr:=if (us.length:Int)<d then us++[G] else (us++[G]).drop 1
theorem Qo9 {us:List Gr}{d:Int}{G:Gr}(h:(us.length:Int)<=d):((Qlg us d G).length:Int)<=d:=by
 unfold Qlg
 split
 ·simp;omega
 ·simp;omega
section
variable {B gd gb g n:Nat} {enc lim:Int} {st:BkS} {dc:Array Value} {w:World}
def QiA (st:BkS)(o:OpS)(x:Int):BkS:=
 if o.changed=true then { st with now:=none,undo:=Qlg st.undo st.depth ⟨o.before,st.ats,o.bgn,x,o.moves,o.old,st.last+1⟩,redo:=[],state:=st.last+1,last:=st.last+1 } else { st with now:=none }
theorem QmD (h:DeskIs w B gd gb g enc lim n st dc){o:OpS}(hn:st.now=some o){x:Int}(k:0<=x/\x<=(st.ats.length:Int))(q:(st.undo.length:Int)<=st.depth)(p:o.changed=true->st.last<1073741824) :
  Calls Tryz.prog 91 #[.pointer (some ⟨gb,0,none⟩),.int .i64 x] w fun e w'=>e=.returned (.int .i64 0)/\DeskIs w' B gd gb g enc lim n (QiA st o x) dc/\BkFr B w w':=by
 obtain⟨N,add,t,a,xs,m,vu,vr,now,f,d,l⟩:=h.book
 cases hch:o.changed with
 |false=>
  have i:QiA st o x={ st with now:=none }:=by unfold QiA;rw[if_neg (by rw[hch];decide)]
  rw[i]
  refine(Qpa N B gb g enc lim f add st t a xs m vu vr now o x w l hn k hch).mono ?_
  rintro e w' ⟨rfl,b,c⟩
  exact⟨rfl,h.bk c ⟨_,add,t,a,xs,m,vu,vr,_,f,d,b⟩,c⟩
 |true=>
  by_cases hlt:(st.undo.length:Int)<st.depth
  ·have i:QiA st o x={ st with now:=none,undo:=st.undo++[⟨o.before,st.ats,o.bgn,x,o.moves,o.old,st.last+1⟩],redo:=[],state:=st.last+1,last:=st.last+1 }:=by unfold QiA Qlg;rw[if_pos hch,if_pos hlt]
   rw[i]
   refine(Qoy N B gb g enc lim f add st t a xs m vu vr now o x w l hn k hch hlt (p hch)).mono ?_
   rintro e w' ⟨rfl,⟨j,b⟩,c⟩
   exact⟨rfl,h.bk c ⟨_,add,t,a,xs,m,_,_,_,f,d,b⟩,c⟩
  ·have i:QiA st o x={ st with now:=none,undo:=(st.undo++[(⟨o.before,st.ats,o.bgn,x,o.moves,o.old,st.last+1⟩:Gr)]).drop 1,redo:=[],state:=st.last+1,last:=st.last+1 }:=by unfold QiA Qlg;rw[if_pos hch,if_neg hlt]
   rw[i]
   refine(QoQ N B gb g enc lim f add st t a xs m vu vr now o x w l hn k hch (by omega) (p hch)).mono ?_
   rintro e w' ⟨rfl,⟨j,b⟩,c⟩
   exact⟨rfl,h.bk c ⟨_,add,t,a,xs,m,_,_,_,f,d,b⟩,c⟩
theorem QnN (h:DeskIs w B gd gb g enc lim n st dc){o:OpS}(hn:st.now=some o) :
  Calls Tryz.prog 92 #[.pointer (some ⟨gb,0,none⟩)] w fun e w'=>e=.returned (.tuple #[.int .i64 o.bgn,.int .i64 0])/\DeskIs w' B gd gb g enc lim n { st with ats:=o.before,now:=none } dc/\BkFr B w w':=by
 obtain⟨N,add,t,a,xs,m,vu,vr,now,f,c,i⟩:=h.book
 refine(Qo8 N B gb g enc lim f add st t a xs m vu vr now o w i hn).mono ?_
 rintro e w' ⟨rfl,⟨l,j,k,b⟩,d⟩
 exact⟨rfl,h.bk d ⟨_,add,l,j,xs,k,_,_,_,f,c,b⟩,d⟩
end
theorem Qdc (fn:FuncId)(cap:Array Value)(w:World)(Q:World->Prop)(R:Int->World->Prop)(m : ∀args w,(callFunc fn args).run Tryz.prog w=.ok (.enter fn args) w)
  (a:Calls Tryz.prog fn cap (w.alloc (.cells #[.int .i64 0] 26)) fun e w'=>(e=.returned (.tuple #[])/\Q w')\/(∃c,e=.panicked [Qal c]/\R c w')) (k : ∀w',Q w'->Blk w' w.heap.size 26 #[.int .i64 0]) (l : ∀c w',R c w'->Blk w' w.heap.size 26 #[.int .i64 0]) :
  Calls Tryz.prog 25 #[.func (.func fn) #[] cap] w fun e w'=>(e=.returned (.int .i64 0)/\Q w')\/(∃c,e=.returned (.int .i64 c)/\∃w1,R c w1/\w'=w1.setCell ⟨w.heap.size,0,none⟩ (.int .i64 c)):=by
 have i : ∀(fn:Fn) (first cap:Array Value) (w:World),(Instr.makeFunc fn first cap).run Tryz.prog w=.ok (.func fn first cap) w:=fun _ _ _ _=>rfl
 have j:=Zh a
 clear a
 go_enter_defers Tryz.func25,Tryz.ntmps25
 go_wp2_with fail
 refine(j.out).mono ?_
 rintro e w1 (⟨rfl,d⟩|⟨c,rfl,d⟩)
 ·have b:=k w1 d
  have hid:w1.setCell ⟨w.heap.size,0,none⟩ (.int .i64 0)=w1:=Qlo b rfl
  have c0:=b.cell 0
  have p:=b.frozen 0
  simp at c0
  go_wp2_with fail
  refine leaves_cons (f:=76) (args := #[.pointer (some ⟨w.heap.size,0,none⟩)]) (by simp) (by simp[go_sem]) ?_
  refine(Qi4 w.heap.size _).mono ?_
  rintro e o h ⟨rfl,rfl,rfl⟩
  refine⟨_,?_,.inl ⟨rfl,d⟩⟩
  simp[results,Tryz.results25,go_sem,c0]
 ·have b:=l c w1 d
  have c1:=((b.set_ 0 (.int .i64 c)).eq_ (show _ = #[.int .i64 c] by simp)).cell 0
  simp at c1
  go_wp2_with fail
  refine leaves_cons (f:=76) (args := #[.pointer (some ⟨w.heap.size,0,none⟩)]) (by simp) (by simp[go_sem]) ?_
  refine(QhD w.heap.size c [] (.int .i64 0) _ (b.cell 0) (b.frozen 0)).mono ?_
  rintro e o h ⟨rfl,rfl,rfl⟩
  simp only[Leaves,settle,Qal,results,Tryz.results25,go_sem,c1]
  refine⟨_,?_,.inr ⟨c,rfl,w1,d,rfl⟩⟩
  simp[results,Tryz.results25,go_sem,c1]
def Qh5 (B gd gb g:Nat)(enc lim:Int)(st:BkS)(dc:Array Value)(X:Nat->Prop)(Bad:Int->Nat->Prop)(c:Int)(w1:World)(b:World):Prop:=
 ∃a o' d,Bad c d/\c≠0/\o'.before=st.ats/\DeskIs b B gd gb g enc lim d { st with ats:=a,now:=some o' } dc/\DFr B X w1 b
def Qr9 (B gd gb g:Nat)(enc lim:Int)(st:BkS)(dc:Array Value)(X:Nat->Prop)(Act:Int->List (Int × Int)->OpS->Nat->Prop)(Bad:Int->Nat->Prop)(w1:World)(e:Ending)(a:World):Prop:=
 Ql4 B gd gb g enc lim st dc X Act w1 e a\/∃c,e=.panicked [Qal c]/\Qh5 B gd gb g enc lim st dc X Bad c w1 a
def Qm5 (B gd gb g:Nat)(enc lim:Int)(st:BkS)(dc:Array Value)(X:Nat->Prop)(Act:Int->List (Int × Int)->OpS->Nat->Prop)(Bad:Int->Nat->Prop)(Z Zb:Int->World->Prop)(w1:World)(e:Ending)(d:World):Prop:=
 (∃b a o' f,Act b a o' f/\e=.returned (.int .i64 b)/\DeskIs d B gd gb g enc lim f { st with ats:=a,now:=some o' } dc/\DFr B X w1 d/\Z b d)\/∃c,e=.panicked [Qal c]/\Qh5 B gd gb g enc lim st dc X Bad c w1 d/\Zb c d
def WkS (w0:World)(gd:Nat)(w:World)(b:Nat):Prop:=(∃T a,Blk w b T a/\Qd1 T)\/b=gd\/(w0.heap.size<=b/\b<w0.heap.size+5)
def StZ (w0:World)(gd:Nat)(Z:Int->World->Prop):Prop:=∀x w w',Z x w->Fr (WkS w0 gd w) w w'->Z x w'
theorem StZ.bk {w0 w w' : World}{gd B : Nat}{Z : Int -> World -> Prop}{x : Int}(h : StZ w0 gd Z)(a : Z x w)(c : BkFr B w w') : Z x w' := h x w w' a (c.more (fun b _ e=>by
 obtain⟨_,T,d,h1,h2⟩:=e
 exact .inl ⟨T,d,h1,h2⟩))
theorem StZ.set {w0 w:World}{gd b i:Nat}{Z:Int->World->Prop}{x:Int}{u:Value}(h:StZ w0 gd Z)(a:Z x w)(c:b=gd\/(w0.heap.size<=b/\b<w0.heap.size+5)):Z x (w.setCell ⟨b,i,none⟩ u):=h x w _ a ((Fr.refl _ _).setCell (p:=⟨b,i,none⟩) (.inl (.inr c)) u)
def Qqd (B gd gb g b4:Nat)(enc lim:Int)(st:BkS)(dc:Array Value)(X:Nat->Prop)(Act:Int->List (Int × Int)->OpS->Nat->Prop)(Z:Int->World->Prop)(w1:World)(d:World):Prop:=
 ∃a c o' e,Act a c o' e/\DeskIs d B gd gb g enc lim e (QiA { st with ats:=c,now:=some o' } o' a) dc/\Blk d b4 3 #[.int .i64 a]/\DFr B (fun b=>X b\/b=b4) w1 d/\Z a d
theorem QnS (B gd gb g n U b4 b5 b7:Nat)(enc lim x:Int)(st:BkS)(dc:Array Value)(fn:FuncId)(cap:Array Value)(X:Nat->Prop)(Act:Int->List (Int × Int)->OpS->Nat->Prop)(Bad:Int->Nat->Prop)(Z Zb:Int->World->Prop)(w0 w:World)(hZ:StZ w0 gd Z)(D:w0.heap.size<=b4/\b4<w0.heap.size+5)
  (h:DeskIs w B gd gb g enc lim n st dc) (hn:st.now=none) (G:0<=x/\x<=(st.ats.length:Int))
  (h7:Blk w b7 4 #[.bool true]) (h3:Blk w U 23 #[.pointer (some ⟨gd,0,none⟩)]) (h4:Blk w b4 3 #[.int .i64 x]) (h5:Blk w b5 44 #[.func (.func fn) #[] cap])
  (b0 : ∀args w,(callFunc fn args).run Tryz.prog w=.ok (.enter fn args) w) (hX : ∀b,X b->b≠U/\b≠b4/\b≠b5/\b≠b7)
  (C : ∀w1,DeskIs w1 B gd gb g enc lim n { st with now:=some ⟨st.ats,x,[],st.state,false⟩ } dc->BkFr B w w1->Calls Tryz.prog fn cap w1 (Qm5 B gd gb g enc lim st dc X Act Bad Z Zb w1))
  (z : ∀a d o' I,Act a d o' I->(0<=a/\a<=(d.length:Int))/\(o'.changed=true->st.last<1073741824)) (a5:(st.undo.length:Int)<=st.depth) :
  Calls Tryz.prog 89 #[.pointer (some ⟨b7,0,none⟩),.pointer (some ⟨U,0,none⟩),.pointer (some ⟨b4,0,none⟩),.pointer (some ⟨b5,0,none⟩)] w fun e w'=>(e=.returned (.tuple #[])/\Qqd B gd gb g b4 enc lim st dc X Act Z w w')\/(∃c,e=.panicked [Qal c]/\Qh5 B gd gb g enc lim st dc X Bad c w w'/\Zb c w'):=by
 have E:=fun(w':World) (j:BkFr B w w')=>And.intro ((j.blk h7 (by decide)).cell 0) (And.intro ((j.blk h3 (by decide)).cell 0) (And.intro ((j.blk h4 (by decide)).cell 0) (And.intro ((j.blk h5 (by decide)).cell 0) (((j.blk h.desk (by decide)).cell 0).trans h.c0))))
 have H:=Zh E
 obtain⟨c7,c3,c4,c5,cd⟩:=E w (BkFr.refl _ _)
 have HH:=Zh h
 have HA:=Zh C
 have HB:=Zh (fun w' (j:ZB w w')=>Qlh (h.below j) hn G)
 have W:=Zh z
 have t:=Zh hX
 have H7:=Zh h7
 have H3:=Zh h3
 have H4:=Zh h4
 have S:=Zh hZ
 have Y:=Zh D
 clear E h C z hX h7 h3 h4 h5 hZ D
 go_enter Tryz.func89,Tryz.ntmps89
 go_upto_region 1 with fail
 refine Qg (fun w'=>BkFr B w w') (fun w'=>w'=w.drew) (fun k=>k==5 || k==6) (fun k=>k==6) (fun _=>false) (by kernel_rfl) (by kernel_rfl) (rfl) (fun w' h=>by subst h;exact BkFr.below (Below.refl _ _).drew) ?_
 repeat ((first
  |(refine Qc (v:=?_) (by rfl) (by rfl) (fun w6 hSw=>?_) ?_;rotate_left;(·(obtain⟨y7,y3,y4,y5,yd⟩:=H.out _ hSw;go_simp;try with_reducible rfl)))
  |(refine Qd (v:=?_) (by rfl) (fun w6=>?_) ?_;rotate_left;(·(go_simp;try with_reducible rfl)))
  |refine Qe (by rfl) ?_);(try simp only[Act.put,pA,pB,pC]))
 refine Qn (f:=?_) (args:=?_) (fun v w'=>v=.int .i64 0/\DeskIs w' B gd gb g enc lim n { st with now:=some ⟨st.ats,x,[],st.state,false⟩ } dc/\BkFr B w w') (by rfl) (by rfl) (fun w6 hSw=>?_) (fun w6 hSw=>?_) (.inr (fun v6 w6 hT6=>?_)) (fun v6 hv6=>?_)
 rotate_left 2
 ·(skip;go_simp;first|done|(constructor<;>with_reducible rfl)|with_reducible rfl)
 ·(subst hSw;refine(HB.out _ (Below.refl _ _).drew).mono ?_;rintro e w' ⟨rfl,hd,j⟩;exact⟨_,rfl,rfl,hd,(BkFr.below (Below.refl _ _).drew).trans j⟩)
 ·(exact hT6.2.2)
 obtain⟨wz,rfl,-⟩:=hv6
 (try simp only[Act.put,pA,pB,pC])
 repeat ((first
  |(refine Qc (v:=?_) (by rfl) (by rfl) (fun w6 hSw=>?_) ?_;rotate_left;(·(obtain⟨y7,y3,y4,y5,yd⟩:=H.out _ hSw;go_simp;try with_reducible rfl)))
  |(refine Qd (v:=?_) (by rfl) (fun w6=>?_) ?_;rotate_left;(·(go_simp;try with_reducible rfl)))
  |refine Qe (by rfl) ?_);(try simp only[Act.put,pA,pB,pC]))
 refine Qn (f:=?_) (args:=?_) (fun v w'=>DeskIs w' B gd gb g enc lim n { st with now:=some ⟨st.ats,x,[],st.state,false⟩ } dc/\BkFr B w w') (by rfl) (by rfl) (fun w6 hSw=>?_) (fun w6 hSw=>?_) (.inl (by rfl)) (fun v6 hv6=>?_)
 rotate_left 2
 ·(skip;go_simp;first|done|(constructor<;>with_reducible rfl)|with_reducible rfl)
 ·(refine(Qb9 _).mono ?_;rintro e w' ⟨rfl,rfl⟩;exact⟨_,rfl,hSw.2⟩)
 skip
 (try simp only[Act.put,pA,pB,pC])
 refine Qu ?_
 rintro w1 ⟨V,m⟩
 obtain⟨c7,c3,c4,c5,cd⟩:=H.out _ m
 simp at c7 c3 c4 c5
 go_wp2_with fail
 refine(HA.out _ V m).mono ?_
 rintro e L (⟨a,d,o',I,R,rfl,q,l,s⟩|⟨c,rfl,⟨d,o',I,R,a7,a9,q,l⟩,s⟩)
 case inr=>
  have hq:Qh5 B gd gb g enc lim st dc X Bad c w L/\Zb c L:=⟨⟨d,o',I,R,a7,a9,q,(DFr.of_bk m).trans l⟩,s⟩
  have HQ:=Zh hq
  clear hq
  go_wp2_with fail
  exact⟨rfl,.inr ⟨c,rfl,HQ.out⟩⟩
 have X7:=t.out
 have k7:=l.blk (m.blk H7.out (by decide)) (by decide) (fun G=>(t.out b7 G).2.2.2 rfl)
 have k3:=l.blk (m.blk H3.out (by decide)) (by decide) (fun G=>(t.out U G).1 rfl)
 have A:=l.blk (m.blk H4.out (by decide)) (by decide) (fun G=>(t.out b4 G).2.1 rfl)
 have e4:=A.cell 0
 have f4:=A.frozen 0
 have T:b7≠b4:=Blk.ne_ k7 A (by decide)
 have O:U≠b4:=Blk.ne_ k3 A (by decide)
 have N:=(k7.far (p:=⟨b4,0,none⟩) T (.int .i64 a)).cell 0
 have r:=q.alien (show Fr (· = b4) L (L.setCell ⟨b4,0,none⟩ (.int .i64 a)) from (Fr.refl _ _).set1 0 _) (fun k _ hk=>⟨fun e=>Blk.ne_ A q.desk (by decide) (hk.symm.trans e),_,_,hk▸A,by decide⟩)
 have K:=k3.far (p:=⟨b4,0,none⟩) O (.int .i64 a)
 have y:=(A.set_ 0 (.int .i64 a)).eq_ (show _ = #[.int .i64 a] by simp)
 obtain⟨M,P⟩:=W.out _ _ _ _ R
 have F:DFr B (fun b=>X b\/b=b4) w (L.setCell ⟨b4,0,none⟩ (.int .i64 a)):=((DFr.of_bk m).trans (l.wide (Nat.le_refl _) (fun _ _ h=>.inl h))).trans (DFr.of_x ((Fr.refl _ _).setCell (p:=⟨b4,0,none⟩) (.inl (.inr rfl)) _))
 have a2:=Zh (S.out.set (b:=b4) (i:=0) (u:=.int .i64 a) s (.inr Y.out))
 clear s
 simp at e4 N
 have G7:=Zh N
 clear c7 c3 c4 c5 cd V l k7 k3 A T O q N
 go_upto_region 3 with fail
 obtain⟨w3,a4⟩:∃x,L.setCell ⟨b4,0,none⟩ (.int .i64 a)=x:=⟨_,rfl⟩
 have N:=G7.out
 rw[a4] at N r K y F a2 ⊢
 have Q:=fun(w':World) (j:BkFr B w3 w')=>And.intro ((j.blk K (by decide)).cell 0) (And.intro ((j.blk y (by decide)).cell 0) (((j.blk r.desk (by decide)).cell 0).trans r.c0))
 have a0:=Zh Q
 have HE:=Zh (fun w' (j:ZB w3 w')=>QmD (h:=r.below j) (o:=o') rfl (x:=a) M a5 P)
 have a6:=Zh R
 have a3:=Zh F
 have a1:=Zh y
 clear Q R F e4 f4 M P r G7 K y
 go_upto_region 4 with fail
 refine Qg (fun w'=>BkFr B w3 w') (fun w'=>w'=w3.drew) (fun k=>k==5 || k==6) (fun k=>k==6) (fun _=>false) (by kernel_rfl) (by kernel_rfl) (rfl) (fun w' h=>by subst h;exact BkFr.below (Below.refl _ _).drew) ?_
 repeat ((first
  |(refine Qc (v:=?_) (by rfl) (by rfl) (fun w6 hSw=>?_) ?_;rotate_left;(·(obtain⟨y3,y4,yd⟩:=a0.out _ hSw;go_simp;try with_reducible rfl)))
  |(refine Qd (v:=?_) (by rfl) (fun w6=>?_) ?_;rotate_left;(·(go_simp;try with_reducible rfl)))
  |refine Qe (by rfl) ?_);(try simp only[Act.put,pA,pB,pC]))
 refine Qn (f:=?_) (args:=?_) (fun v w'=>v=.int .i64 0/\DeskIs w' B gd gb g enc lim I (QiA { st with ats:=d,now:=some o' } o' a) dc/\BkFr B w3 w') (by rfl) (by rfl) (fun w6 hSw=>?_) (fun w6 hSw=>?_) (.inr (fun v6 w6 hT6=>?_)) (fun v6 hv6=>?_)
 rotate_left 2
 ·(skip;go_simp;first|done|(constructor<;>with_reducible rfl)|with_reducible rfl)
 ·(subst hSw;refine(HE.out _ (Below.refl _ _).drew).mono ?_;rintro e w' ⟨rfl,hd,j⟩;exact⟨_,rfl,rfl,hd,(BkFr.below (Below.refl _ _).drew).trans j⟩)
 ·(exact hT6.2.2)
 obtain⟨wz,rfl,-⟩:=hv6
 (try simp only[Act.put,pA,pB,pC])
 repeat ((first
  |(refine Qc (v:=?_) (by rfl) (by rfl) (fun w6 hSw=>?_) ?_;rotate_left;(·(obtain⟨y3,y4,yd⟩:=a0.out _ hSw;go_simp;try with_reducible rfl)))
  |(refine Qd (v:=?_) (by rfl) (fun w6=>?_) ?_;rotate_left;(·(go_simp;try with_reducible rfl)))
  |refine Qe (by rfl) ?_);(try simp only[Act.put,pA,pB,pC]))
 refine Qn (f:=?_) (args:=?_) (fun v w'=>DeskIs w' B gd gb g enc lim I (QiA { st with ats:=d,now:=some o' } o' a) dc/\BkFr B w3 w') (by rfl) (by rfl) (fun w6 hSw=>?_) (fun w6 hSw=>?_) (.inl (by rfl)) (fun v6 hv6=>?_)
 rotate_left 2
 ·(skip;go_simp;first|done|(constructor<;>with_reducible rfl)|with_reducible rfl)
 ·(refine(Qb9 _).mono ?_;rintro e w' ⟨rfl,rfl⟩;exact⟨_,rfl,hSw.2⟩)
 skip
 (try simp only[Act.put,pA,pB,pC])
 refine Qu ?_
 rintro w5 ⟨a8,J⟩
 show bodyPost _ _ _ _ _ _
 refine bodyPost_end (results_none rfl _ _ _) rfl ?_
 exact .inl ⟨rfl,a,d,o',I,a6.out,a8,J.blk a1.out (by decide),a3.out.trans (DFr.of_bk J),S.out.bk a2.out J⟩
theorem Qmi {w w1 w7:World}{o:Obj}(h:w7.heap.size=w.heap.size+4)(h1:(w7.alloc o).heap.size<=w1.heap.size):w.heap.size+5<=w1.heap.size:=by
 have h2:(w7.alloc o).heap.size=w7.heap.size+1:=by simp
 omega
def Qqj (B gd gb g:Nat)(enc lim:Int)(st:BkS)(dc:Array Value)(X:Nat->Prop)(Act:Int->List (Int × Int)->OpS->Nat->Prop)(Bad:Int->Nat->Prop)(Z Zb:Int->World->Prop)(w:World)(e:Ending)(w':World):Prop:=
 (e=.returned (.int .i64 0)/\∃a d o' f,Act a d o' f/\DeskIs w' B gd gb g enc lim f (QiA { st with ats:=d,now:=some o' } o' a) (dc.setIfInBounds 2 (.int .i64 a))/\DFr B (fun b=>X b\/b=gd) w w'/\Z a w') \/
 (∃c f,e=.returned (.int .i64 c)/\c≠0/\Bad c f/\DeskIs w' B gd gb g enc lim f st dc/\DFr B X w w'/\Zb c w')
def Qss (B gd gb g:Nat)(enc lim:Int)(st:BkS)(dc:Array Value)(X:Nat->Prop)(Act:Int->List (Int × Int)->OpS->Nat->Prop)(Bad:Int->Nat->Prop)(w:World)(e:Ending)(w':World):Prop:=
 (e=.returned (.int .i64 0)/\∃d a o' f,Act d a o' f/\DeskIs w' B gd gb g enc lim f (QiA { st with ats:=a,now:=some o' } o' d) (dc.setIfInBounds 2 (.int .i64 d))/\DFr B (fun b=>X b\/b=gd) w w') \/
 (∃c f,e=.returned (.int .i64 c)/\c≠0/\Bad c f/\DeskIs w' B gd gb g enc lim f st dc/\DFr B X w w')
theorem QdJ (B gd gb g n:Nat)(enc lim x:Int)(st:BkS)(dc:Array Value)(fn:FuncId)(cap:Array Value)(X:Nat->Prop)(Act:Int->List (Int × Int)->OpS->Nat->Prop)(Bad:Int->Nat->Prop)(Z Zb:Int->World->Prop)(w:World)(hZ:StZ w gd Z)(a5:StZ w gd Zb)
  (h:DeskIs w B gd gb g enc lim n st dc) (hn:st.now=none) (f:0<=x/\x<=(st.ats.length:Int)) (d0:dc.size=10)
  (a6 : ∀args w,(callFunc fn args).run Tryz.prog w=.ok (.enter fn args) w) (hX : ∀b,X b->b<w.heap.size/\b≠gd)
  (L : ∀w1,DeskIs w1 B gd gb g enc lim n { st with now:=some ⟨st.ats,x,[],st.state,false⟩ } dc->DFr B (fun _=>False) w w1->w.heap.size+5<=w1.heap.size->Calls Tryz.prog fn cap w1 (Qm5 B gd gb g enc lim st dc X Act Bad Z Zb w1))
  (l : ∀r d o' n',Act r d o' n'->(0<=r/\r<=(d.length:Int))/\(o'.changed=true->st.last<1073741824)) (c1:(st.undo.length:Int)<=st.depth) :
  Calls Tryz.prog 36 #[.pointer (some ⟨gd,0,none⟩),.int .i64 x,.func (.func fn) #[] cap] w (Qqj B gd gb g enc lim st dc X Act Bad Z Zb w):=by
 have c9 : ∀(fn:Fn) (first cap:Array Value) (w:World),(Instr.makeFunc fn first cap).run Tryz.prog w=.ok (.func fn first cap) w:=fun _ _ _ _=>rfl
 have F:ZB w (((w.alloc (.cells #[.pointer (some ⟨gd,0,none⟩)] 23)).alloc (.cells #[.int .i64 x] 3)).alloc (.cells #[.func (.func fn) #[] cap] 44)):=Qa (Qa (Qa (Below.refl _ _)))
 have b3:Blk (((w.alloc (.cells #[.pointer (some ⟨gd,0,none⟩)] 23)).alloc (.cells #[.int .i64 x] 3)).alloc (.cells #[.func (.func fn) #[] cap] 44)) w.heap.size 23 #[.pointer (some ⟨gd,0,none⟩)]:=((Blk.new w _ _).alloc _).alloc _
 have b4:Blk (((w.alloc (.cells #[.pointer (some ⟨gd,0,none⟩)] 23)).alloc (.cells #[.int .i64 x] 3)).alloc (.cells #[.func (.func fn) #[] cap] 44)) (w.heap.size+1) 3 #[.int .i64 x]:=(Blk.new' (by simp)).alloc _
 have b5:Blk (((w.alloc (.cells #[.pointer (some ⟨gd,0,none⟩)] 23)).alloc (.cells #[.int .i64 x] 3)).alloc (.cells #[.func (.func fn) #[] cap] 44)) (w.heap.size+1+1) 44 #[.func (.func fn) #[] cap]:=Blk.new' (by simp)
 have v:=h.below F
 have cd:=(v.desk.cell 0).trans v.c0
 have c3:=b3.cell 0
 have E:(((w.alloc (.cells #[.pointer (some ⟨gd,0,none⟩)] 23)).alloc (.cells #[.int .i64 x] 3)).alloc (.cells #[.func (.func fn) #[] cap] 44)).heap.size=w.heap.size+3:=by simp
 simp only[List.getElem?_toArray,List.getElem?_cons_zero] at c3
 have m:=QfW v
 rw[hn] at m
 have D:=Zh m
 have HH:=Zh h
 have HA:=Zh L
 have A:=Zh l
 have j:=Zh hX
 have Q:=Zh a6
 have b0:=Zh hZ
 have a3:=Zh a5
 clear h L l hX m a6 hZ a5
 go_enter Tryz.func36,Tryz.ntmps36
 go_wp2_with fail
 obtain⟨w0,a1⟩:∃x',(((w.alloc (.cells #[.pointer (some ⟨gd,0,none⟩)] 23)).alloc (.cells #[.int .i64 x] 3)).alloc (.cells #[.func (.func fn) #[] cap] 44))=x':=⟨_,rfl⟩
 rw[a1] at D F b3 b4 b5 v cd c3 E ⊢
 refine(D.out).mono ?_
 rintro e wz ⟨rfl,rfl⟩
 go_wp2_with fail
 have b8:ZB w (w0.alloc (.cells #[.bool true] 4)):=Qa F
 have b7:Blk (w0.alloc (.cells #[.bool true] 4)) (w.heap.size+3) 4 #[.bool true]:=Blk.new' E
 have s:=b3.alloc (.cells #[.bool true] 4)
 have I:=b4.alloc (.cells #[.bool true] 4)
 have G:=b5.alloc (.cells #[.bool true] 4)
 have a2:(w0.alloc (.cells #[.bool true] 4)).heap.size=w.heap.size+4:=by simp[E]
 obtain⟨w7,M⟩:∃x',w0.alloc (.cells #[.bool true] 4)=x':=⟨_,rfl⟩
 rw[M] at b8 b7 s I G a2 ⊢
 clear b3 b4 b5 cd c3 v D a1 M E F
 have H:ZB w (w7.alloc (.cells #[.int .i64 0] 26)):=Qa b8
 have be:Blk (w7.alloc (.cells #[.int .i64 0] 26)) w7.heap.size 26 #[.int .i64 0]:=Blk.new w7 _ _
 have y:=Qdc 89 #[.pointer (some ⟨w.heap.size+3,0,none⟩),.pointer (some ⟨w.heap.size,0,none⟩),.pointer (some ⟨w.heap.size+1,0,none⟩),.pointer (some ⟨w.heap.size+1+1,0,none⟩)] w7
  (fun w'=>Qqd B gd gb g (w.heap.size+1) enc lim st dc X Act Z (w7.alloc (.cells #[.int .i64 0] 26)) w') (fun c w'=>Qh5 B gd gb g enc lim st dc X Bad c (w7.alloc (.cells #[.int .i64 0] 26)) w'/\Zb c w') Tryz.call89
  (QnS B gd gb g n w.heap.size (w.heap.size+1) (w.heap.size+1+1) (w.heap.size+3) enc lim x st dc fn cap X Act Bad Z Zb w _ b0.out ⟨by omega,by omega⟩ (HH.out.below H) hn f (b7.alloc _) (s.alloc _) (I.alloc _) (G.alloc _) Q.out (fun b P=>by have:=(j.out b P).1;omega)
   (fun w1 c6 a9=>HA.out w1 c6 ((DFr.of_below H).trans (DFr.of_bk a9)) (Qmi a2 a9.size)) A.out c1)
  (fun w' hq=>by
   obtain⟨_,_,_,_,_,_,_,hf,_⟩:=hq
   exact hf.blk be (by decide) (fun f=>by
    rcases f with f|f
    ·have:=(j.out _ f).1
     omega
    ·omega))
  (fun c w' hq=>by
   obtain⟨⟨_,_,_,_,_,_,_,hf⟩,_⟩:=hq
   exact hf.blk be (by decide) (fun f=>by
    have:=(j.out _ f).1
    omega))
 have HC:=Zh y
 clear y HA
 refine(HC.out).mono ?_
 rintro e w9 (⟨rfl,r,d,o',n',hA,a,J,R,a4⟩|⟨c,rfl,w8,⟨⟨d,o',n',hA,a7,b1,V,z⟩,b6⟩,rfl⟩)
 case inl=>
  have q := R.blk (s.alloc _) (by decide) (fun f=>by
   rcases f with f|f
   ·have:=(j.out _ f).1
    omega
   ·omega)
  have e3:=q.cell 0
  have e4:=J.cell 0
  have ed:=a.desk.cell 2
  have fd:=a.desk.frozen 2
  rw[Array.getElem?_eq_getElem (by omega)] at ed
  simp at e3 e4
  have l:Qqj B gd gb g enc lim st dc X Act Bad Z Zb w (.returned (.int .i64 0)) (w9.setCell ⟨gd,2,none⟩ (.int .i64 r)):=by
   refine .inl ⟨rfl,r,d,o',n',hA,a.set (by decide) _,?_,b0.out.set a4 (.inl rfl)⟩
   have h1 : DFr B (fun b => X b \/ b = gd) w w9 := DFr.call' H R (fun b P h=>by
    rcases h with h|h
    ·exact .inl h
    ·omega)
   exact h1.trans (DFr.of_x ((Fr.refl _ _).setCell (p:=⟨gd,2,none⟩) (.inl (.inr rfl)) _))
  have c4:=Zh l
  clear l hA a J R a4 q HC HH j A Q b7 s I G be
  go_wp2_with fail
  go_ret
  exact c4.out
 case inr=>
  have c7 : ∀b,b<w.heap.size+4->X b->b<w.heap.size:=fun b _ f=>(j.out b f).1
  have T:=z.blk (b7.alloc _) (by decide) (fun f=>by have:=(j.out _ f).1;omega)
  have U:=z.blk (s.alloc _) (by decide) (fun f=>by have:=(j.out _ f).1;omega)
  have C:=z.blk be (by decide) (fun f=>by have:=(j.out _ f).1;omega)
  have t:Fr (· = w7.heap.size) w8 (w8.setCell ⟨w7.heap.size,0,none⟩ (.int .i64 c)):=(Fr.refl _ _).set1 0 _
  have a:=V.alien t (fun k _ hk=>⟨fun e=>Blk.ne_ C V.desk (by decide) (hk.symm.trans e),_,_,hk▸C,by decide⟩)
  have S:=T.fr t (fun e=>Blk.ne_ T C (by decide) e)
  have q:=U.fr t (fun e=>Blk.ne_ U C (by decide) e)
  have b2:=Zh (a3.out.set (b:=w7.heap.size) (i:=0) (u:=.int .i64 c) b6 (.inr ⟨by omega,by omega⟩))
  clear b6
  have W:DFr B X w (w8.setCell ⟨w7.heap.size,0,none⟩ (.int .i64 c)):=by
   have h1:DFr B (fun b=>X b\/b=w7.heap.size) (w7.alloc (.cells #[.int .i64 0] 26)) (w8.setCell ⟨w7.heap.size,0,none⟩ (.int .i64 c)):=(z.wide (Nat.le_refl _) (fun _ _ h=>.inl h)).trans (DFr.of_x (t.more (fun _ _ h=>.inr h)))
   refine DFr.call' H h1 (fun b P h=>?_)
   rcases h with h|h
   ·exact h
   ·omega
  obtain⟨w9,a8⟩:∃x',w8.setCell ⟨w7.heap.size,0,none⟩ (.int .i64 c)=x':=⟨_,rfl⟩
  rw[a8] at a S q W b2 ⊢
  have hS : ∀w',ZB w9 w'->w'.cell? ⟨w.heap.size+3,0,none⟩=some (.bool true)/\w'.cell? ⟨w.heap.size,0,none⟩=some (.pointer (some ⟨gd,0,none⟩))/\w'.cell? ⟨gd,0,none⟩=some (.pointer (some ⟨gb,0,none⟩)):=fun w' P=>⟨(S.below P).cell 0,(q.below P).cell 0,((a.below P).desk.cell 0).trans a.c0⟩
  have q0:(c==0)=false:=by rw[beq_eq_false_iff_ne];exact a7
  have m:=QfW a
  have a0:({ st with ats:=d,now:=some o' }:BkS).now.isSome=true:=rfl
  rw[a0] at m
  have D:=Zh m
  have Y:=QnN a (o:=o') rfl
  have O:({ { st with ats:=d,now:=some o' } with ats:=o'.before,now:=none }:BkS)=st:=by
   rw[b1]
   cases st
   simp at hn ⊢
   exact hn.symm
  rw[O] at Y
  have b9:=Zh Y
  have c5:=Zh W
  have c2:=Zh hA
  obtain⟨s7,s3,s0⟩:=hS w9 (Below.refl _ _)
  clear hS m Y W hA V a z C T U S q t a8 O a0 HC HH j A Q b7 s I G be b1 a7
  go_wp2_with fail
  refine(D.out).mono ?_
  rintro e wz ⟨rfl,rfl⟩
  go_wp2_with fail
  refine(b9.out).mono ?_
  rintro e c8 ⟨rfl,N,K⟩
  have HD:=Zh N
  have HB:=Zh K
  clear N K
  go_wp2_with fail
  go_ret
  exact .inr ⟨c,n',rfl,by rw[beq_eq_false_iff_ne] at q0;exact q0,c2.out,HD.out,c5.out.trans (DFr.of_bk HB.out),a3.out.bk b2.out HB.out⟩
theorem QjM (B gd gb g n:Nat)(enc lim x:Int)(st:BkS)(dc:Array Value)(fn:FuncId)(cap:Array Value)(X:Nat->Prop)(Act:Int->List (Int × Int)->OpS->Nat->Prop)(Bad:Int->Nat->Prop)(w:World)
  (h:DeskIs w B gd gb g enc lim n st dc) (hn:st.now=none) (v:0<=x/\x<=(st.ats.length:Int)) (r:dc.size=10)
  (p : ∀args w,(callFunc fn args).run Tryz.prog w=.ok (.enter fn args) w) (u : ∀b,X b->b<w.heap.size/\b≠gd)
  (k : ∀w1,DeskIs w1 B gd gb g enc lim n { st with now:=some ⟨st.ats,x,[],st.state,false⟩ } dc->DFr B (fun _=>False) w w1->Calls Tryz.prog fn cap w1 (Qr9 B gd gb g enc lim st dc X Act Bad w1))
  (i : ∀d a o' f,Act d a o' f->(0<=d/\d<=(a.length:Int))/\(o'.changed=true->st.last<1073741824)) (m:(st.undo.length:Int)<=st.depth) :
  Calls Tryz.prog 36 #[.pointer (some ⟨gd,0,none⟩),.int .i64 x,.func (.func fn) #[] cap] w (Qss B gd gb g enc lim st dc X Act Bad w):=by
 refine(QdJ B gd gb g n enc lim x st dc fn cap X Act Bad (fun _ _=>True) (fun _ _=>True) w (fun _ _ _ _ _=>trivial) (fun _ _ _ _ _=>trivial) h hn v r p u (fun w1 q l _=>(k w1 q l).mono (fun e y hp=>?_)) i m).mono (fun e w' hp=>?_)
 ·rcases hp with ⟨d,a,o',f,h1,h2,j,o⟩|⟨c,h1,h2⟩
  ·exact .inl ⟨d,a,o',f,h1,h2,j,o,trivial⟩
  ·exact .inr ⟨c,h1,h2,trivial⟩
 ·rcases hp with ⟨t,d,a,o',f,h1,h2,j,_⟩|⟨c,f,h1,h2,j,o,s,_⟩
  ·exact .inl ⟨t,d,a,o',f,h1,h2,j⟩
  ·exact .inr ⟨c,f,h1,h2,j,o,s⟩
theorem QrQ {st:BkS}{o:OpS}{x:Int}(h:o.changed=true->(st.undo.length:Int)<st.depth):QiA st o x=Qst st o x:=by
 unfold QiA Qst
 split
 ·rename_i a
  unfold Qlg
  rw[if_pos (h a)]
 ·rfl
theorem Qrj (B gd gb g n:Nat)(enc lim x:Int)(st:BkS)(dc:Array Value)(fn:FuncId)(cap:Array Value)(X:Nat->Prop)(Act:Int->List (Int × Int)->OpS->Nat->Prop)(w:World)
  (h:DeskIs w B gd gb g enc lim n st dc) (hn:st.now=none) (A:0<=x/\x<=(st.ats.length:Int)) (t:dc.size=10)
  (r : ∀args w,(callFunc fn args).run Tryz.prog w=.ok (.enter fn args) w) (z : ∀b,X b->b<w.heap.size/\b≠gd)
  (l : ∀w1,DeskIs w1 B gd gb g enc lim n { st with now:=some ⟨st.ats,x,[],st.state,false⟩ } dc->DFr B (fun _=>False) w w1->Calls Tryz.prog fn cap w1 (Ql4 B gd gb g enc lim st dc X Act w1))
  (i : ∀j f o' m,Act j f o' m->(0<=j/\j<=(f.length:Int))/\(o'.changed=true->(st.undo.length:Int)<st.depth/\st.last<1073741824)) (q:(st.undo.length:Int)<=st.depth) :
  Calls Tryz.prog 36 #[.pointer (some ⟨gd,0,none⟩),.int .i64 x,.func (.func fn) #[] cap] w (Qpc B gd gb g enc lim st dc X Act w):=by
 refine(QjM B gd gb g n enc lim x st dc fn cap X Act (fun _ _=>False) w h hn A t r z (fun w1 s p=>(l w1 s p).mono (fun _ _ hp=>.inl hp)) (fun a b c d v=>⟨(i a b c d v).1,fun o=>((i a b c d v).2 o).2⟩) q).mono ?_
 rintro e w' (⟨rfl,j,f,o',m,y,u,C⟩|⟨c,m,_,_,k,_⟩)
 ·refine⟨rfl,j,f,o',m,y,?_,C⟩
  rw[QrQ (st:={ st with ats:=f,now:=some o' }) (fun o=>((i _ _ _ _ y).2 o).1)] at u
  exact u
 ·exact k.elim
section
variable {B gd gb g n:Nat} {enc lim:Int} {st:BkS} {dc:Array Value} {w:World}
theorem QkW (h:DeskIs w B gd gb g enc lim n st dc){o:OpS}(hn:st.now=some o){D:Nat->Prop}{A:Option Addr}{k c:Nat}{es:List Ed}(C:EdsAt w D A k es)(y : ∀b,D b->b<w.heap.size->∃T v,Blk w b T v/\QfN T)
  (hp:Qf0 es<=268435456) (G:n+131072<=1073741824) (r:o.moves.length<1048576) (z:QbN enc lim (Qb enc st.ats) es≠0) :
  Calls Tryz.prog 99 #[.pointer (some ⟨gb,0,none⟩),.slice A k c] w fun e w'=>e=.returned (.int .i64 (QbN enc lim (Qb enc st.ats) es))/\ZB w w':=by
 obtain⟨N,add,t,a,xs,m,vu,vr,now,x,E,i⟩:=h.book
 have l:EdsAt w (fun b=>D b/\b<w.heap.size) A k es:=C.more (fun b h1 h2=>⟨h1,h2⟩)
 refine(QfO N B gb g enc lim x add st t a xs m vu vr now o (fun b=>D b/\b<w.heap.size) A k c es w i hn l (fun b f=>?_) hp (by omega) r).mono ?_
 ·obtain⟨T,v,j,q⟩:=y b f.1 f.2
  refine⟨Blk.ne_ j i.text.blk q.1.1,fun d=>Qk i.text.row j (Ne.symm q.1.2.2) d,fun d=>?_⟩
  have u:=i.open_
  rw[hn] at u
  obtain⟨p,F,s,m2,vm,vs,h1,_⟩:=u
  rw[F] at d
  injection d with d
  injection d with d
  exact Blk.ne_ j h1 q.2.2.2.1 d.symm
 ·rintro e w' ⟨rfl,f,-⟩
  exact⟨rfl,f z⟩
def Qkj (B gd gb g:Nat)(enc lim:Int)(n:Nat)(st:BkS)(o:OpS)(dc:Array Value)(es:List Ed)(w:World)(e:Ending)(w':World):Prop:=
 (QbN enc lim (Qb enc st.ats) es=0/\e=.returned (.tuple #[])/\DeskIs w' B gd gb g enc lim (n+131072) { st with ats:=edA es st.ats,now:=some { o with moves:=o.moves++[es.map QiD],changed:=o.changed || es.any chg } } dc/\BkFr B w w') \/
 (QbN enc lim (Qb enc st.ats) es≠0/\e=.panicked [Qal (QbN enc lim (Qb enc st.ats) es)]/\ZB w w')
theorem QdA (h:DeskIs w B gd gb g enc lim n st dc){o:OpS}(hn:st.now=some o){D:Nat->Prop}{A:Option Addr}{k c:Nat}{es:List Ed}(j:EdsAt w D A k es)(i : ∀b,D b->b<w.heap.size->∃T t,Blk w b T t/\QfN T)
  (hp:Qf0 es<=268435456) (a:n+131072<=1073741824) (d:o.moves.length<1048576) :
  Calls Tryz.prog 43 #[.pointer (some ⟨gd,0,none⟩),.slice A k c] w (Qkj B gd gb g enc lim n st o dc es w):=by
 by_cases hz:QbN enc lim (Qb enc st.ats) es=0
 ·refine(QeD (c:=c) h hn j i hp a d hz).mono ?_
  rintro e w' ⟨rfl,p,s⟩
  exact .inl ⟨hz,rfl,p,s⟩
 ·have f:=QkW (c:=c) h hn j i hp a d hz
  have cd:=(h.desk.cell 0).trans h.c0
  unfold Qkj
  obtain⟨r,l⟩:=ZN (QbN enc lim (Qb enc st.ats) es)
  rw[l] at f hz ⊢
  have q:=Zh f
  clear h j i f l
  go_enter Tryz.func43,Tryz.ntmps43
  go_wp2_with fail
  refine(q.out).mono ?_
  rintro e w1 ⟨rfl,m⟩
  go_wp2_with fail
  refine(Qpk r hz _).mono ?_
  rintro e u ⟨rfl,rfl⟩
  go_wp2_with fail
  exact⟨rfl,.inr ⟨hz,rfl,m⟩⟩
end
def SignAt (a:List (Int × Int))(i:Nat)(T:Int):Prop:=∃j:Nat,Qn3 (Qbb a i) j/\T=(Qo a i).from_+(mkb (Qbb a i) j:Int)
theorem SignAt.bd {a:List (Int × Int)}{i:Nat}{T:Int}(hp:PosD a)(b:i<=QaG a)(h:SignAt a i T):0<=T/\T<=(a.length:Int):=by
 obtain⟨j,c,rfl⟩:=h
 have e:=Q3 hp b
 have d:=QaE hp b
 have:=QpO (C:=Qbb a i) (k:=j) (by have:=c.2.1;omega)
 omega
def Qe1 (a:List (Int × Int))(i:Nat)(w:World)(e:Ending)(w':World):Prop:=∃T:Int,SignAt a i T/\Qpg 2 T w e w'
theorem Qm2 {w:World}{q p:Addr}{u v:Value}(h:q.block≠p.block)(a:w.cell? q=some u):(w.setCell p v).cell? q=some u:=(World.cell?_of_block (w:=w) (Below.heap_setCell w p v q.block h)).trans a
def QqD (L:Ln)(i:Int)(C:List Int)(w:World)(s:Value)(wx:World):Prop:=
 ∃b A1 n1 c1 A2 n2 c2,s=.pointer (some ⟨b,0,none⟩)/\Hid (Blk wx b 137 (Qab L i A1 n1 c1 A2 n2 c2))/\Hid (RowC wx Any L i C (Qab L i A1 n1 c1 A2 n2 c2))/\Hid (ZB w wx)
theorem Qsh {w w4:World}{L:Ln}{i:Int}{C:List Int}{D:Nat->Prop}{A1 A2:Option Addr}{n1 c1 n2 c2:Nat}(h:RowC w4 D L i C (Qab L i A1 n1 c1 A2 n2 c2))(a:ZB w w4) :
  QqD L i C w (.pointer (some ⟨w4.heap.size,0,none⟩)) (w4.alloc (.cells (Qab L i A1 n1 c1 A2 n2 c2) 137)):=
 ⟨_,A1,n1,c1,A2,n2,c2,rfl,Zh (Blk.new w4 _ _),Zh ((h.more (fun _ _ _=>trivial)).below (Qa (Below.refl _ _))),Zh (Qa a)⟩
theorem QjT {w w4:World}{L n:Ln}{i p:Int}{C:List Int}{b B:Nat}{A1 A2 l g:Option Addr}{n1 c1 n2 c2 j f m2 o:Nat}(c:Blk w4 b 137 (Qab n p l j f g m2 o))(q:b<B)(r:w.heap.size<=b)(h:RowC w4 (fun k=>B<=k) L i C (Qab L i A1 n1 c1 A2 n2 c2))(d:ZB w w4) :
  QqD L i C w (.pointer (some ⟨b,0,none⟩)) (Qiz w4 b L.from_ L.to_ L.next L.brk i (.slice A1 n1 c1) (.slice A2 n2 c2)):=by
 have a:=QgQ w4 b L.from_ L.to_ L.next L.brk i (.slice A1 n1 c1) (.slice A2 n2 c2)
 refine⟨b,A1,n1,c1,A2,n2,c2,rfl,Zh (Qkd c),Zh ((h.fr a (fun k m _ e=>?_)).more (fun _ _ _=>trivial)),Zh (bfr d a (fun k m=>by omega))⟩
 omega
theorem QkM (D:Nat->Prop)(m g:Nat)(enc:Int)(r:List (Int × Int))(s k:Int)(i:Nat)(w:World)(hm:MvAt w m g s k)(h:TextAt w D g enc r)(hi:i<QL r) :
    Calls Tryz.prog 174 #[.pointer (some ⟨m,0,none⟩),.int .i64 (i:Int)] w (Qe1 r i w):=by
  have hp:=h.pos
  have Y:=h.len
  have S:QL r<=QaG r+1:=by unfold QL;split<;>omega
  have a9:QaG r<=1073741824:=Nat.le_trans (Qct _ _) Y
  have P:i<=QaG r:=by omega
  have O:=Q3 hp P
  have H:=QaE hp P
  have R:=fun(wy:World) (E:ZB w wy)=>QbD D g enc r wy (h.below E)
  have F:=fun(wy:World) (E:ZB w wy)=>Qep D g enc r i wy (h.below E) P
  have U:=fun(wy:World) (E:ZB w wy) (off kind:Int)=>QqK D m g enc r s k off kind wy (hm.below E) (h.below E)
  have b3:m<w.heap.size:=by
    obtain⟨_,_,_,_,_,_,_,_,_,_,_,a4⟩:=hm
    exact a4.lt
  have a0 : ∀wy,ZB w wy->wy.cell? ⟨m,0,none⟩=some (.pointer (some ⟨g,0,none⟩)):=fun wy E=>(hm.below E).facts.1.1
  unfold Qe1 SignAt
  obtain⟨M,hM⟩:=ZN (QL r)
  obtain⟨L,hL⟩:=ZN (Qo r i)
  obtain⟨C,hC⟩:=ZN (Qbb r i)
  rw[hM] at R hi S
  rw[hL] at F O H ⊢
  rw[hC] at F H ⊢
  obtain⟨x0,x1,x2,x3⟩:=L
  dsimp only at O H ⊢
  have a7:0<=x0/\x0<=1073741824:=by omega
  have W:C.length<=1073741824:=by omega
  have N:=fun(wy:World) (E:ZB w wy)=>(F wy E).mono (fun e w' hh=>QeA hh)
  have Q:=Zh R
  have G:=Zh N
  have a8:=Zh U
  have Z:=Zh a0
  obtain⟨K,hK⟩:=ZN (M-1)
  have wm:IntKind.i64.wrap ((M:Int)-1)=(K:Int):=by rw[IntWalk.i64_in _ (by omega)];omega
  have b0:i<=K:=by omega
  clear R F N U a0 hm h hL hC hM hp O H hK hi S
  have n:ZB w (w.alloc (.cells #[.int .i64 0,.int .i64 0,.int .i64 0] 152)):=Qa (Below.refl _ _)
  have hB:=Blk.new w 152 #[.int .i64 0,.int .i64 0,.int .i64 0]
  go_enter Tryz.func174,Tryz.ntmps174
  go_upto_region 1 with fail
  obtain⟨w1,A⟩:∃x,w.alloc (.cells #[.int .i64 0,.int .i64 0,.int .i64 0] 152)=x:=⟨_,rfl⟩
  have b1:w.heap.size+1<=w1.heap.size:=by rw[<-A,World.size_alloc];exact Nat.le_refl _
  rw[A] at n hB ⊢
  have HB:=Zh hB
  clear hB A
  have s0:w1.drew.cell? ⟨m,0,none⟩=some (.pointer (some ⟨g,0,none⟩)):=Z.out _ (Below.drew n)
  go_cut [6] (fun s wx=>QqD ⟨x0,x1,x2,x3⟩ (i:Int) C w1 s wx)
  case first=>
    have p1:((K:Int)<(i:Int))=False:=by simp;omega
    have p3:(K<i)=False:=by simp;omega
    have p2:((i:Int)<0)=False:=by simp
    have sA:(w1.alloc (.cells #[.int .i64 0,.int .i64 0,.int .i64 0,.int .i64 0,.int .i64 0,.slice none 0 0,.slice none 0 0] 137)).drew.cell? ⟨m,0,none⟩=some (.pointer (some ⟨g,0,none⟩)):=Z.out _ (Below.drew (Qa n))
    go_region_held3 (fun w' => w'.cell? ⟨m, 0, none⟩ = some (.pointer (some ⟨g, 0, none⟩))) (first | (with_reducible assumption) | ((with_reducible refine Qdt _ ?_); with_reducible assumption) | ((repeat (with_reducible refine Qm2 (by dsimp only; omega) ?_)); (first | (with_reducible assumption) | ((with_reducible refine Qdt _ ?_); with_reducible assumption)))) (first
      |(go_at_call 17;(with_reducible refine(Q.out _ (Below.drew n)).mono ?_);rintro e w3 ⟨rfl,q⟩;have o:=Qf (Below.drew (Below.refl w1.heap.size w1)) q;have B:w1.heap.size<=w3.heap.size:=o.size;have s3:=Qh q s0)
      |(go_at_call 17;(with_reducible refine(Q.out _ (Below.drew (Qa n))).mono ?_);rintro e w3 ⟨rfl,q⟩;have o:=Qf (Below.drew (Qa (Below.refl w1.heap.size w1))) q;have s3:=Qh q sA;have B:=(World.size_alloc w1 _)▸q.size;have a6:=(Blk.new w1 137 (Qab ⟨0,0,0,0⟩ 0 none 0 0 none 0 0)).drew.below q)
      |(go_at_call 83;(with_reducible refine(G.out _ (Qf n o)).mono ?_);rintro e w4 ⟨A1,n1,c1,A2,n2,c2,rfl,c,l⟩;have p:=Qf o l;have s4:=Qh l s3;have d:=a6.below l;obtain⟨⟨g0,g1,g2,g3,g4,g5,g6⟩,u0,u1,u2,u3,u4,u5,u6⟩:=Qaj d)
      |(go_at_call 83;(with_reducible refine(G.out _ (Qf n o)).mono ?_);rintro e w4 ⟨A1,n1,c1,A2,n2,c2,rfl,c,l⟩;have p:=Qf o l;have s4:=Qh l s3)
      |(go_at_call 83;(with_reducible refine(G.out _ (Qa (Qf n o))).mono ?_);rintro e w4 ⟨A1,n1,c1,A2,n2,c2,rfl,c,l⟩;have p:=Qf (Qa o) l;have s4:=Qh (Qf (Qa (Below.refl w3.heap.size w3)) l) s3;have d:=(Blk.new w3 137 (Qab ⟨0,0,0,0⟩ 0 none 0 0 none 0 0)).below l;obtain⟨⟨g0,g1,g2,g3,g4,g5,g6⟩,u0,u1,u2,u3,u4,u5,u6⟩:=Qaj d))
    · have a:=Qsh c p
      unfold Qab at a
      dsimp only at a
      go_wp2_with fail
      go_meet
      with_reducible exact a
    · have a:=QjT d (by simp) B c p
      unfold Qiz at a
      dsimp only at a
      go_wp2_with fail
      go_meet
      with_reducible exact a
    · have a:=QjT d (by simp) B c p
      unfold Qiz at a
      dsimp only at a
      go_wp2_with fail
      go_meet
      with_reducible exact a
    · have a:=QjT d (by simp) B c p
      unfold Qiz at a
      dsimp only at a
      go_wp2_with fail
      go_meet
      with_reducible exact a
    · have a:=QjT d B (Nat.le_refl _) c p
      unfold Qiz at a
      dsimp only at a
      go_wp2_with fail
      go_meet
      with_reducible exact a
  case rest=>
    obtain⟨b,A1,n1,c1,A2,n2,c2,rfl,X,c,a1⟩:=hcut
    have a2:=HB.out.below a1.out
    have u:=Qf n a1.out
    have b2:w.heap.size<=wc.heap.size:=u.size
    have hS : ∀ w', ZB wc w' -> (w'.cell? ⟨b,0,none⟩=some (.int .i64 x0)/\w'.cell? ⟨b,1,none⟩=some (.int .i64 x1)/\w'.cell? ⟨b,2,none⟩=some (.int .i64 x2)/\w'.cell? ⟨b,3,none⟩=some (.int .i64 x3)/\w'.cell? ⟨b,4,none⟩=some (.int .i64 (i:Int)) /\
        w'.cell? ⟨b,5,none⟩=some (.slice A1 n1 c1)/\w'.cell? ⟨b,6,none⟩=some (.slice A2 n2 c2)):=fun w' t=>(Qaj (X.out.below t)).1
    have I:=fun(w':World) (t:ZB wc w')=>Qnf Any ⟨x0,x1,x2,x3⟩ (i:Int) C _ w' (c.out.below t) W
    have J:=fun(w':World) (t:ZB wc w') (k:Nat) (hk:k<=nC C)=>QeQ Any ⟨x0,x1,x2,x3⟩ (i:Int) C _ k w' (c.out.below t) a7 W hk
    unfold Qab at I J
    dsimp only at I J
    have HS:=Zh hS
    have a3:=Zh I
    have a5:=Zh J
    have V:=Zh a2
    clear hS I J a2 X c s0 HB G Q
    go_upto_region 2 with fail
    refine Qg (fun w'=>ZB wc w') (fun w'=>ZB wc w') (fun k=>k==3 || k==4 || k==5 || k==8) (fun k=>k==8) (fun k=>k==9) (by kernel_rfl) (by kernel_rfl) (Below.drew (Below.refl _ _)) (fun _ h=>h) ?_
    repeat ((first
      |(refine Qc (v:=?_) (by rfl) (by rfl) (fun w6 hSw=>?_) ?_;rotate_left;(·(obtain⟨y0,y1,y2,y3,y4,y5,y6⟩:=HS.out _ hSw;go_simp;try with_reducible rfl)))
      |(refine Qd (v:=?_) (by rfl) (fun w6=>?_) ?_;rotate_left;(·(go_simp;try with_reducible rfl)))
      |refine Qe (by rfl) ?_);(try simp only[Act.put,pA,pB,pC]))
    refine Qn (f:=?_) (args:=?_) (fun v w'=>(∃j:Nat,v=.int .i64 (j:Int)/\Qn3 C j)/\ZB wc w') (by rfl) (by rfl) (fun w6 hSw=>?_) (fun w6 hSw=>?_) (.inr (fun v6 w6 hT6=>?_)) (fun v6 hv6=>?_)
    rotate_left 2
    · (skip;go_simp;first|done|(constructor<;>with_reducible rfl)|with_reducible rfl)
    · (refine(a3.out _ hSw).mono ?_;rintro e w' ⟨j,rfl,hj,t⟩;exact⟨_,rfl,⟨j,rfl,hj⟩,Qf hSw t⟩)
    · (exact hT6.2)
    obtain⟨wz,⟨j,rfl,hj⟩,-⟩:=hv6
    (try simp only[Act.put,pA,pB,pC])
    repeat ((first
      |(refine Qc (v:=?_) (by rfl) (by rfl) (fun w6 hSw=>?_) ?_;rotate_left;(·(obtain⟨y0,y1,y2,y3,y4,y5,y6⟩:=HS.out _ hSw;go_simp;try with_reducible rfl)))
      |(refine Qd (v:=?_) (by rfl) (fun w6=>?_) ?_;rotate_left;(·(go_simp;try with_reducible rfl)))
      |refine Qe (by rfl) ?_);(try simp only[Act.put,pA,pB,pC]))
    refine Qn (f:=?_) (args:=?_) (fun v w'=>v=.int .i64 (x0+(mkb C j:Int))/\ZB wc w') (by rfl) (by rfl) (fun w6 hSw=>?_) (fun w6 hSw=>?_) (.inr (fun v6 w6 hT6=>?_)) (fun v6 hv6=>?_)
    rotate_left 2
    · (skip;go_simp;first|done|(constructor<;>with_reducible rfl)|with_reducible rfl)
    · (refine(a5.out _ hSw.2 j (by have:=hj.2.1;omega)).mono ?_;rintro e w' ⟨rfl,t⟩;exact⟨_,rfl,rfl,Qf hSw.2 t⟩)
    · (exact hT6.2)
    obtain⟨wz,rfl,-⟩:=hv6
    (try simp only[Act.put,pA,pB,pC])
    repeat ((first
      |(refine Qc (v:=?_) (by rfl) (by rfl) (fun w6 hSw=>?_) ?_;rotate_left;(·(obtain⟨y0,y1,y2,y3,y4,y5,y6⟩:=HS.out _ hSw;go_simp;try with_reducible rfl)))
      |(refine Qd (v:=?_) (by rfl) (fun w6=>?_) ?_;rotate_left;(·(go_simp;try with_reducible rfl)))
      |refine Qe (by rfl) ?_);(try simp only[Act.put,pA,pB,pC]))
    refine Qn (f:=?_) (args:=?_) (fun v w'=>(∃jj:Nat,v=.tuple #[.agg #[.int .i64 (x0+(mkb C j:Int)),.int .i64 2,.int .i64 (jj:Int)],.int .i64 0])/\ZB wc w') (by rfl) (by rfl) (fun w6 hSw=>?_) (fun w6 hSw=>?_) (.inr (fun v6 w6 hT6=>?_)) (fun v6 hv6=>?_)
    rotate_left 2
    · (skip;go_simp;first|done|(constructor<;>with_reducible rfl)|with_reducible rfl)
    · (refine(a8.out _ (Qf u hSw.2) _ _).mono ?_;rintro e w' ⟨⟨jj,rfl⟩,t⟩;exact⟨_,rfl,⟨jj,rfl⟩,Qf hSw.2 t⟩)
    · (exact hT6.2)
    obtain⟨wz,⟨jj,rfl⟩,-⟩:=hv6
    (try simp only[Act.put,pA,pB,pC])
    iterate 2 ((first
      |(refine Qc (v:=?_) (by rfl) (by rfl) (fun w6 hSw=>?_) ?_;rotate_left;(·(obtain⟨y0,y1,y2,y3,y4,y5,y6⟩:=HS.out _ hSw;go_simp;try with_reducible rfl)))
      |(refine Qd (v:=?_) (by rfl) (fun w6=>?_) ?_;rotate_left;(·(go_simp;try with_reducible rfl)))
      |refine Qe (by rfl) ?_);(try simp only[Act.put,pA,pB,pC]))
    refine Ql (fun _ w'=>∃wx,ZB wc wx/\w'=((wx.setCell ⟨w.heap.size,0,none⟩ (.int .i64 (x0+(mkb C j:Int)))).setCell ⟨w.heap.size,1,none⟩ (.int .i64 2)).setCell ⟨w.heap.size,2,none⟩ (.int .i64 (jj:Int))) (by rfl) (by rfl) (fun w6 hSw=>?_) (.inl (by rfl)) (fun v6 hv6=>?_)
    · (obtain⟨l0,l1,l2,l3,l4,l5⟩:=Qdf (V.out.below hSw.2);go_simp;exact⟨_,hSw.2,rfl⟩)
    skip
    (try simp only[Act.put,pA,pB,pC])
    repeat ((first
      |(refine Qc (v:=?_) (by rfl) (by rfl) (fun w6 hSw=>?_) ?_;rotate_left;(·(obtain⟨y0,y1,y2,y3,y4,y5,y6⟩:=HS.out _ hSw;go_simp;try with_reducible rfl)))
      |(refine Qd (v:=?_) (by rfl) (fun w6=>?_) ?_;rotate_left;(·(go_simp;try with_reducible rfl)))
      |refine Qe (by rfl) ?_);(try simp only[Act.put,pA,pB,pC]))
    refine Qu ?_
    rintro w9 ⟨wx,T,rfl⟩
    go_wp2_with fail
    obtain⟨e0,e1,e2⟩:=QeR (x:=x0+(mkb C j:Int)) (y:=2) (z:=(jj:Int)) (V.out.below T)
    exact bodyPost_ret (v:=.tuple #[.agg #[.int .i64 (x0+(mkb C j:Int)),.int .i64 2,.int .i64 (jj:Int)],.int .i64 0]) (by simp[results,Tryz.results174,go_sem,e0,e1,e2]) rfl ⟨_,⟨j,hj,rfl⟩,⟨jj,rfl⟩,Qc5 (Qf u T) (Nat.le_refl _)⟩
def QA (at_:Int)(xs:List Int)(A:Option Addr)(c:Nat):Ed:=⟨at_,at_,A,xs.length,c,xs⟩
theorem QoK {w:World}{base n c:Nat}{A:Option Addr}{xs:List Int}(h:w.ownsRow base 3 1 (.slice A n c) n (xs.map (Value.int .i64))):Ints w (fun b=>base<=b/\∃l,Blk w b 3 l) A n xs:=by
 refine⟨h.1,fun i=>?_⟩
 rcases h.2 with ⟨o,m⟩|⟨r,c',cur,j,e,g,h1,h2,q,p⟩
 ·omega
 ·have d:A=some ⟨r,0,none⟩:=by injection j
  obtain⟨k,a,_,f⟩:=(Reads.of_own h).2 i
  rw[d] at a
  injection a with a
  refine⟨k,by rw[d,a],⟨?_,cur,?_⟩,f⟩
  ·rw[<-a]
   exact e
  ·rw[<-a]
   exact g
def Qnv (B d a g:Nat)(enc lim:Int)(n:Nat)(st:BkS)(o:OpS)(b:Array Value)(at_:Int)(xs:List Int)(w:World)(e:Ending)(w':World):Prop:=
 ∃A c,e=.returned (.int .i64 (at_+xs.length)) /\
  DeskIs w' B d a g enc lim (n+131072) { st with ats:=edA [QA at_ xs A c] st.ats,now:=some { o with moves:=o.moves++[[QiD (QA at_ xs A c)]],changed:=true } } b/\BkFr B w w'
def Qtb (W:World)(vt:Value->Prop)(n:Nat)(xs:List Int)(v:Value)(w':World):Prop:=∃A c,v=.tuple #[.slice A n c,.int .i64 0]/\n<=c/\w'.ownsRow W.heap.size 3 1 (.slice A n c) n (xs.map (Value.int .i64))/\ZB W w'
theorem Qnu (B Q gb g n W b1 Z:Nat)(enc lim at_ b:Int)(st:BkS)(o:OpS)(U:Array Value)(A:Option Addr)(m c:Nat)(xs:List Int)(w:World)(h:DeskIs w B Q gb g enc lim n st U)(hn:st.now=some o)(a6:o.moves.length<1048576)
  (h9:U[9]? = some (.int .i64 b)) (a:b=1\/b=2\/b=3)
  (k0:Blk w W 23 #[.pointer (some ⟨Q,0,none⟩)]) (V:Blk w b1 3 #[.int .i64 at_]) (k2:Blk w Z 36 #[.slice A m c])
  (hx:Ints w Any A m xs) (hm:0<m/\m<=1048576) (K : ∀x ∈ xs,x≠10) (X:0<=at_/\at_<=(st.ats.length:Int)) (hz : ∀A' c',QbN enc lim (Qb enc st.ats) [QA at_ xs A' c']=0) (a5:n+131072<=1073741824) :
  Calls Tryz.prog 108 #[.pointer (some ⟨W,0,none⟩),.pointer (some ⟨b1,0,none⟩),.pointer (some ⟨Z,0,none⟩)] w (Qnv B Q gb g enc lim n st o U at_ xs w):=by
 have H:=hx.len
 have a7:=h.len
 have R : ∀w',ZB w w'->w'.cell? ⟨W,0,none⟩=some (.pointer (some ⟨Q,0,none⟩))/\w'.cell? ⟨b1,0,none⟩=some (.int .i64 at_)/\w'.cell? ⟨Z,0,none⟩=some (.slice A m c):=fun w' a=>
  ⟨(k0.below a).cell 0,(V.below a).cell 0,(k2.below a).cell 0⟩
 have hT:=fun(w':World) (a:ZB w w')=>Qae (h.below a)
 have hN:=fun(w':World) (t:ZB w w')=>Qgk Q U b w' (h.below t).desk h9 (by omega)
 have O:=fun(w':World) (t:ZB w w')=>QiJ Any g enc (Qb enc st.ats) at_ b A m c xs w' (h.below t).at_ (by rw[Qr];exact X) a (Reads.below hx t) (by omega) K
 have l:=Zh R
 have HT:=Zh hT
 have HN:=Zh hN
 have Y:=Zh O
 have HH:=Zh h
 have a1:=Zh hn
 have HZ:=Zh hz
 have d:=Zh H
 have a4:=Zh V
 have wa:IntKind.i64.wrap (at_+(m:Int))=at_+(m:Int):=IntWalk.i64_in _ (by omega)
 have q0:((0:Int)<(m:Int))=True:=by simp;omega
 clear R hT hN O h hn hz hx k0 V k2 K H h9
 go_enter Tryz.func108,Tryz.ntmps108
 go_wp2_with fail
 refine Qg (fun w'=>ZB w w') (fun w'=>ZB w w') (fun k=>k==1 || k==5 || k==6) (fun _=>false) (fun _=>false) (by kernel_rfl) (by kernel_rfl) (Below.drew (Below.refl _ _)) (fun _ h=>h) ?_
 repeat ((first
  |(refine Qc (v:=?_) (by rfl) (by rfl) (fun w6 hSw=>?_) ?_;rotate_left;(·(obtain⟨L,z,S⟩:=l.out _ hSw;go_simp;try with_reducible rfl)))
  |(refine Qd (v:=?_) (by rfl) (fun w6=>?_) ?_;rotate_left;(·(go_simp;try with_reducible rfl)))
  |refine Qe (by rfl) ?_);(try simp only[Act.put,pA,pB,pC]))
 refine QW (f:=?_) (args:=?_) (v:=.pointer (some ⟨g,0,none⟩)) (by rfl) (by rfl) (fun w6 hSw=>?_) (fun _ h=>h) (fun w6 hSw=>?_) ?_
 rotate_left 2
 ·(skip;go_simp;first|done|(constructor<;>with_reducible rfl)|with_reducible rfl)
 ·(refine(HT.out _ hSw).mono ?_;rintro e w5 ⟨rfl,rfl⟩;exact⟨rfl,hSw⟩)
 (try simp only[Act.put,pA,pB,pC])
 repeat ((first
  |(refine Qc (v:=?_) (by rfl) (by rfl) (fun w6 hSw=>?_) ?_;rotate_left;(·(obtain⟨L,z,S⟩:=l.out _ hSw;go_simp;try with_reducible rfl)))
  |(refine Qd (v:=?_) (by rfl) (fun w6=>?_) ?_;rotate_left;(·(go_simp;try with_reducible rfl)))
  |refine Qe (by rfl) ?_);(try simp only[Act.put,pA,pB,pC]))
 refine QW (f:=?_) (args:=?_) (v:=.int .i64 b) (by rfl) (by rfl) (fun w6 hSw=>?_) (fun _ h=>h) (fun w6 hSw=>?_) ?_
 rotate_left 2
 ·(skip;go_simp;first|done|(constructor<;>with_reducible rfl)|with_reducible rfl)
 ·(refine(HN.out _ hSw).mono ?_;rintro e w5 ⟨rfl,rfl⟩;exact⟨rfl,hSw⟩)
 (try simp only[Act.put,pA,pB,pC])
 repeat ((first
  |(refine Qc (v:=?_) (by rfl) (by rfl) (fun w6 hSw=>?_) ?_;rotate_left;(·(obtain⟨L,z,S⟩:=l.out _ hSw;go_simp;try with_reducible rfl)))
  |(refine Qd (v:=?_) (by rfl) (fun w6=>?_) ?_;rotate_left;(·(go_simp;try with_reducible rfl)))
  |refine Qe (by rfl) ?_);(try simp only[Act.put,pA,pB,pC]))
 refine Qn (f:=?_) (args:=?_) (Qtb w (fun _=>True) m xs) (by rfl) (by rfl) (fun w6 hSw=>?_) (fun w6 hSw=>?_) (.inr (fun v6 w6 hT6=>?_)) (fun v6 hv6=>?_)
 rotate_left 2
 ·(skip;go_simp;first|done|(constructor<;>with_reducible rfl)|with_reducible rfl)
 ·(refine(Y.out _ hSw).mono ?_;rintro e w5 ⟨v5,rfl,N,D⟩;obtain⟨A5,c5,rfl,a2⟩:=Qj N;exact⟨_,rfl,A5,c5,rfl,a2,Qan N hSw.size,Qf hSw D⟩)
 ·(obtain⟨_,_,_,_,_,D⟩:=hT6;exact D)
 obtain⟨w7,q,p,rfl,a8,-,-⟩:=hv6
 (try simp only[Act.put,pA,pB,pC])
 repeat ((first
  |(refine Qc (v:=?_) (by rfl) (by rfl) (fun w6 hSw=>?_) ?_;rotate_left;(·(obtain⟨L,z,S⟩:=l.out _ hSw;go_simp;try with_reducible rfl)))
  |(refine Qd (v:=?_) (by rfl) (fun w6=>?_) ?_;rotate_left;(·(go_simp;try with_reducible rfl)))
  |refine Qe (by rfl) ?_);(try simp only[Act.put,pA,pB,pC]))
 refine Qu ?_
 rintro E ⟨A2,c2,e2,a9,I,F⟩
 simp at e2
 obtain⟨rfl,rfl⟩:=e2
 go_wp2_with fail
 refine(Qb9 _).mono ?_
 rintro e w3 ⟨rfl,rfl⟩
 obtain⟨L,z,S⟩:=l.out _ F
 have r:ZB w (E.alloc (.cells #[.int .i64 at_,.int .i64 at_,.slice q m p] 89)):=Qa F
 have s:Blk (E.alloc (.cells #[.int .i64 at_,.int .i64 at_,.slice q m p] 89)) E.heap.size 89 #[.int .i64 at_,.int .i64 at_,.slice q m p]:=Blk.new E _ _
 have y:=QoK (QN I (Qa (o:=.cells #[.int .i64 at_,.int .i64 at_,.slice q m p] 89) (Below.refl _ _)))
 go_wp2_with fail
 obtain⟨w3,J⟩:∃x,E.alloc (.cells #[.int .i64 at_,.int .i64 at_,.slice q m p] 89)=x:=⟨_,rfl⟩
 rw[J] at r s y ⊢
 have T:EdsAt w3 (fun b=>(∃i,Blk w3 b 3 i)\/∃i,Blk w3 b 89 i) (some ⟨E.heap.size,0,none⟩) 1 [QA at_ xs q p]:=by
  refine⟨⟨rfl,fun _=>⟨_,rfl,.inr ⟨_,s⟩,fun j u hu=>?_⟩⟩,fun e he=>?_⟩
  ·rw[QaF,s.cell,Nat.zero_add]
   simp only[QA,Ed.cells,d.out,List.flatMap_cons,List.flatMap_nil,List.append_nil] at hu
   rw[<-hu]
   simp
  ·simp at he
   subst he
   have h1:=Reads.more y (D':=fun b=>(∃i,Blk w3 b 3 i)\/∃i,Blk w3 b 89 i) (fun b a _=>.inl a.2) (by decide)
   simp only[QA,d.out]
   exact h1
 have M:(o.changed || [QA at_ xs q p].any chg)=true:=by
  have:chg (QA at_ xs q p)=true:=by
   unfold chg QA
   simp[d.out]
   omega
  simp[this]
 have C := QeD (c := 1) (HH.out.below r) a1.out T (fun b a _=>by
  rcases a with ⟨i,a⟩|⟨i,a⟩
  ·exact⟨_,i,a,by decide⟩
  ·exact⟨_,i,a,by decide⟩) (by simp[Qf0,QA,d.out];omega) a5 a6 (HZ.out q p)
 rw[M] at C
 have a0:=Zh C
 clear C M T y s J L z S I
 refine(a0.out).mono ?_
 rintro e w4 ⟨rfl,G,P⟩
 have z:=(P.blk (a4.out.below r) (by decide)).cell 0
 simp at z
 have a3:=Zh G
 clear G
 go_wp2_with fail
 go_ret
 exact⟨q,p,QaB (by rw[d.out]),a3.out,(BkFr.below r).trans P⟩
end Go.Proofs.YtgiihhikdoikgaaGreat
