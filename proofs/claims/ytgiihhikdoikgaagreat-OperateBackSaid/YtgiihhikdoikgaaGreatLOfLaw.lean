/-
  The line of an offset begins at it or ahead of it. (Plain.)
-/
import Derived.Test.YtgiihhikdoikgaaGreatLHeavy
import Derived.Test.YtgiihhikdoikgaaGreatLWalk
import Derived.Test.YtgiihhikdoikgaaGreatLSeek
import Derived.Test.YtgiihhikdoikgaaGreatLRf2
import Derived.Test.YtgiihhikdoikgaaGreatLRow4
set_option linter.unusedSimpArgs false
set_option linter.unusedVariables false
set_option maxRecDepth 100000
set_option maxHeartbeats 32000000
namespace Go.Proofs.YtgiihhikdoikgaaGreat
open Go.RowKit
def GotInts (W:World)(n:Nat)(l:List Int)(v:Value)(w':World):Prop:=∃A c,v=.slice A n c/\n<=c/\Ints w' Any A n l/\ZB W w'
theorem GotInts.bel {W w':World}{n:Nat}{l:List Int}{v:Value}(h:GotInts W n l v w'):ZB W w':=by
 obtain⟨_,_,_,_,_,h⟩:=h
 exact h
theorem GotInts.out {W w':World}{n c:Nat}{l:List Int}{A:Option Addr}(h:GotInts W n l (.slice A n c) w'):Ints w' Any A n l/\ZB W w':=by
 obtain⟨_,_,e,_,b,a⟩:=h
 injection e with e1 e2 e3
 subst e1
 exact⟨b,a⟩
theorem GotInts.keep {W w' a:World}{n:Nat}{l:List Int}{v:Value}(h:GotInts W n l v w')(d:ZB w' a):GotInts W n l v a:=by
 obtain⟨A,c,e,f,g,b⟩:=h
 exact⟨A,c,e,f,Reads.below g d,Qf b d⟩
theorem GotInts.mk_ {W w w':World}{n:Nat}{l:List Int}{v:Value}(hn:n=l.length)(c:ZB W w)(d:w'.ownsRow w.heap.size 3 1 v l.length (l.map (Value.int .i64)))(a:ZB w w'):GotInts W n l v w':=by
 subst hn
 rcases d.2 with ⟨b,f⟩|⟨g,cap,cur,b,_,_,e,_⟩
 ·refine⟨none,0,by rw[b,f],by omega,⟨by simp,fun h=>absurd h (by omega)⟩,Qf c a⟩
 ·exact⟨_,cap,b,e,Reads.more (Reads.of_own (by rw[<-b];exact d)) (fun _ _ _=>trivial) (by decide),Qf c a⟩
theorem QpP {w0 w:World}{B g bt bf bp bn d:Nat}{enc lim:Int}{b add v:Value}{a:Option Addr}{xs:List Value}{dn pd:List Int}{m:Nat}{ps:List Pc}{ba cap:Nat}
  (h:FreshS w0 B g bt bf bp bn enc lim d b a xs dn pd m ps v add w) (e:w0.ownsRow B 5 1 b d xs) (c:add=.slice (some ⟨ba,0,none⟩) (d+(QF enc dn).length+(QF enc pd).length) cap) :
  Bts w Any (some ⟨ba,d+(QF enc dn).length,none⟩) (QF enc pd).length (QF enc pd):=by
 refine⟨by simp,fun _=>⟨_,rfl,trivial,fun j u f=>?_⟩⟩
 rw[QaF]
 have := h.row.cells (g := ba) (by rw [c]; rfl) (d + (QF enc dn).length + j) u (by
  have i:=e.1
  rw[List.getElem?_append_right (by omega),List.map_append,List.getElem?_append_right (by rw[List.length_map];omega),List.length_map]
  rw[<-f]
  congr 1
  omega)
 rw[QaF,Nat.zero_add] at this
 exact this
def Qr7 (bt bf bp g:Nat)(enc:Int)(F:Nat)(v av:Value)(w:World):Prop:=
 w.cell? ⟨bt,0,none⟩=some (.pointer (some ⟨g,0,none⟩))/\w.cell? ⟨g,0,none⟩=some (.int .i64 enc)/\w.cell? ⟨g,3,none⟩=some av/\w.cell? ⟨bf,0,none⟩=some (.int .i64 F)/\w.cell? ⟨bp,0,none⟩=some v
def Qsq (bt bf bp bn g:Nat)(enc:Int)(F:Nat)(v av:Value)(w:World):Prop:=Qr7 bt bf bp g enc F v av w/\w.frozen? ⟨bp,0,none⟩=false/\w.frozen? ⟨bf,0,none⟩=false/\w.frozen? ⟨bn,0,none⟩=false
theorem FreshS.fr_facts {w0 w w1:World}{B g bt bf bp bn e:Nat}{enc lim:Int}{d add v:Value}{a:Option Addr}{xs:List Value}{dn pd:List Int}{m:Nat}{ps:List Pc}
  (h:FreshS w0 B g bt bf bp bn enc lim e d a xs dn pd m ps v add w) (c:Fr (OwnB v) w w1):Qsq bt bf bp bn g enc (e+(QF enc dn).length) v add w1:=by
 have ov : ∀{T:TypeId} {p:Array Value} {b:Nat},Blk w b T p->107≠T->¬OwnB v b:=fun k l=>Qk h.prow k l
 have f:=h.tx.fr c (ov h.tx (by decide))
 have o:=h.tb.fr c (ov h.tb (by decide))
 have i:=h.fb.fr c (ov h.fb (by decide))
 have j:=h.pb.fr c (ov h.pb (by decide))
 have n:=h.nb.fr c (ov h.nb (by decide))
 exact⟨⟨o.cell 0,f.cell 0,f.cell 3,i.cell 0,j.cell 0⟩,j.frozen 0,i.frozen 0,n.frozen 0⟩
theorem FreshS.fr_blks {w0 w w1:World}{B g bt bf bp bn e:Nat}{enc lim:Int}{d add v:Value}{a:Option Addr}{xs:List Value}{dn pd:List Int}{m:Nat}{ps:List Pc}
  (h:FreshS w0 B g bt bf bp bn enc lim e d a xs dn pd m ps v add w) (c:Fr (OwnB v) w w1) (u:Value) (x:Value) :
  (w1.setCell ⟨bp,0,none⟩ u).cell? ⟨bf,0,none⟩=some (.int .i64 ((e+(QF enc dn).length:Nat):Int))/\((w1.setCell ⟨bp,0,none⟩ u).setCell ⟨bf,0,none⟩ x).cell? ⟨bn,0,none⟩=some (.int .i64 (m:Int)):=by
 have ov : ∀{T:TypeId} {q:Array Value} {b:Nat},Blk w b T q->107≠T->¬OwnB v b:=fun k l=>Qk h.prow k l
 have i:=h.fb.fr c (ov h.fb (by decide))
 have j:=h.pb.fr c (ov h.pb (by decide))
 have f:=h.nb.fr c (ov h.nb (by decide))
 have o:bf≠bp:=Blk.ne_ i j (by decide)
 have n:bn≠bp:=Blk.ne_ f j (by decide)
 exact⟨(i.far (p:=⟨bp,0,none⟩) o u).cell 0,((f.far (p:=⟨bp,0,none⟩) n u).far (p:=⟨bf,0,none⟩) (Ne.symm h.ge.2.2.2.2) x).cell 0⟩
theorem Qhc (w0:World)(B g bt bf bp bn:Nat)(enc lim:Int)(A:Nat)(s:Value)(a:Option Addr)(xs:List Value)(dn pd:List Int)(ps:List Pc)(v add:Value)(w:World)(he:enc=1\/enc=2\/enc=3\/enc=4)
  (h:FreshS w0 B g bt bf bp bn enc lim A s a xs dn pd pd.length ps v add w) (C:w0.ownsRow B 5 1 s A xs) (T:dec enc (QF enc pd)=Qat enc pd) (J:Fit enc pd) (hn:(QF enc pd).length<=1048576) (hN:A+(QF enc dn).length+(QF enc pd).length<=1073741824) (b1:ps.length<=1073741824) :
  Calls Tryz.prog 179 #[.pointer (some ⟨bt,0,none⟩),.pointer (some ⟨bf,0,none⟩),.pointer (some ⟨bp,0,none⟩),.pointer (some ⟨bn,0,none⟩)] w fun e w'=>QoO w0 B g bt bf bp bn enc lim A s a xs dn pd add w e w':=by
 obtain⟨A',cap,b,D⟩:=Qj h.row
 have c1:=h.tb.cell 0
 have c2:=h.tx.cell 3
 have V:=h.fb.cell 0
 have c4:=h.pb.cell 0
 have c5:=h.nb.cell 0
 simp at c1 c2 V c4 c5
 by_cases hz:(QF enc pd).length=0
 ·have a5:pd=[]:=by
   cases pd with
   |nil=>rfl
   |cons x xs=>
    have h1:=Qdj enc x (J x List.mem_cons_self)
    have h2:=J x List.mem_cons_self
    rw[Qcm,List.length_append] at hz
    omega
  subst a5
  rw[b] at c2
  obtain⟨F,y⟩:=ZN (A+(QF enc dn).length)
  have q:((F:Int)<((A+(QF enc dn).length+(QF enc ([]:List Int)).length:Nat):Int))=False:=by simp[QaW];omega
  obtain⟨M,O⟩:=ZN (A+(QF enc dn).length+(QF enc ([]:List Int)).length)
  rw[O] at c2 q
  rw[<-Int.natCast_add,y] at V
  have H:=Zh h
  clear h y O b C c4 c5 T J
  go_enter Tryz.func179,Tryz.ntmps179
  go_wp2_with fail
  refine bodyPost_ret (results_none rfl _ _ _) rfl ⟨rfl,ps,v,?_⟩
  rw[List.append_nil]
  exact H.out
 ·obtain⟨ba,hA⟩:∃ba,A'=some ⟨ba,0,none⟩:=by
   rcases h.row.2 with ⟨P,e1⟩|⟨q,c,cur,P,_⟩
   ·omega
   ·rw[b] at P
    injection P with P
    exact⟨q,P⟩
  subst hA
  obtain⟨F,y⟩:=ZN (A+(QF enc dn).length)
  obtain⟨m,hm⟩:=ZN ((QF enc pd).length)
  have n:=QpP h C b
  have G:=fun(w1:World) d (u x:Value)=>h.fr_blks (w1:=w1) d u x
  rw[y] at G
  have W:=Zh G
  clear G
  have z:=fun(w1:World) d=>h.fr_facts (w1:=w1) d
  have i:=fun(w1:World) (v':Value) d o=>h.shut (w1:=w1) (v':=v') C b T J (by omega) hn d o
  obtain⟨S,U⟩:=ZN (Qi (dec enc (QF enc pd)))
  have j:(Qoe enc ba (A+(QF enc dn).length) pd).cells=Qx (some ⟨ba,F,none⟩) m m (-1) S:=by
   unfold Qoe Pc.cells
   dsimp only
   rw[y,hm,U]
  rw[y,hm] at b hN D n
  rw[y] at z
  rw[j,y,hm] at i
  rw[b] at c2
  rw[<-Int.natCast_add,y] at V
  have q:((F:Int)<((F+m:Nat):Int))=True:=by simp;omega
  obtain⟨M,O⟩:=ZN (F+m)
  rw[O] at c2 q hN D b i
  have q2:F<=M:=by omega
  have q3:M-F=m:=by omega
  have q4:(M=F)=False:=by simp;omega
  rw[b] at z
  have K:=Zh z
  have r:=Qj9 enc pd J
  have t:=h.prow
  obtain⟨R,E⟩:∃x,(ps.flatMap fun p=>p.cells.toList)=x:=⟨_,rfl⟩
  rw[E] at t i
  obtain⟨l,hl⟩:=ZN (QF enc pd)
  rw[hl] at n r U
  have b0:w0.heap.size<=w.heap.size:=h.step.fr.size
  have f3:=h.fb.frozen 0
  have f4:=h.pb.frozen 0
  have f5:=h.nb.frozen 0
  have c0:=h.tx.cell 0
  simp at c0
  have HF:=Zh i
  have HD:=Zh T
  have a7:=Zh n
  have a4:=Zh r
  have HR:=Zh t
  have HS:=Zh U
  have HE:=Zh he
  clear h z y hm O b C T J i j hn E hl n r t U he hz
  obtain⟨ip,zp,a0,a8,Y,Z,a6⟩:=QdR
  go_enter Tryz.func179,Tryz.ntmps179
  go_wp2_with fail
  refine Qg (Qr7 bt bf bp g enc F v (.slice (some ⟨ba,0,none⟩) M cap)) (fun w'=>ZB w w') (fun k=>k==13 || k==14 || k==15 || k==16) (fun k=>k==16) (fun _=>false) (by kernel_rfl) (by kernel_rfl) ((Below.refl _ _).drew) (fun w' h=>(K.out _ (Fr.of_below h)).1) ?_
  repeat ((first
   |(refine Qc (v:=?_) (by rfl) (by rfl) (fun w6 hSw=>?_) ?_;rotate_left;(·(obtain⟨y0,y1,y2,y3,y4⟩:=hSw;go_simp;try with_reducible rfl)))
   |(refine Qd (v:=?_) (by rfl) (fun w6=>?_) ?_;rotate_left;(·(go_simp;try with_reducible rfl)))
   |refine Qe (by rfl) ?_);(try simp only[Act.put,pA,pB,pC]))
  refine Qn (f:=?_) (args:=?_) (fun v1 w1=>v1=.agg #[.slice (some ⟨ba,F,none⟩) m m,.int .i64 (-1),.int .i64 S.atoms,.int .i64 S.bytes,.int .i64 S.breaks,.bool S.lf,.bool S.cr]/\ZB w w1) (by rfl) (by rfl) (fun w6 hSw=>?_) (fun w6 hSw=>?_) (.inr (fun v6 w6 hT6=>?_)) (fun v6 hv6=>?_)
  rotate_left 2
  ·(skip;go_simp;first|done|(constructor<;>with_reducible rfl)|with_reducible rfl)
  ·(refine(QcI enc Any (some ⟨ba,F,none⟩) m m (-1) l w6 HE.out (Reads.below a7.out hSw) a4.out (by omega) (Nat.le_refl _)).mono ?_;rintro e w1 ⟨rfl,a3⟩;exact⟨_,rfl,by rw[HS.out];rfl,Qf hSw a3⟩)
  ·(exact(K.out _ (Fr.of_below hT6.2)).1)
  obtain⟨wq,rfl,-⟩:=hv6
  (try simp only[Act.put,pA,pB,pC])
  refine Ql (fun u w'=>∃wq,ZB w wq/\u=.slice (some ⟨wq.heap.size,0,none⟩) 1 1/\w'=wq.alloc (.cells #[.slice (some ⟨ba,F,none⟩) m m,.int .i64 (-1),.int .i64 S.atoms,.int .i64 S.bytes,.int .i64 S.breaks,.bool S.lf,.bool S.cr] 107)) (by rfl) (by rfl) (fun w6 hSw=>?_) (.inr (fun v6 w6 hT6=>?_)) (fun v6 hv6=>?_)
  ·(go_simp;exact⟨w6,hSw.2,rfl,rfl⟩)
  ·(obtain⟨wq,N,-,rfl⟩:=hT6;exact(K.out _ (Fr.of_below (Qa N))).1)
  skip
  (try simp only[Act.put,pA,pB,pC])
  refine Ql (fun u w'=>Fr (OwnB v) w w'/\w'.ownsRow w0.heap.size 107 7 u (ps.length+1) (R++[.slice (some ⟨ba,F,none⟩) m m,.int .i64 (-1),.int .i64 S.atoms,.int .i64 S.bytes,.int .i64 S.breaks,.bool S.lf,.bool S.cr])) (by rfl) (by rfl) (fun w6 hSw=>?_) (.inr (fun v6 w6 hT6=>?_)) (fun v6 hv6=>?_)
  ·(obtain⟨wq,N,rfl,rfl⟩:=hSw;exact Q5 232 rfl w0.heap.size 107 ip zp 7 64 Tryz.underlying232 a0 a8 Y Z a6 (by decide) v ps.length _ rfl ((QT HR.out N).alloc _) ⟨wq.heap.size,0,none⟩ 1 1 [.slice (some ⟨ba,F,none⟩) m m,.int .i64 (-1),.int .i64 S.atoms,.int .i64 S.bytes,.int .i64 S.breaks,.bool S.lf,.bool S.cr] rfl rfl (QaU _ _ _) (QdK _ _ _ _ _ _ _ _ _) (by unfold maxLen;omega) (by omega) (by have:=N.size;simp;omega) (fun v' w' a2 a1 _ a9=>⟨(Fr.of_below (Qa N)).grown a1 (fun k hk _=>hk),a2⟩))
  ·(exact(K.out _ hT6.1).1)
  obtain⟨wz,-,X⟩:=hv6;obtain⟨Q,L,rfl,-⟩:=Qj X
  (try simp only[Act.put,pA,pB,pC])
  refine Ql (fun _ w'=>∃wq,(Fr (OwnB v) w wq/\wq.ownsRow w0.heap.size 107 7 (.slice Q (ps.length+1) L) (ps.length+1) (R++[.slice (some ⟨ba,F,none⟩) m m,.int .i64 (-1),.int .i64 S.atoms,.int .i64 S.bytes,.int .i64 S.breaks,.bool S.lf,.bool S.cr]))/\w'=wq.setCell ⟨bp,0,none⟩ (.slice Q (ps.length+1) L)) (by rfl) (by rfl) (fun w6 hSw=>?_) (.inl (by rfl)) (fun v6 hv6=>?_)
  ·(obtain⟨⟨y0,y1,y2,y3,y4⟩,y5,y6,y7⟩:=K.out _ hSw.1;go_simp;exact⟨w6,hSw,rfl⟩)
  skip
  (try simp only[Act.put,pA,pB,pC])
  refine Qu ?_
  rintro w2 ⟨wq,⟨d,o⟩,rfl⟩
  have I:=(K.out _ d).2
  have y6:(wq.setCell ⟨bp,0,none⟩ (.slice Q (ps.length+1) L)).frozen? ⟨bf,0,none⟩=false:=(World.frozen?_setCell _ _ _ _).trans I.2.1
  have y7:((wq.setCell ⟨bp,0,none⟩ (.slice Q (ps.length+1) L)).setCell ⟨bf,0,none⟩ (.int .i64 M)).frozen? ⟨bn,0,none⟩=false:=(World.frozen?_setCell _ _ _ _).trans ((World.frozen?_setCell _ _ _ _).trans I.2.2)
  obtain⟨z6,z7⟩:=W.out _ d (.slice Q (ps.length+1) L) (.int .i64 M)
  have HP:=Zh (HF.out _ _ d o)
  clear I d o
  go_wp2_with fail
  refine bodyPost_ret (results_none rfl _ _ _) rfl ⟨rfl,_,_,HP.out⟩
theorem QeE {w w':World}{B e size n:Nat}{S:Nat->Prop}{v:Value}{xs:List Value}(h:w.ownsRow B e size v n xs)(f:Fr S w w')(hn : ∀b,v.ownBlock=some b->¬S b):w'.ownsRow B e size v n xs:=by
 refine⟨h.1,?_⟩
 rcases h.2 with d|⟨r,c,cur,e,h1,h2,i⟩
 ·exact .inl d
 ·refine .inr ⟨r,c,cur,e,h1,?_,i⟩
  rw[f.block r (Array.getElem?_eq_some_iff.1 h2).1 (hn r (by rw[e];rfl))]
  exact h2
theorem Qeh {w:World}{B l e k size d n q:Nat}{v v':Value}{xs f:List Value}(h:w.ownsRow B e size v n xs)(o:w.ownsRow l k d v' q f)(p:e≠k) : ∀b,v.ownBlock=some b->v'.ownBlock≠some b:=by
 intro b j i
 rcases h.2 with ⟨rfl,_⟩|⟨r,c,cur,rfl,_,h2,_⟩
 ·cases j
 ·have:r=b:=by simpa[Value.ownBlock] using j
  subst this
  exact Qk o (g:=r) h2 (Ne.symm p) i
section
variable {w0 w w':World} {B g bt bf bp bn n0:Nat} {enc lim:Int} {add0 add v:Value} {a:Option Addr} {xs:List Value} {dn pd:List Int} {m:Nat} {ps:List Pc}
theorem FreshS.below (h:FreshS w0 B g bt bf bp bn enc lim n0 add0 a xs dn pd m ps v add w)(d:w0.ownsRow B 5 1 add0 n0 xs)(b:ZB w w'):FreshS w0 B g bt bf bp bn enc lim n0 add0 a xs dn pd m ps v add w':=
 ⟨h.tx.below b,QN h.row b,h.step.loc (S:=No) (Fr.of_below b) (fun _ c=>c.elim) d,h.tb.below b,h.fb.below b,h.pb.below b,h.nb.below b,QN h.prow b,h.pcs.far (S:=No) (Fr.of_below b) (fun _ _ c=>c.elim),h.tag,h.all,h.ge⟩
theorem FreshS.setn (h:FreshS w0 B g bt bf bp bn enc lim n0 add0 a xs dn pd m ps v add w)(d:w0.ownsRow B 5 1 add0 n0 xs)(k:Nat):FreshS w0 B g bt bf bp bn enc lim n0 add0 a xs dn pd k ps v add (w.setCell ⟨bn,0,none⟩ (.int .i64 (k:Int))):=by
 have n1:g≠bn:=Blk.ne_ h.tx h.nb (by decide)
 have n2:bt≠bn:=Blk.ne_ h.tb h.nb (by decide)
 have e:bp≠bn:=Blk.ne_ h.pb h.nb (by decide)
 have F:Fr (· = bn) w (w.setCell ⟨bn,0,none⟩ (.int .i64 (k:Int))):=(Fr.refl _ _).set1 0 _
 exact⟨h.tx.far n1 _,Qt h.row h.nb (by decide),h.step.loc F (fun b c=>c▸h.ge.2.2.2.1) d,h.tb.far n2 _,h.fb.far h.ge.2.2.2.2 _,h.pb.far e _,(h.nb.set_ 0 _).eq_ rfl,Qt h.prow h.nb (by decide),h.pcs.far F (fun b _ c=>c▸Far.blk h.nb (by decide)),h.tag,h.all,h.ge⟩
def QrN (w:World)(B g N k:Nat)(add:Value)(zs:List Value)(u:Value)(w':World):Prop:=
 w'.ownsRow B 5 1 u (N+k) zs/\TStep g add u N (N+k) w w'/\Fr (OwnB add) w w'
theorem FreshS.app {u:Value}{x:Int}(h:FreshS w0 B g bt bf bp bn enc lim n0 add0 a xs dn pd m ps v add w)(n:w0.ownsRow B 5 1 add0 n0 xs)(i:add0.ownBlock≠some g)
  (y:QrN w B g (n0+(QF enc dn).length+(QF enc pd).length) (Qc1 enc x).length add ((xs++(QF enc dn++QF enc pd).map (Value.int .u8))++(Qc1 enc x).map (Value.int .u8)) u w') :
  FreshS w0 B g bt bf bp bn enc lim n0 add0 a xs dn (pd++[x]) m ps v u (w'.setCell ⟨g,3,none⟩ u):=by
 obtain⟨d,l,c⟩:=y
 have eP:QF enc (pd++[x])=QF enc pd++Qc1 enc x:=by rw[QcD,Qcm,QaW,List.append_nil]
 have eN:n0+(QF enc dn).length+(QF enc (pd++[x])).length=n0+(QF enc dn).length+(QF enc pd).length+(Qc1 enc x).length:=by rw[eP,List.length_append];omega
 have ov : ∀{T:TypeId} {z:Array Value} {b:Nat},Blk w b T z->5≠T->¬OwnB add b:=fun k t=>Qk h.row k t
 have e:=h.tx.fr c (ov h.tx (by decide))
 have s:=h.tb.fr c (ov h.tb (by decide))
 have q:=h.fb.fr c (ov h.fb (by decide))
 have r:=h.pb.fr c (ov h.pb (by decide))
 have p:=h.nb.fr c (ov h.nb (by decide))
 have o:add.ownBlock≠some g:=Qk h.row h.tx (by decide)
 have f:u.ownBlock≠some g:=Qk d e (by decide)
 have j:=l.trans (TStep.set d e f 3 u) h.row o
 refine⟨(e.set_ 3 u).eq_ rfl,?_,?_,s.far (Blk.ne_ s e (by decide)) _,q.far (Blk.ne_ q e (by decide)) _,r.far (Blk.ne_ r e (by decide)) _,p.far (Blk.ne_ p e (by decide)) _,?_,?_,h.tag,h.all,h.ge⟩
 ·rw[eN,eP,<-List.append_assoc,List.map_append,<-List.append_assoc]
  exact Qt d e (by decide)
 ·rw[eN]
  exact h.step.trans j n i
 ·exact Qt (QeE h.prow c (fun b k=>Qeh h.prow h.row (by decide) b k)) e (by decide)
 ·rw[eN]
  exact h.pcs.step j h.tx
end
theorem QjZ (enc a:Int):szA enc a<=4:=by
 unfold szA sz8 Qfb szL
 repeat' split
 all_goals omega
theorem Qor (enc:Int)(xs:List Int)(b:Fit enc xs):(QF enc xs).length<=4*xs.length:=by
 induction xs with
 |nil=>simp[QaW]
 |cons a xs ih=>
  have h1:=(Qdj enc a (b a List.mem_cons_self)).1
  have h2:=QjZ enc a
  have d:=ih (fun x c=>b x (List.mem_cons_of_mem _ c))
  rw[Qcm,List.length_append,List.length_cons]
  omega
theorem QgT {enc:Int} : ∀{ps:List Pc},(∀p ∈ ps,PcOk enc p)->ps.length<=(QC enc ps).length:=by
 intro ps
 induction ps with
 |nil=>intro _;simp
 |cons p ps ih=>
  intro h
  have h1:=ih (fun q b=>h q (List.mem_cons_of_mem _ b))
  have hp:=h p List.mem_cons_self
  have h2:=QhP enc p.bytes (by rw[hp.len];exact hp.pos)
  rw[QS,List.length_append,List.length_cons]
  omega
def Qp9 (a:Int):Bool:=decide (0<=a/\¬(55296<=a/\a<=57343))
theorem Qjy {w0 w:World}{B g bt bf bp bn n0 j:Nat}{enc lim:Int}{add0 add v:Value}{a:Option Addr}{xs:List Value}{dn pd put:List Int}{m:Nat}{ps:List Pc}
  (k:enc=1\/enc=2\/enc=3\/enc=4) (h:FreshS w0 B g bt bf bp bn enc lim n0 add0 a xs dn pd m ps v add w) (n:Fit enc put) (d:put.take j=dn++pd) (b:(∀x ∈ pd,QfU x)\/pd.length<=1) (q:pd.length<=129)
  (s:put.length<=1073741824) (t:n0+(QF enc put).length<=1073741824) :
  dec enc (QF enc pd)=Qat enc pd/\Fit enc pd/\(QF enc pd).length<=1048576/\n0+(QF enc dn).length+(QF enc pd).length<=1073741824/\ps.length<=1073741824:=by
 have e : ∀x ∈ pd,x ∈ put:=fun x f=>List.mem_of_mem_take (d▸List.mem_append_right dn f:x ∈ put.take j)
 have c:Fit enc pd:=fun x f=>n x (e x f)
 have u:=Qor enc pd c
 have o:QF enc put=QF enc (put.take j)++QF enc (put.drop j):=by rw[<-QcD,List.take_append_drop]
 have p:=congrArg List.length o
 rw[d,QcD,List.length_append,List.length_append] at p
 have i:=QgT h.pcs.ok
 rw[h.all] at i
 have l:=congrArg List.length d
 rw[List.length_take,List.length_append] at l
 refine⟨?_,c,by omega,by omega,?_⟩
 rotate_left 1
 ·rw[show (Qat enc dn).length=dn.length from List.length_map _] at i;omega
 rcases b with b|b
 ·exact QoY enc k pd c b
 ·cases pd with
  |nil=>rfl
  |cons x r=>
   have:r=[]:=List.eq_nil_of_length_eq_zero (by simp only[List.length_cons] at b;omega)
   subst this
   rw[Qcm,QaW,List.append_nil]
   exact QoG enc x k (c x List.mem_cons_self)
def Qr0 (w:World)(B g:Nat)(enc lim:Int)(n:Nat)(add:Value)(a:Option Addr)(xs:List Value)(put:List Int)(j:Nat)(p:Bool)(b:Value)(wr:World):Prop:=
 ∃(dn pd:List Int) (ps:List Pc) (v:Value),put.take j=dn++pd/\FreshS w B g w.heap.size (w.heap.size+1+1) (w.heap.size+1) (w.heap.size+1+1+1) enc lim n add a xs dn pd pd.length ps v b wr/\(∀x ∈ pd,QfU x)/\pd.length<128/\(p=false->pd=[])
def QrH (w:World)(B g:Nat)(enc lim:Int)(n:Nat)(add:Value)(a:Option Addr)(xs:List Value)(put:List Int)(k:Nat)(q:Value)(wr:World):Prop:=
 ∃(j:Nat) (dn pd:List Int) (ps:List Pc) (v b:Value),q=.int .i64 (j:Int)/\Hid (put.take j=dn++pd)/\Hid (FreshS w B g w.heap.size (w.heap.size+1+1) (w.heap.size+1) (w.heap.size+1+1+1) enc lim n add a xs dn pd pd.length ps v b wr)/\(∀x ∈ pd,QfU x)/\pd.length<=128/\j<=put.length/\put.length-j<=k
def QlS (B g:Nat)(enc lim:Int)(n:Nat)(add:Value)(a:Option Addr)(xs:List Value)(put:List Int)(w:World)(e:Ending)(w':World):Prop:=
 ∃ps v b,e=.returned v/\Blk w' g 104 #[.int .i64 enc,.int .i64 lim,.pointer a,b]/\w'.ownsRow B 5 1 b (n+(QF enc put).length) (xs++(QF enc put).map (Value.int .u8)) /\
  TStep g add b n (n+(QF enc put).length) w w'/\w'.ownsRow w.heap.size 107 7 v ps.length (ps.flatMap fun p=>p.cells.toList)/\PsIn w' b (n+(QF enc put).length) enc ps/\QC enc ps=Qat enc put/\∀p ∈ ps,p.tag = -1
theorem Qnj (B g:Nat)(enc lim:Int)(n:Nat)(add:Value)(a:Option Addr)(xs:List Value)(put:List Int)(D:Nat->Prop)(A:Option Addr)(k c:Nat)(w:World)(he:enc=1\/enc=2\/enc=3\/enc=4)
    (hg:Blk w g 104 #[.int .i64 enc,.int .i64 lim,.pointer a,add]) (W:w.ownsRow B 5 1 add n xs) (hl:Ints w D A k put) (hD : ∀b,D b->b≠g/\add.ownBlock≠some b) (hf:Fit enc put)
    (hk:k<=1073741824) (hN:n+(QF enc put).length<=1073741824) (hB:B<=w.heap.size) :
    Calls Tryz.prog 169 #[.pointer (some ⟨g,0,none⟩),.slice A k c] w fun e w'=>QlS B g enc lim n add a xs put w e w':=by
  have c3:=hg.cell 3
  simp at c3
  have b3:=Zh hB
  clear hB
  obtain⟨A',cap,e3,i5⟩:=Qj W
  have i8:=hl.len
  have j6 : ∀(fn:Fn) (first cap:Array Value) (w:World),(Instr.makeFunc fn first cap).run Tryz.prog w=.ok (.func fn first cap) w:=fun _ _ _ _=>rfl
  have e9:add.ownBlock≠some g:=Qk W hg (by decide)
  have f3:=((hg.alloc (.cells #[.pointer (some ⟨g,0,none⟩)] 33)).alloc (.cells #[.slice none 0 0] 232)).cell 3
  simp at f3
  rw[e3] at c3 f3
  go_enter Tryz.func169,Tryz.ntmps169
  go_wp2_with fail
  go_loopg [23] put.length (fun k q wr=>QrH w B g enc lim n add a xs put k q wr)
  case atStart=>
    refine⟨0,[],[],[],.slice none 0 0,add,rfl,Zh rfl,Zh ?_,fun x V=>(by cases V),(by simp),(by omega),(by omega)⟩
    have b4 : ∀(o1 o2 o3 o4:Obj),ZB w ((((w.alloc o1).alloc o2).alloc o3).alloc o4):=fun _ _ _ _=>Qa (Qa (Qa (Qa (Below.refl _ _))))
    refine⟨hg.below (b4 _ _ _ _),?_,?_,((Blk.new w _ _).alloc _).alloc _ |>.alloc _,?_,?_,?_,World.ownsRow_nil _ _ _ _,PsIn.nil _ _ _ _,fun _ hp=>(by cases hp),rfl,(by omega)⟩
    · have:=QN W (b4 (.cells #[.pointer (some ⟨g,0,none⟩)] 33) (.cells #[.slice none 0 0] 232) (.cells #[.int .i64 n] 3) (.cells #[.int .i64 0] 3))
      simpa[QaW] using this
    · have:=TStep.below (g:=g) W (b4 (.cells #[.pointer (some ⟨g,0,none⟩)] 33) (.cells #[.slice none 0 0] 232) (.cells #[.int .i64 n] 3) (.cells #[.int .i64 0] 3))
      simpa[QaW] using this
    · refine((Blk.newAt (by simp)).alloc _).eq_ ?_
      simp[QaW]
    · exact((Blk.newAt (by simp)).alloc _).alloc _
    · exact Blk.newAt (by simp)
  case round=>
    obtain⟨j,dn,pd,ps,v,d,rfl,I,Z,R,h7,hj,j1⟩:=hrel
    have a1:=Reads.fr hl Z.out.step.fr (fun b hb _ hs=>hs.elim (fun e=>(hD b hb).1 e) (fun e=>(hD b hb).2 e))
    by_cases hlt:j<k
    · obtain⟨ad,rfl,hd,hc⟩:=Ints.at_ a1 hlt
      obtain⟨x,V⟩:=ZN (put.getD j 0)
      rw[V] at hc
      have b7:x ∈ put:=by
        rw[<-V,List.getD_eq_getElem?_getD,List.getElem?_eq_getElem (by omega)]
        exact List.getElem_mem _
      have a6:put.take (j+1)=put.take j++[x]:=by
        rw[List.take_add_one,List.getElem?_eq_getElem (by omega),<-V,List.getD_eq_getElem?_getD,List.getElem?_eq_getElem (by omega)]
        rfl
      have f2:=Zh a6
      have g6:=Zh a1
      have i9:=Zh hl
      obtain⟨w1,O⟩:∃x,x=wr:=⟨_,rfl⟩
      subst O
      clear hl a1 V a6
      go_upto_region 8 with fail
      go_cut [11] (fun s wx=>s=.bool (Qp9 x)/\wx=w1)
      case first=>
        have i2:((0<=x)=False/\Qp9 x=false)\/((0<=x)=True/\(((x<55296)=True/\Qp9 x=true)\/((x<55296)=False/\(((57343<x)=True/\Qp9 x=true)\/((57343<x)=False/\Qp9 x=false))))):=by
          unfold Qp9
          simp only[eq_iff_iff,iff_true,iff_false,decide_eq_true_eq,decide_eq_false_iff_not]
          omega
        rcases i2 with ⟨q1,e⟩|⟨q1,⟨q2,e⟩|⟨q2,⟨q3,e⟩|⟨q3,e⟩⟩⟩
        all_goals
          have E:=Zh e
          clear e
          go_wp2_with fail
          go_meet
          rw[E.out]
          exact⟨rfl,rfl⟩
      case rest=>
        obtain⟨rfl,rfl⟩:=hcut
        obtain⟨p,hp⟩:=ZN (Qp9 x)
        rw[hp]
        have g1:=Zh hp
        clear hp
        have c7:=Z.out.nb.cell 0
        simp at c7
        have h9 : ∀args w,(callFunc 179 args).run Tryz.prog w=.ok (.enter 179 args) w:=fun _ _=>rfl
        obtain⟨w1,O⟩:∃x,x=wc:=⟨_,rfl⟩
        subst O
        go_upto_region 9 with fail
        go_cut [42] (fun s wx=>s=.bool (!p || decide (pd.length=128))/\wx=w1)
        case first=>
          cases p
          · go_wp2_with fail
            go_meet
            exact⟨rfl,rfl⟩
          · by_cases h128:pd.length=128
            · have q1:(((pd.length:Nat):Int)==128)=true:=by rw[beq_iff_eq];omega
              have q2:decide (pd.length=128)=true:=by simpa using h128
              rw[h128] at c7
              go_wp2_with fail
              go_meet
              rw[q2]
              exact⟨rfl,rfl⟩
            · have q1:(((pd.length:Nat):Int)==128)=false:=by rw[beq_eq_false_iff_ne];omega
              have q2:decide (pd.length=128)=false:=by simpa using h128
              go_wp2_with fail
              go_meet
              rw[q2]
              exact⟨rfl,rfl⟩
        case rest=>
          obtain⟨rfl,rfl⟩:=hcut
          obtain⟨w1,O⟩:∃x,x=wc:=⟨_,rfl⟩
          subst O
          obtain⟨q,hq⟩:=ZN ((!p || decide (pd.length=128)))
          rw[hq]
          have f:=Qjy he Z.out hf I.out (.inl R) (by omega) (by omega) hN
          have F:=Qhc w B g w.heap.size (w.heap.size+1+1) (w.heap.size+1) (w.heap.size+1+1+1) enc lim n add a xs dn pd ps v d w1 he Z.out W f.1 f.2.1 f.2.2.1 f.2.2.2.1 f.2.2.2.2
          have K:=Zh F
          have HQ:=Zh hq
          clear F f hq
          go_upto_if 42 with fail
          go_cut [] (fun wx=>Qr0 w B g enc lim n add a xs put j p d wx)
          case first=>
            cases q
            · go_wp2_with fail
              go_meet
              have h1:=HQ.out
              simp only[Bool.or_eq_false_iff,Bool.not_eq_false',decide_eq_false_iff_not] at h1
              exact⟨dn,pd,ps,v,I.out,Z.out,R,by omega,fun h=>absurd h1.1 (by rw[h];simp)⟩
            · go_wp2_with fail
              refine(K.out).mono ?_
              rintro e w2 ⟨rfl,X,v2,H⟩
              have a3:=Zh H
              clear H
              go_wp2_with fail
              go_meet
              exact⟨dn++pd,[],X,v2,by rw[List.append_nil];exact I.out,a3.out,fun x V=>(by cases V),by simp,fun _=>rfl⟩
          case rest=>
            obtain⟨w2,g4⟩:∃x,x=wc:=⟨_,rfl⟩
            subst g4
            obtain⟨z,l,X,v2,b2,H,e8,j0,d7⟩:=hcut
            have t0:=H.tb.cell 0
            have t1:=H.tx.cell 0
            simp at t0 t1
            have a3:=Zh H
            have a5:=Zh b2
            have h8:=Zh d7
            have d6:=fun(w':World) (hl:Ints w' Any (some ⟨w2.heap.size,0,none⟩) 1 [x])=>Qjt enc x Any (some ⟨w2.heap.size,0,none⟩) 1 w' he hl (hf x b7)
            have g2:=Zh d6
            clear Z K HQ g6 c7 H b2 d7 d6 R h7 I dn pd ps v
            go_wp2_with fail
            refine(g2.out _ ?_).mono ?_
            · refine⟨rfl,fun _=>⟨_,rfl,trivial,?_⟩⟩
              exact cell_one_new w2 (.int .i64 x) 3
            rintro e w3 ⟨v3,rfl,a4,g8⟩
            have c8:=Qf (Qa (Below.refl _ w2)) g8
            have t:=a3.out.below W c8
            obtain⟨A3,f7,rfl,g0⟩:=Qj a4
            obtain⟨G,P⟩:=ZN (n+(QF enc z).length+(QF enc l).length)
            obtain⟨A4,Y,e4,g7⟩:=Qj t.row
            rw[P] at e4 g7
            have d0:=Qdj enc x (hf x b7)
            have j3:=QjZ enc x
            have j2:=hf x b7
            obtain⟨a0,rfl⟩:∃a0,A3=some a0:=by
              rcases a4.2 with ⟨e0,e1⟩|⟨q,c,cur,e0,_⟩
              · omega
              · injection e0 with e0
                exact⟨_,e0⟩
            have M : ∀i u,((Qc1 enc x).map (Value.int .u8))[i]? = some u->w3.cell? (a0.add i)=some u:=by
              have h1:=Reads.of_own a4
              obtain⟨j7,e',_,h2⟩:=h1.2 (by omega)
              injection e' with e'
              subst e'
              exact h2
            have a8 : ∀u ∈ (Qc1 enc x).map (Value.int .u8),u.oneCell'=true:=by
              intro u hu
              obtain⟨y,_,rfl⟩:=List.mem_map.1 hu
              rfl
            have i6:G<=1073741824:=by
              have e1:QF enc put=QF enc (put.take j)++QF enc (put.drop j):=by rw[<-QcD,List.take_append_drop]
              have e2:=congrArg List.length e1
              rw[a5.out,QcD,List.length_append,List.length_append] at e2
              omega
            have s0:=t.tb.cell 0
            have s1:=t.tx.cell 3
            simp at s0 s1
            have g3:=t.step.fr.size
            have a7:=fun(u:Value) (w':World) (h:QrN w3 B g G (Qc1 enc x).length d ((xs++(QF enc z++QF enc l).map (Value.int .u8))++(Qc1 enc x).map (Value.int .u8)) u w')=>t.app (u:=u) (x:=x) (w':=w') W e9 (by rw[P];exact h)
            have r:=t.row
            have C:=t.tx
            rw[P] at r
            have J:d.ownBlock≠some g:=Qk r C (by decide)
            have f5 : ∀(wa w':World) (u:Value),(wa=w3\/wa=w3.drew)->w'.ownsRow B 5 1 u (G+(Qc1 enc x).length) ((xs++(QF enc z++QF enc l).map (Value.int .u8))++(Qc1 enc x).map (Value.int .u8))->wa.grownBy w' d.ownBlock->(u.ownBlock=d.ownBlock\/u.ownBlock=some wa.heap.size) ->
                (∀b o,d.ownBlock=some b->o<G*1->w'.cell? ⟨b,o,none⟩=wa.cell? ⟨b,o,none⟩)->(∀b,d.ownBlock=some b->∃cs,Blk w' b 5 cs)->QrN w3 B g G (Qc1 enc x).length d ((xs++(QF enc z++QF enc l).map (Value.int .u8))++(Qc1 enc x).map (Value.int .u8)) u w':=by
              rintro wa w' u f0 h1 h2 h3 h4 h5
              have i0:Fr (fun b=>b=g) w3 wa:=by rcases f0 with rfl|rfl;exact Fr.refl _ _;exact(Fr.refl _ _).drew
              refine⟨h1,TStep.grow r i0 J h1 h2 h3 h4 h5 (fun cs hb=>Blk.ne_ hb C (by decide) rfl),?_⟩
              have d4:Fr (OwnB d) w3 wa:=by rcases f0 with rfl|rfl;exact Fr.refl _ _;exact(Fr.refl _ _).drew
              exact d4.grown h2 (fun k hk _=>hk)
            have N : ∀(w':World),Fr (OwnB d) w3 w'->w'.cell? ⟨w.heap.size,0,none⟩=some (.pointer (some ⟨g,0,none⟩))/\w'.cell? ⟨g,3,none⟩=some d/\w'.frozen? ⟨g,3,none⟩=false:=fun w' b9=>
              ⟨(t.tb.fr b9 (Qk r t.tb (by decide))).cell 0,(C.fr b9 J).cell 3,(C.fr b9 J).frozen 3⟩
            have b1:(⟨w.heap.size,0,none⟩:Addr).block≠(⟨g,3,none⟩:Addr).block:=Blk.ne_ t.tb C (by decide)
            have f8:=Zh b1
            clear b1
            have d1:=Zh f5
            have b0:=Zh a7
            have c0:=Zh N
            have c5:=Zh r
            have d9:=Zh M
            have j5:=Zh t
            have j4:=Zh P
            have i1:=Zh d0
            clear t a3 f5 a7 N r M C a4 P t0 t1 d0
            obtain⟨ib,f1,c4,d2,d3⟩:=info_parts Qch
            obtain⟨bs,a2⟩:=ZN ((Qc1 enc x).map (Value.int .u8))
            obtain⟨bl,T⟩:=ZN ((Qc1 enc x).length)
            have d8:bs.length=bl*1:=by rw[<-a2,List.length_map,T,Nat.mul_one]
            have i7:bl<=4:=by have:=i1.out.1;omega
            obtain⟨ys,b8⟩:=ZN (xs++(QF enc z++QF enc l).map (Value.int .u8))
            rw[a2] at d9 a8
            rw[a2,T,b8] at d1 b0
            rw[b8] at c5
            rw[T] at g0
            rw[T]
            subst e4
            clear a2 b8 T
            go_wp2_with fail
            refine Qg (fun w'=>w'.cell? ⟨w.heap.size,0,none⟩=some (.pointer (some ⟨g,0,none⟩))) (fun w'=>w'=w3.drew) (fun k=>k==4 || k==6 || k==9) (fun _=>false) (fun _=>false) (by kernel_rfl) (by kernel_rfl) (rfl) (fun w' h=>by subst h;exact s0) ?_
            repeat ((first
              |(refine Qc (v:=?_) (by rfl) (by rfl) (fun w6 hSw=>?_) ?_;rotate_left;(·(have y0:=hSw;go_simp;try with_reducible rfl)))
              |(refine Qd (v:=?_) (by rfl) (fun w6=>?_) ?_;rotate_left;(·(go_simp;try with_reducible rfl)))
              |refine Qe (by rfl) ?_);(try simp only[Act.put,pA,pB,pC]))
            refine Ql (fun u w'=>u=.slice A4 G Y/\w'=w3.drew) (by rfl) (by rfl) (fun w6 hSw=>?_) (.inr (fun v6 w6 hT6=>?_)) (fun v6 hv6=>?_)
            · (subst hSw;go_simp;exact⟨rfl,rfl⟩)
            · (obtain⟨-,rfl⟩:=hT6;exact s0)
            obtain⟨wz,rfl,-⟩:=hv6
            (try simp only[Act.put,pA,pB,pC])
            repeat ((first
              |(refine Qc (v:=?_) (by rfl) (by rfl) (fun w6 hSw=>?_) ?_;rotate_left;(·(have y0:=hSw;go_simp;try with_reducible rfl)))
              |(refine Qd (v:=?_) (by rfl) (fun w6=>?_) ?_;rotate_left;(·(go_simp;try with_reducible rfl)))
              |refine Qe (by rfl) ?_);(try simp only[Act.put,pA,pB,pC]))
            refine Ql (fun u w'=>QrN w3 B g G bl (.slice A4 G Y) (ys++bs) u w') (by rfl) (by rfl) (fun w6 hSw=>?_) (.inr (fun v6 w6 hT6=>?_)) (fun v6 hv6=>?_)
            · (obtain⟨-,rfl⟩:=hSw;exact QeN 47 rfl B 5 ib (.int .u8 0) 1 1 Tryz.underlying47 f1 c4 d2 d3 rfl (by decide) (.slice A4 G Y) G ys rfl c5.out a0 bl f7 bs rfl d8 d9.out a8 (by unfold maxLen;omega) (by omega) (by exact Nat.le_trans b3.out g3) (fun v' w' h0 g9 c6 h6 f6=>d1.out w3.drew w' v' (.inr rfl) h0 g9 c6 h6 f6))
            · (exact(c0.out _ hT6.2.2).1)
            obtain⟨wz,f9,-,-⟩:=hv6;obtain⟨A7,c7,rfl,-⟩:=Qj f9
            (try simp only[Act.put,pA,pB,pC])
            repeat ((first
              |(refine Qc (v:=?_) (by rfl) (by rfl) (fun w6 hSw=>?_) ?_;rotate_left;(·(have y0:=hSw;go_simp;try with_reducible rfl)))
              |(refine Qd (v:=?_) (by rfl) (fun w6=>?_) ?_;rotate_left;(·(go_simp;try with_reducible rfl)))
              |refine Qe (by rfl) ?_);(try simp only[Act.put,pA,pB,pC]))
            refine Ql (fun _ w'=>∃wq,QrN w3 B g G bl (.slice A4 G Y) (ys++bs) (.slice A7 (G+bl) c7) wq/\w'=wq.setCell ⟨g,3,none⟩ (.slice A7 (G+bl) c7)) (by rfl) (by rfl) (fun w6 hSw=>?_) (.inr (fun v6 w6 hT6=>?_)) (fun v6 hv6=>?_)
            · (obtain⟨y0,y1,y2⟩:=c0.out _ hSw.2.2;go_simp;exact⟨w6,hSw,rfl⟩)
            · (obtain⟨wq,hq,rfl⟩:=hT6;exact Qbx f8.out (c0.out _ hq.2.2).1)
            skip
            (try simp only[Act.put,pA,pB,pC])
            refine Qu ?_
            rintro w4 ⟨wq,f4,rfl⟩
            have Q:=b0.out _ _ f4
            obtain⟨w5,e7⟩:=ZN (wq.setCell ⟨g,3,none⟩ (.slice A7 (G+bl) c7))
            rw[e7] at Q ⊢
            have z0:=Q.nb.cell 0
            have z1:=Q.nb.frozen 0
            simp at z0
            have d5:=Q.setn W (l.length+1)
            have c1:=Zh d5
            clear Q d5 f4 e7 wq s0 s1 J f1 c4 d2 d3
            have e5:IntKind.i64.wrap (((l.length:Nat):Int)+1)=((l.length+1:Nat):Int):=by rw[IntWalk.i64_in _ (by omega)];omega
            have e6:(l++[x]).length=l.length+1:=by simp
            have a9:put.take (j+1)=z++(l++[x]):=by rw[f2.out,a5.out,List.append_assoc]
            have U:=Zh a9
            clear a9
            cases p
            · have c9:=h8.out rfl
              have f:=Qjy (dn:=z) (pd:=l++[x]) he c1.out hf U.out (.inr (by rw[c9];simp)) (by omega) (by omega) hN
              have b6:=c1.out
              rw[<-e6] at b6
              have F:=Qhc w B g w.heap.size (w.heap.size+1+1) (w.heap.size+1) (w.heap.size+1+1+1) enc lim n add a xs z (l++[x]) X v2 _ _ he b6 W f.1 f.2.1 f.2.2.1 f.2.2.2.1 f.2.2.2.2
              rw[e6] at F
              have K:=Zh F
              clear F b6 f c9 e6
              go_wp2_with fail
              refine(K.out).mono ?_
              rintro e w6 ⟨rfl,c2,v3,L⟩
              have b5:=Zh L
              clear L
              go_wp2_with fail
              go_roundg (put.length-(j+1))
              case measure=>omega
              case rel=>
                exact⟨j+1,z++(l++[x]),[],c2,v3,_,by go_num,Zh (by rw[List.append_nil];exact U.out),b5,fun x V=>(by cases V),(by simp),(by omega),(by omega)⟩
            · have i4:QfU x:=by
                have:=g1.out
                unfold Qp9 at this
                simp only[decide_eq_true_eq] at this
                exact this
              go_wp2_with fail
              go_roundg (put.length-(j+1))
              case measure=>omega
              case rel=>
                refine⟨j+1,z,l++[x],X,v2,.slice A7 (G+bl) c7,by go_num,U,Zh ?_,fun y hy=>?_,(by omega),(by omega),(by omega)⟩
                · rw[e6]
                  have:=c1.out
                  rw[Int.natCast_add] at this
                  exact this
                · rcases List.mem_append.1 hy with hy|hy
                  · exact e8 y hy
                  · rw[List.mem_singleton] at hy
                    rw[hy]
                    exact i4
    · have i3:j=put.length:=by omega
      subst i3
      have S:=I.out
      rw[List.take_length] at S
      have f:=Qjy he Z.out hf I.out (.inl R) (by omega) (by omega) hN
      have F:=Qhc w B g w.heap.size (w.heap.size+1+1) (w.heap.size+1) (w.heap.size+1+1+1) enc lim n add a xs dn pd ps v d wr he Z.out W f.1 f.2.1 f.2.2.1 f.2.2.2.1 f.2.2.2.2
      have K:=Zh F
      have g5:=Zh S
      have h9 : ∀args w,(callFunc 179 args).run Tryz.prog w=.ok (.enter 179 args) w:=fun _ _=>rfl
      clear F f a1 Z S I R hl
      go_wp2_with fail
      refine(K.out).mono ?_
      rintro e w6 ⟨rfl,c2,v3,L⟩
      have z0:=L.pb.cell 0
      simp at z0
      have b5:=Zh L
      clear L
      go_wp2_with fail
      go_ret
      have h:=b5.out
      have e1:dn++pd=put:=g5.out.symm
      rw[e1] at h
      refine⟨c2,v3,d,rfl,h.tx,?_,?_,h.prow,?_,h.all,h.tag⟩
      · simpa[QaW] using h.row
      · simpa[QaW] using h.step
      · simpa[QaW] using h.pcs
theorem Qnq (D:Nat->Prop)(L:Ln)(i:Int)(C:List Int)(v:Array Value)(k p:Nat)(w:World)(h:RowC w D L i C v)(B:k<(Qbi C).length)(hp:(Qbi C).getD k 0=(p:Int))(z:p<C.length) :
  Calls Tryz.prog 197 #[.agg v,.int .i64 (k:Int)] w fun e w'=>e=.returned (.int .i64 (C.getD p 0))/\ZB w w':=by
 obtain⟨A1,n1,c1,A2,n2,c2,rfl,h1,h2,r,H⟩:=h
 obtain⟨x0,d,l,q⟩:=L
 have x:=h1.len
 have u:=r.len
 obtain⟨f,g,rfl,_,b⟩:=QbH h1 (by omega)
 obtain⟨s,m,rfl,_,a⟩:=QbH r (by omega)
 have n:=Qh (Qa (o:=.cells (Qab ⟨x0,d,l,q⟩ i (some ⟨f,g,none⟩) n1 c1 (some ⟨s,m,none⟩) n2 c2) 137) (Below.refl _ w)) (b p (by omega))
 have c:=Qh (Qa (o:=.cells (Qab ⟨x0,d,l,q⟩ i (some ⟨f,g,none⟩) n1 c1 (some ⟨s,m,none⟩) n2 c2) 137) (Below.refl _ w)) (a k (by omega))
 rw[hp] at c
 obtain⟨y,t⟩:=ZN (C.getD p 0)
 rw[t] at n ⊢
 have G:(0:Int)<=(k:Int):=by omega
 have F:(k:Int)<(n2:Int):=by omega
 have A:(0:Int)<=(p:Int):=by omega
 have E:(p:Int)<(n1:Int):=by omega
 have j:ZB w (w.alloc (.cells (Qab ⟨x0,d,l,q⟩ i (some ⟨f,g,none⟩) n1 c1 (some ⟨s,m,none⟩) n2 c2) 137)):=Qa (Below.refl _ w)
 unfold Qab at n c j ⊢
 dsimp only at n c j ⊢
 clear t hp b a h1 r
 go_enter Tryz.func197,Tryz.ntmps197
 go_upto_region 1 with fail
 go_quiet (fail)
 go_wp2_with fail
 go_ret
 exact⟨rfl,Q6 j _⟩
noncomputable def Qnk (C:List Int)(k:Nat):Int:=QiX (C.getD ((Qbi C).getD k 0).toNat 0)
theorem QcV {L:Ln}{i:Int}{D:Nat->Prop}{C:List Int}{v:Array Value}{w:World}(h:RowC w D L i C v):∃A1 n1 c1 A2 n2 c2,v=Qab L i A1 n1 c1 A2 n2 c2:=by
 obtain⟨A1,n1,c1,A2,n2,c2,e,_⟩:=h
 exact⟨A1,n1,c1,A2,n2,c2,e⟩
theorem Qgu (l:List Int) : ∀(f p:Nat),l.length-p<=f->p<=l.length ->
  (∀k,k<(QeI l p).length->(p::QeI l p).getD k 0<l.length/\(p::QeI l p).getD (k+1) 0=QcZ l ((p::QeI l p).getD k 0))/\(p::QeI l p).getD (QeI l p).length 0=l.length:=by
 intro f
 induction f with
 |zero=>
  intro p h hp
  rw[QgG l p (by omega)]
  refine⟨fun k a=>absurd a (by simp),?_⟩
  simp
  omega
 |succ f ih=>
  intro p h hp
  by_cases hlt:p<l.length
  ·have c:=QeS l p
   have b:=QoA l p hlt
   obtain⟨h1,h2⟩:=ih (QcZ l p) (by omega) b
   rw[Qg1 l p hlt]
   refine⟨fun k a=>?_,?_⟩
   ·cases k with
    |zero=>exact⟨by simpa using hlt,by simp⟩
    |succ k=>
     have:=h1 k (by simpa using a)
     simpa using this
   ·simpa using h2
  ·rw[QgG l p (by omega)]
   refine⟨fun k a=>absurd a (by simp),?_⟩
   simp
   omega
noncomputable def mkb (C:List Int)(k:Nat):Nat:=(0::QeI C 0).getD k 0
noncomputable def nC (C:List Int):Nat:=(QeI C 0).length
theorem QfG (C:List Int):mkb C 0=0:=rfl
theorem Qet {C:List Int}{k:Nat}(h:k<nC C):mkb C k<C.length/\mkb C (k+1)=QcZ C (mkb C k):=(Qgu C C.length 0 (by omega) (by omega)).1 k h
theorem QgN (C:List Int):mkb C (nC C)=C.length:=(Qgu C C.length 0 (by omega) (by omega)).2
theorem QrV {C:List Int}{k:Nat}(h:k<nC C):mkb C k<mkb C (k+1):=by rw[(Qet h).2];exact QeS _ _
theorem QiR {C:List Int}{a b:Nat}(h:a<=b)(c:b<=nC C):mkb C a<=mkb C b:=by
 induction b with
 |zero=>rw[Nat.le_zero.1 h];exact Nat.le_refl _
 |succ b ih=>
  rcases Nat.eq_or_lt_of_le h with h|h
  ·rw[h];exact Nat.le_refl _
  ·exact Nat.le_of_lt (Nat.lt_of_le_of_lt (ih (by omega) (by omega)) (QrV (by omega)))
theorem QpO {C:List Int}{k:Nat}(h:k<=nC C):mkb C k<=C.length:=by rw[<-QgN];exact QiR h (Nat.le_refl _)
theorem Qau (C:List Int):(Qbi C).length=nC C+1:=by simp[Qbi,nC]
theorem Qcb {C:List Int}{k:Nat}(h:k<=nC C):(Qbi C).getD k 0=(mkb C k:Int):=by
 unfold Qbi mkb
 cases k with
 |zero=>rfl
 |succ k=>
  have a:k<(QeI C 0).length:=h
  simp only[List.getD_cons_succ]
  rw[List.getD_eq_getElem?_getD,List.getD_eq_getElem?_getD,List.getElem?_map,List.getElem?_eq_getElem a]
  rfl
theorem Qdy {C:List Int}(h:C.length<=1073741824) : ∀x ∈ Qbi C,0<=x/\x<=1073741824:=by
 intro x b
 obtain⟨k,a,rfl⟩:=List.getElem_of_mem b
 rw[Qau] at a
 have e:=Qcb (C:=C) (k:=k) (by omega)
 rw[List.getD_eq_getElem?_getD,List.getElem?_eq_getElem (by rw[Qau];exact a)] at e
 simp only[Option.getD_some] at e
 have:=QpO (C:=C) (k:=k) (by omega)
 omega
theorem QcA {C:List Int}(a b:Nat)(h:a<=b)(c:b<(Qbi C).length):(Qbi C).getD a 0<=(Qbi C).getD b 0:=by
 rw[Qau] at c
 rw[Qcb (by omega),Qcb (by omega)]
 have:=QiR (C:=C) h (by omega)
 omega
theorem QgS (C:List Int):nC C<=C.length:=by
 have h : ∀k,k<=nC C->k<=mkb C k:=by
  intro k
  induction k with
  |zero=>intro _;omega
  |succ k ih=>
   intro h
   have:=ih (by omega)
   have:=QrV (C:=C) (k:=k) (by omega)
   omega
 have:=h (nC C) (Nat.le_refl _)
 rw[QgN] at this
 exact this
theorem QrA {C:List Int}(h:0<C.length):0<nC C:=by
 rcases Nat.eq_zero_or_pos (nC C) with e|e
 ·have:=QgN C
  rw[e,QfG] at this
  omega
 ·exact e
structure InC (C:List Int) (r j:Nat):Prop where
 le:j<=nC C
 low:mkb C j<=r
 high : ∀k,j<k->k<=nC C->r<mkb C k
theorem InC.uniq {C:List Int}{r j b:Nat}(h:InC C r j)(c:InC C r b):j=b:=by
 rcases Nat.lt_trichotomy j b with a|e|a
 ·have:=h.high b a c.le;have:=c.low;omega
 ·exact e
 ·have:=c.high j a h.le;have:=h.low;omega
theorem InC.lt {C:List Int}{r j:Nat}(h:InC C r j)(a:r<C.length):j<nC C:=by
 rcases Nat.lt_or_ge j (nC C) with h1|h1
 ·exact h1
 ·have e:j=nC C:=Nat.le_antisymm h.le h1
  have:=h.low
  rw[e,QgN] at this
  omega
theorem InC.next {C:List Int}{r j:Nat}(h:InC C r j)(a:j<nC C):r<mkb C (j+1):=h.high (j+1) (Nat.lt_succ_self _) a
theorem Qm0 (D:Nat->Prop)(L:Ln)(i:Int)(C:List Int)(v:Array Value)(r:Nat)(w:World)(h:RowC w D L i C v)(f:0<=L.from_/\L.from_<=1073741824)(d:C.length<=1073741824) :
  Calls Tryz.prog 87 #[.agg v,.int .i64 (L.from_+(r:Int))] w fun e w'=>(∃j:Nat,e=.returned (.int .i64 (j:Int))/\InC C r j)/\ZB w w':=by
 have hn:=QgS C
 refine(Qde D L i C v _ w h f (by rw[Qau];omega) (Qdy d) QcA).mono ?_
 rintro e w' ⟨⟨j,rfl,c⟩,b⟩
 obtain⟨h1,h2,a⟩:=c
 rw[Qau] at h1 a
 refine⟨⟨j,rfl,by omega,?_,fun k g l=>?_⟩,b⟩
 ·rcases h2 with rfl|h2
  ·rw[QfG];omega
  ·rw[Qcb (by omega)] at h2;omega
 ·have:=a k g (by omega)
  rw[Qcb (by omega)] at this
  omega
theorem QeQ (D:Nat->Prop)(L:Ln)(i:Int)(C:List Int)(v:Array Value)(k:Nat)(w:World)(h:RowC w D L i C v)(a:0<=L.from_/\L.from_<=1073741824)(c:C.length<=1073741824)(b:k<=nC C) :
  Calls Tryz.prog 85 #[.agg v,.int .i64 (k:Int)] w fun e w'=>e=.returned (.int .i64 (L.from_+(mkb C k:Int)))/\ZB w w':=by
 have hn:=QgS C
 have:=Qnn D L i C v (k:Int) w h a (by rw[Qau];omega) (Qdy c) (by omega) (by rw[Qau];omega)
 rw[Int.toNat_natCast,Qcb b] at this
 exact this
noncomputable def kd (C:List Int)(k:Nat):Int:=QiX (C.getD (mkb C k) 0)
theorem Qdu (D:Nat->Prop)(L:Ln)(i:Int)(C:List Int)(v:Array Value)(w:World)(h:RowC w D L i C v)(c:C.length<=1073741824) :
  Calls Tryz.prog 84 #[.agg v] w fun e w'=>e=.returned (.int .i64 (nC C:Nat))/\ZB w w':=by
 obtain⟨A1,n1,c1,A2,n2,c2,rfl,h1,h2,b,d⟩:=h
 have a:=b.len
 have hn:=QgS C
 rw[Qau] at a
 have:=QbZ L i A1 A2 n1 c1 n2 c2 w (by omega) (by omega)
 rw[show n2-1=nC C by omega] at this
 exact this
theorem QqR {s:Scan}{a b:Int}(h:QgI a b=true)(d:s.last=Qaa a):Qdm s b=false:=by
 unfold QgI at h
 unfold Qdm
 rw[d]
 rw[Bool.and_eq_true,Bool.or_eq_true] at h
 obtain⟨h1,h2⟩:=h
 rw[if_neg (fun c=>by rw[c.1,c.2] at h2;exact absurd h2 (by decide)),if_pos h1]
theorem Qi2 {s:Scan}{b:Int}(h:Qdm s b=true):(QcX s b).last=Qaa b:=by
 unfold QcX
 rw[if_pos h]
 rfl
theorem Qm8 : ∀(l:List Int) (s:Scan) (a:Int) (k:Nat),s.last=Qaa a->k<l.length->QgI ((a::l).getD k 0) (l.getD k 0)=true->QnL s l<=k:=by
 intro l
 induction l with
 |nil=>intro s a k _ d;simp at d
 |cons b r ih=>
  intro s a k e d h
  unfold QnL
  split
  ·rename_i c
   cases k with
   |zero=>
    have:=QqR (s:=s) (a:=a) (b:=b) (by simpa using h) e
    rw[this] at c
    cases c
   |succ k=>
    have:=ih (QcX s b) b k (Qi2 c) (by simpa using d) (by simpa using h)
    omega
  ·omega
theorem QkJ {l:List Int}{q k:Nat}(a:q<k)(b:k<l.length)(h:QgI (l.getD (k-1) 0) (l.getD k 0)=true):QcZ l q<=k:=by
 unfold QcZ
 have h1:(l.drop (q+1)).getD (k-(q+1)) 0=l.getD k 0:=by
  rw[List.getD_eq_getElem?_getD,List.getElem?_drop,List.getD_eq_getElem?_getD,show q+1+(k-(q+1))=k by omega]
 have h2:(l.getD q 0::l.drop (q+1)).getD (k-(q+1)) 0=l.getD (k-1) 0:=by
  rcases Nat.eq_or_lt_of_le (show q+1<=k from a) with e|e
  ·rw[<-e,Nat.sub_self]
   rfl
  ·obtain⟨m,hm⟩:∃m,k-(q+1)=m+1:=⟨k-(q+1)-1,by omega⟩
   rw[hm,List.getD_cons_succ,List.getD_eq_getElem?_getD,List.getElem?_drop,List.getD_eq_getElem?_getD,show q+1+m=k-1 by omega]
 have:=Qm8 (l.drop (q+1)) (Qbv (l.getD q 0)) (l.getD q 0) (k-(q+1)) rfl (by rw[List.length_drop];omega) (by rw[h1,h2];exact h)
 omega
theorem Qm7 {C:List Int}{r:Nat}(f:r<=C.length):∃j,InC C r j:=by
 have key : ∀n,n<=nC C->∃j,j<=n/\mkb C j<=r/\∀k,j<k->k<=n->r<mkb C k:=by
  intro n
  induction n with
  |zero=>intro _;exact⟨0,Nat.le_refl _,by rw[QfG];omega,fun k h1 h2=>by omega⟩
  |succ n ih=>
   intro hn
   obtain⟨j,h1,h2,c⟩:=ih (by omega)
   rcases Nat.lt_or_ge r (mkb C (n+1)) with b|b
   ·refine⟨j,by omega,h2,fun k d a=>?_⟩
    rcases Nat.eq_or_lt_of_le a with e|e
    ·rw[e];exact b
    ·exact c k d (by omega)
   ·exact⟨n+1,Nat.le_refl _,b,fun k d a=>by omega⟩
 obtain⟨j,h1,h2,c⟩:=key (nC C) (Nat.le_refl _)
 exact⟨j,h1,h2,c⟩
theorem QqY {l:List Int}{k:Nat}(c:k<l.length)(h:QgI (l.getD (k-1) 0) (l.getD k 0)=true):∃j,j<nC l/\mkb l j=k:=by
 obtain⟨j,b⟩:=Qm7 (C:=l) (r:=k) (by omega)
 have a:=b.lt c
 refine⟨j,a,?_⟩
 rcases Nat.eq_or_lt_of_le b.low with e|e
 ·exact e
 ·have h1:=QkJ e c h
  have h2:=b.next a
  rw[(Qet a).2] at h2
  omega
theorem Qk8 (l:List Int)(p:Nat)(hp:p<l.length):∃j,j<nC l/\mkb l j=Qei l p:=by
 induction p with
 |zero=>exact⟨0,QrA hp,by simp[Qei,QfG]⟩
 |succ p ih=>
  simp only[Qei]
  split
  ·rename_i h
   exact QqY hp (by simpa using h)
  ·exact ih (by omega)
theorem Qi5 {C:List Int}{j:Nat}(a:j<nC C):QeI C (mkb C j)=mkb C (j+1)::QeI C (mkb C (j+1)):=by
 rw[Qg1 _ _ (Qet a).1,<-(Qet a).2]
theorem Qny {C:List Int}{p j:Nat}(h:InC C p j)(hp:p<C.length) : ∀(f c s:Nat),j-c<=f->c<=j ->
  Qdl (fun(s k:Nat)=>(decide (k<=p),if p<k then k else s)) s (QeI C (mkb C c))=mkb C (j+1):=by
 have d:=h.lt hp
 have hn:=h.next d
 intro f
 induction f with
 |zero=>
  intro c s i g
  have e:c=j:=by omega
  subst e
  rw[Qi5 d]
  unfold Qdl
  rw[if_neg (by simp;omega),if_pos hn]
 |succ f ih=>
  intro c s i g
  rcases Nat.eq_or_lt_of_le g with e|e
  ·subst e
   rw[Qi5 d]
   unfold Qdl
   rw[if_neg (by simp;omega),if_pos hn]
  ·rw[Qi5 (by omega)]
   unfold Qdl
   have h1:=QiR (C:=C) (a:=c+1) (b:=j) e h.le
   have h2:=h.low
   rw[if_pos (by simp;omega)]
   exact ih (c+1) _ (by omega) e
theorem Qpy {C:List Int}{p j:Nat}(h:InC C p j)(hp:p<C.length):Qec C p=mkb C (j+1):=by
 unfold Qec
 rw[if_pos hp]
 obtain⟨b,h1,h2⟩:=Qk8 C p hp
 have c:Qfs C (p+1)=Qei C p:=by
  unfold Qfs
  rw[show min (p+1) C.length-1=p by omega]
 have d:=Qkc C p
 rw[c,<-h2]
 refine Qny h hp _ b _ (Nat.le_refl _) ?_
 rcases Nat.lt_or_ge j b with a|a
 ·have:=h.high b a (by omega)
  omega
 ·exact a
theorem Qbd (a:List (Int × Int))(i:Nat):(Qo a i).from_=(sk a i:Int):=by
 unfold Qo
 split
 ·unfold Qb8
  split
  ·rfl
  ·split<;>rfl
 ·rfl
theorem Qgn {a:List (Int × Int)}(hp:PosD a){m k:Nat}(hm:m<=a.length)(d:k<=QaG a)(h:k<=Qdk (a.map Prod.fst) m):sk a k<=m:=by
 rcases Nat.eq_zero_or_pos k with b|b
 ·subst b;rw[Qen];omega
 ·obtain⟨_,h2,e⟩:=Qeg hp b d
  rcases Nat.lt_or_ge m (sk a k) with c|c
  ·have:=Qel (a.map Prod.fst) c h2
   omega
  ·exact c
theorem QiE {w:World}{b:Nat}{L:Ln}{i:Int}{A1 A2:Option Addr}{n1 c1 n2 c2:Nat}(h:Blk w b 137 (Qab L i A1 n1 c1 A2 n2 c2)) :
  w.cell? ⟨b,0,none⟩=some (.int .i64 L.from_)/\w.cell? ⟨b,1,none⟩=some (.int .i64 L.to_)/\w.cell? ⟨b,2,none⟩=some (.int .i64 L.next)/\w.cell? ⟨b,3,none⟩=some (.int .i64 L.brk)/\w.cell? ⟨b,4,none⟩=some (.int .i64 i) /\
   w.cell? ⟨b,5,none⟩=some (.slice A1 n1 c1)/\w.cell? ⟨b,6,none⟩=some (.slice A2 n2 c2):=(Qaj h).1
theorem Qic (D:Nat->Prop)(L:Ln)(i:Int)(C:List Int)(v:Array Value)(w:World)(h:RowC w D L i C v)(R:0<=L.from_/\L.from_<=1073741824)(hn:(Qbi C).length<=1073741825)(I : ∀x ∈ Qbi C,0<=x/\x<=1073741824) :
  Calls Tryz.prog 85 #[.agg v,.int .i64 (-1)] w fun e w'=>e=.returned (.int .i64 (L.from_+(Qbi C).getD 0 0))/\ZB w w':=by
 obtain⟨A1,n1,c1,A2,n2,c2,rfl,h1,h2,F,Z⟩:=h
 obtain⟨x0,j,n,p⟩:=L
 dsimp only at R ⊢
 have k:=F.len
 have f:0<(Qbi C).length:=by simp[Qbi]
 obtain⟨b,off,rfl,Y,a⟩:=QbH F (by omega)
 have t:=a 0 (by omega)
 have B:0<=(Qbi C).getD 0 0/\(Qbi C).getD 0 0<=1073741824:=by
  rw[List.getD_eq_getElem?_getD,List.getElem?_eq_getElem (by omega)]
  exact I _ (List.getElem_mem _)
 obtain⟨m,hm⟩:=ZN ((Qbi C).getD 0 0)
 rw[hm] at t B ⊢
 rw[Nat.add_zero] at t
 have c:=fun(w':World)=>QbZ ⟨x0,j,n,p⟩ i A1 (some ⟨b,off,none⟩) n1 c1 n2 c2 w' (by omega) (by omega)
 obtain⟨N,M⟩:=ZN (n2-1)
 rw[M] at c
 have S:(0:Int)<(n2:Int):=by omega
 have J:0<n2:=by omega
 have P : ¬n2<=0:=by omega
 have O : ¬n2=0:=by omega
 have V:IntKind.i64.wrap (x0+m)=x0+m:=IntWalk.i64_in _ (by omega)
 have g:=Blk.new w 137 (Qab ⟨x0,j,n,p⟩ i A1 n1 c1 (some ⟨b,off,none⟩) n2 c2)
 obtain⟨⟨s,E,G,y,H,r,z⟩,_⟩:=Qaj g
 have d:=Qh (Qa (o:=.cells (Qab ⟨x0,j,n,p⟩ i A1 n1 c1 (some ⟨b,off,none⟩) n2 c2) 137) (Below.refl _ w)) t
 have q:ZB w (w.alloc (.cells (Qab ⟨x0,j,n,p⟩ i A1 n1 c1 (some ⟨b,off,none⟩) n2 c2) 137)):=Qa (Below.refl _ w)
 unfold Qab at c s E G y H r z d q
 dsimp only at c s E G y H r z d q
 have A:=Zh c
 have X:=Zh q
 have K:=And.intro s (And.intro E (And.intro G (And.intro y (And.intro H (And.intro r (And.intro z d))))))
 clear c hm M k f a I g h1 F q
 ·have T:((N:Int)<0)=False:=by simp
  have W:((-1:Int)<0)=True:=by simp
  unfold Qab
  go_enter Tryz.func85,Tryz.ntmps85
  go_upto_region 1 with fail
  go_cut [4] (fun U wx=>U=.int .i64 (x0+m)/\ZB w wx)
  case first=>
   have u:=Qo1 (Below.drew (Below.refl _ _)) K
   go_region_held3 (fun w'=>w'.cell? ⟨w.heap.size,0,none⟩=some (.int .i64 x0)/\w'.cell? ⟨w.heap.size,1,none⟩=some (.int .i64 j)/\w'.cell? ⟨w.heap.size,2,none⟩=some (.int .i64 n)/\w'.cell? ⟨w.heap.size,3,none⟩=some (.int .i64 p)/\w'.cell? ⟨w.heap.size,4,none⟩=some (.int .i64 i)/\w'.cell? ⟨w.heap.size,5,none⟩=some (.slice A1 n1 c1)/\w'.cell? ⟨w.heap.size,6,none⟩=some (.slice (some ⟨b,off,none⟩) n2 c2)/\w'.cell? ⟨b,off,none⟩=some (.int .i64 m)) (first|(with_reducible assumption)|(with_reducible exact u)) (first|(go_at_call 84;refine(A.out _).mono ?_;rintro e w1 ⟨rfl,l⟩;have s1:=Qo1 (QD l) K))
   all_goals
    go_wp2_with fail
    go_meet
    exact⟨rfl,Qf X.out (QD l)⟩
  case rest=>
   obtain⟨rfl,Q⟩:=hcut
   go_wp2_with fail
   go_ret
   exact⟨rfl,Q⟩
def ClampOk (a:List (Int × Int))(at_:Int)(j:Nat):Prop:=
 if (Qo a (Qs a at_ false)).to_<=min (max at_ 0) (a.length:Int) then j=nC (Qbb a (Qs a at_ false))-1 else InC (Qbb a (Qs a at_ false)) (min (max at_ 0) (a.length:Int)-(Qo a (Qs a at_ false)).from_).toNat j
theorem Qf7 {a:List (Int × Int)}(hp:PosD a)(at_:Int):(Qo a (Qs a at_ false)).from_<=min (max at_ 0) (a.length:Int):=by
 have b:=QaO a at_ false
 rw[Qbd]
 have h1:Qs a at_ false<=ofF a at_:=by unfold Qs;simp;omega
 have:=Qgn hp (m:=min at_.toNat a.length) (k:=Qs a at_ false) (by omega) b h1
 omega
theorem Qiu (D:Nat->Prop)(g:Nat)(enc:Int)(o:List (Int × Int))(at_:Int)(w:World)(h:TextAt w D g enc o) :
  Calls Tryz.prog 82 #[.pointer (some ⟨g,0,none⟩),.int .i64 at_,.bool false] w fun e w'=>∃j:Nat,e=.returned (.int .i64 ((Qo o (Qs o at_ false)).from_+(mkb (Qbb o (Qs o at_ false)) j:Int)))/\ClampOk o at_ j/\j<=nC (Qbb o (Qs o at_ false))/\ZB w w':=by
 have hp:=h.pos
 have x:=Qf7 hp at_
 have U:=QaO o at_ false
 have G:=Q3 hp U
 have H:=QaE hp U
 have a5:=h.len
 have B:=Qd3 D g enc o at_ false w h
 have R:=fun(wy:World) (s:ZB w wy)=>QaS D g enc o wy (h.below s)
 unfold ClampOk
 obtain⟨I,hI⟩:=ZN (Qs o at_ false)
 rw[hI] at G H B x ⊢
 obtain⟨L,hL⟩:=ZN (Qo o I)
 obtain⟨C,hC⟩:=ZN (Qbb o I)
 rw[hL] at G H B x ⊢
 rw[hC] at H B ⊢
 obtain⟨n,hn⟩:=ZN (o.length)
 rw[hn] at R a5 G x ⊢
 obtain⟨p,a1⟩:=ZN (min (max at_ 0) (n:Int))
 rw[a1] at x ⊢
 have t:0<=L.from_/\L.from_<=1073741824:=by omega
 have z:C.length<=1073741824:=by omega
 have q:((at_<0)=True/\((n:Int)<0)=False/\p=0)\/((at_<0)=False/\((n:Int)<at_)=False/\p=at_)\/((at_<0)=False/\((n:Int)<at_)=True/\p=(n:Int)):=by
  simp only[eq_iff_iff,iff_true,iff_false]
  omega
 have a2:p<L.to_->∃r:Nat,L.from_+(r:Int)=p/\(p-L.from_).toNat=r/\∃j,InC C r j:=fun b4=>by
  obtain⟨j,hj⟩:=Qm7 (C:=C) (r:=(p-L.from_).toNat) (by omega)
  exact⟨(p-L.from_).toNat,by omega,rfl,j,hj⟩
 have a6:=Zh B
 have a4:=Zh R
 have S:=Zh a2
 clear B R hI hL hC U hp H G h hn a2 a1
 by_cases hpt:p<L.to_
 ·obtain⟨r,hr,a7,j,hj⟩:=S.out hpt
  have q5:(L.to_<=p)=False:=by simp;omega
  have HR:=Zh hr
  have HJ:=Zh hj
  obtain⟨P,M⟩:=ZN (L.from_+(mkb C j:Int))
  have O:=hj.le
  suffices hs:Calls Tryz.prog 82 #[.pointer (some ⟨g,0,none⟩),.int .i64 at_,.bool false] w fun e w'=>e=.returned (.int .i64 P)/\ZB w w' by
   refine hs.mono ?_
   rintro e w' ⟨rfl,hb⟩
   exact⟨j,by rw[M],by rw[if_neg (by omega),a7];exact hj,O,hb⟩
  have HP:=Zh M
  clear M hr a7 hj x S hpt O
  rcases q with ⟨q1,q2,rfl⟩|⟨q1,q2,rfl⟩|⟨q1,q2,rfl⟩
  all_goals
   go_enter Tryz.func82,Tryz.ntmps82
   go_wp2_with fail
   refine(a6.out).mono ?_
   rintro e w1 ⟨v,rfl,a,A⟩
   have u:=fun(wy:World) (s:ZB w1 wy)=>Qm0 _ L I C v r wy (a.below s) t z
   have y:=fun(wy:World) (s:ZB w1 wy)=>QeQ _ L I C v j wy (a.below s) t z HJ.out.le
   rw[HR.out] at u
   rw[HP.out] at y
   obtain⟨A1,n1,c1,A2,n2,c2,rfl⟩:=QcV a
   have l:=Zh u
   have d:=Zh y
   clear u a y
   have E:=fun(wy:World) (s:Below (w1.alloc (.cells (Qab L I A1 n1 c1 A2 n2 c2) 137)).heap.size (w1.alloc (.cells (Qab L I A1 n1 c1 A2 n2 c2) 137)) wy)=>QiE ((Blk.new w1 137 (Qab L I A1 n1 c1 A2 n2 c2)).below s)
   have c:ZB w1 (w1.alloc (.cells (Qab L I A1 n1 c1 A2 n2 c2) 137)):=Qa (Below.refl _ _)
   obtain⟨x0,x1,x2,x3⟩:=L
   unfold Qab at l d E c ⊢
   dsimp only at l d E t c q5 ⊢
   have J:=Zh E
   clear E
   go_wp2_with fail
   refine(a4.out _ (Qf A c)).mono ?_
   rintro e w2 ⟨rfl,b⟩
   obtain⟨Z,g1,T,V,g4,Y,W⟩:=J.out _ b
   go_upto_region 7 with fail
   have i:=Qf c b
   refine Qv (fun w'=>ZB w2 w') (by kernel_rfl) (by kernel_rfl) (Below.drew (Below.refl _ _)) ?_
   repeat ((first
    |(refine Q9 (v:=?_) (by rfl) (fun w6 hSw=>?_) ?_;rotate_left;(·(obtain⟨Z,g1,T,V,g4,Y,W⟩:=J.out _ (Qf b hSw);go_simp;try with_reducible rfl)))
    |refine Qaw (by rfl) ?_
    |(refine QO (f:=?_) (args:=?_) (v:=.int .i64 (j:Int)) (by rfl) (fun w6 hSw=>?_) (fun w6 hSw=>?_) ?_;rotate_left 2;(·(obtain⟨Z,g1,T,V,g4,Y,W⟩:=J.out _ (Qf b hSw);go_simp;first|done|(constructor<;>with_reducible rfl)|with_reducible rfl));(·((with_reducible refine(l.out _ (Qf i hSw)).mono ?_);rintro e w5 ⟨⟨j',rfl,a9⟩,m⟩;have b0:=a9.uniq HJ.out;subst b0;exact⟨rfl,Qf hSw m⟩)))
    |(refine QO (f:=?_) (args:=?_) (v:=.int .i64 P) (by rfl) (fun w6 hSw=>?_) (fun w6 hSw=>?_) ?_;rotate_left 2;(·(obtain⟨Z,g1,T,V,g4,Y,W⟩:=J.out _ (Qf b hSw);go_simp;first|done|(constructor<;>with_reducible rfl)|with_reducible rfl));(·((with_reducible refine(d.out _ (Qf i hSw)).mono ?_);rintro e w5 ⟨rfl,m⟩;exact⟨rfl,Qf hSw m⟩))));(try simp only[Act.put,pA,pB,pC]))
   refine Qav ?_
   intro w4 X
   go_wp2_with fail
   go_ret
   exact⟨rfl,Qf (Qf A i) X⟩
 ·have q5:(L.to_<=p)=True:=by simp;omega
  obtain⟨P,M⟩:=ZN (L.from_+((mkb C (nC C-1):Nat):Int))
  suffices hs:Calls Tryz.prog 82 #[.pointer (some ⟨g,0,none⟩),.int .i64 at_,.bool false] w fun e w'=>e=.returned (.int .i64 P)/\ZB w w' by
   refine hs.mono ?_
   rintro e w' ⟨rfl,hb⟩
   exact⟨nC C-1,by rw[<-M],by rw[if_pos (by omega)],by omega,hb⟩
  have b1:=QgS C
  obtain⟨K,hK⟩:∃K:Int,(nC C:Int)-1=K:=⟨_,rfl⟩
  have F:IntKind.i64.wrap ((nC C:Int)-1)=K:=by rw[IntWalk.i64_in _ (by omega),hK]
  have Q : ∀(v:Array Value) (wy:World) (D':Nat->Prop),RowC wy D' L I C v->Calls Tryz.prog 85 #[.agg v,.int .i64 K] wy fun e w'=>e=.returned (.int .i64 P)/\ZB wy w':=fun v wy D' a=>by
   rcases Nat.eq_zero_or_pos (nC C) with h0|h0
   ·have b3:K = -1:=by omega
    have:=Qic D' L I C v wy a t (by rw[Qau];omega) (Qdy z)
    rw[Qcb (k:=0) (by omega),<-show nC C-1=0 by omega,M] at this
    rw[b3]
    exact this
   ·have:=QeQ D' L I C v (nC C-1) wy a t z (by omega)
    rw[M,show ((nC C-1:Nat):Int)=K by omega] at this
    exact this
  obtain⟨N,hN⟩:=ZN (nC C)
  have a0:=fun(v:Array Value) (wy:World) (D':Nat->Prop) (a:RowC wy D' L I C v)=>Qdu D' L I C v wy a z
  rw[hN] at a0 F
  have a3:=Zh Q
  have b2:=Zh a0
  have a8:=Zh F
  clear M x S hpt Q a0 b1 hK hN F
  rcases q with ⟨q1,q2,rfl⟩|⟨q1,q2,rfl⟩|⟨q1,q2,rfl⟩
  all_goals
   go_enter Tryz.func82,Tryz.ntmps82
   go_wp2_with fail
   refine(a6.out).mono ?_
   rintro e w1 ⟨v,rfl,a,A⟩
   have u:=fun(wy:World) (s:ZB w1 wy)=>b2.out v wy _ (a.below s)
   have y:=fun(wy:World) (s:ZB w1 wy)=>a3.out v wy _ (a.below s)
   obtain⟨A1,n1,c1,A2,n2,c2,rfl⟩:=QcV a
   have l:=Zh u
   have d:=Zh y
   clear u a y
   have E:=fun(wy:World) (s:Below (w1.alloc (.cells (Qab L I A1 n1 c1 A2 n2 c2) 137)).heap.size (w1.alloc (.cells (Qab L I A1 n1 c1 A2 n2 c2) 137)) wy)=>QiE ((Blk.new w1 137 (Qab L I A1 n1 c1 A2 n2 c2)).below s)
   have c:ZB w1 (w1.alloc (.cells (Qab L I A1 n1 c1 A2 n2 c2) 137)):=Qa (Below.refl _ _)
   obtain⟨x0,x1,x2,x3⟩:=L
   unfold Qab at l d E c ⊢
   dsimp only at l d E t c q5 ⊢
   have J:=Zh E
   clear E
   go_wp2_with fail
   refine(a4.out _ (Qf A c)).mono ?_
   rintro e w2 ⟨rfl,b⟩
   obtain⟨Z,g1,T,V,g4,Y,W⟩:=J.out _ b
   go_upto_region 6 with fail
   have i:=Qf c b
   have F:=a8.out
   refine Qv (fun w'=>ZB w2 w') (by kernel_rfl) (by kernel_rfl) (Below.drew (Below.refl _ _)) ?_
   repeat ((first
    |(refine Q9 (v:=?_) (by rfl) (fun w6 hSw=>?_) ?_;rotate_left;(·(obtain⟨Z,g1,T,V,g4,Y,W⟩:=J.out _ (Qf b hSw);go_simp;try with_reducible rfl)))
    |refine Qaw (by rfl) ?_
    |(refine QO (f:=?_) (args:=?_) (v:=.int .i64 (N:Int)) (by rfl) (fun w6 hSw=>?_) (fun w6 hSw=>?_) ?_;rotate_left 2;(·(obtain⟨Z,g1,T,V,g4,Y,W⟩:=J.out _ (Qf b hSw);go_simp;first|done|(constructor<;>with_reducible rfl)|with_reducible rfl));(·((with_reducible refine(l.out _ (Qf i hSw)).mono ?_);rintro e w5 ⟨rfl,m⟩;exact⟨rfl,Qf hSw m⟩)))
    |(refine QO (f:=?_) (args:=?_) (v:=.int .i64 P) (by rfl) (fun w6 hSw=>?_) (fun w6 hSw=>?_) ?_;rotate_left 2;(·(obtain⟨Z,g1,T,V,g4,Y,W⟩:=J.out _ (Qf b hSw);go_simp;first|done|(constructor<;>with_reducible rfl)|with_reducible rfl));(·((with_reducible refine(d.out _ (Qf i hSw)).mono ?_);rintro e w5 ⟨rfl,m⟩;exact⟨rfl,Qf hSw m⟩))));(try simp only[Act.put,pA,pB,pC]))
   refine Qav ?_
   intro w4 X
   go_wp2_with fail
   go_ret
   exact⟨rfl,Qf (Qf A i) X⟩
theorem Qot (D:Nat->Prop)(L:Ln)(i:Int)(C:List Int)(v:Array Value)(k p:Nat)(w:World)(h:RowC w D L i C v)(r:k<(Qbi C).length)(hp:(Qbi C).getD k 0=(p:Int))(m:p<C.length) :
  Calls Tryz.prog 190 #[.agg v,.int .i64 (k:Int),.bool true] w fun e w'=>e=.returned (.int .i64 (min (Qnk C k) 1))/\ZB w w':=by
 have d:ZB w (w.alloc (.cells v 137)):=Qa (Below.refl _ w)
 have l:=Qnq D L i C v k p _ (h.below d) r hp m
 have c:Qnk C k=QiX (C.getD p 0):=by unfold Qnk;rw[hp];rfl
 rw[c]
 obtain⟨y,o⟩:=ZN (C.getD p 0)
 rw[o] at l ⊢
 obtain⟨A1,n1,c1,A2,n2,c2,rfl⟩:=QcV h
 have b:=Blk.new w 137 (Qab L i A1 n1 c1 A2 n2 c2)
 obtain⟨x0,t,z,A⟩:=L
 obtain⟨u,n⟩:=ZN (QiX y)
 have a:=fun w'=>Qpb y w'
 rw[n] at a ⊢
 have g:=Zh a
 have s:=Zh b
 have q:=Zh l
 clear o hp c l b h n a
 unfold Qab at d ⊢
 dsimp only at d ⊢
 go_enter Tryz.func190,Tryz.ntmps190
 go_wp2_with fail
 refine(q.out).mono ?_
 rintro e w1 ⟨rfl,j⟩
 go_wp2_with fail
 refine(g.out _).mono ?_
 rintro e x ⟨rfl,f⟩
 go_wp2_with fail
 all_goals
  go_ret
  exact⟨QaB (by omega),Qf (Qf d j) f⟩
def Qn3 (C:List Int)(j:Nat):Prop:=(∀i,i<j->min (kd C i) 1=0)/\j<=nC C-1/\(j<nC C-1->min (kd C j) 1≠0)
def Qsx (C:List Int)(w1:World)(k:Nat)(a:Value)(wr:World):Prop:=
 ∃i:Nat,a=.int .i64 (i:Int)/\i<=nC C/\nC C-i<=k/\Hid (∀j,j<i->min (kd C j) 1=0)/\ZB w1 wr
theorem Qnf (D:Nat->Prop)(L:Ln)(i:Int)(C:List Int)(v:Array Value)(w:World)(h:RowC w D L i C v)(hC:C.length<=1073741824) :
  Calls Tryz.prog 184 #[.agg v] w fun e w'=>∃j:Nat,e=.returned (.int .i64 (j:Int))/\Qn3 C j/\ZB w w':=by
 have W:=QgS C
 obtain⟨A1,n1,c1,A2,n2,c2,rfl⟩:=QcV h
 have n:=Blk.new w 137 (Qab L i A1 n1 c1 A2 n2 c2)
 have B:ZB w (w.alloc (.cells (Qab L i A1 n1 c1 A2 n2 c2) 137)):=Qa (Below.refl _ w)
 have I:=fun(w':World) (a:ZB w w')=>Qdu D L i C _ w' (h.below a) hC
 have y:=fun(w':World) (a:ZB w w') (k:Nat) (J:k<nC C)=>Qot D L i C _ k (mkb C k) w' (h.below a) (by rw[Qau];omega) (Qcb (by omega)) (Qet J).1
 have E : ∀k,k<nC C->Qnk C k=kd C k:=fun k J=>by unfold Qnk kd;rw[Qcb (by omega)];rfl
 obtain⟨N,T⟩:=ZN (nC C)
 obtain⟨x0,r,s,t⟩:=L
 have z : ∀w',Below (w.heap.size+1) (w.alloc (.cells (Qab ⟨x0,r,s,t⟩ i A1 n1 c1 A2 n2 c2) 137)) w'->Blk w' w.heap.size 137 (Qab ⟨x0,r,s,t⟩ i A1 n1 c1 A2 n2 c2):=fun w' a=>n.below (by unfold ZB;rw[World.size_alloc];exact a)
 have f:=Zh I
 have p:=Zh y
 have K:=Zh E
 have l:=Zh T
 have b:=Zh n
 rw[T] at f W
 clear I y E T h z
 unfold Qab at B b f p ⊢
 have o : ∀w',Below (w.alloc (.cells #[.int .i64 x0,.int .i64 r,.int .i64 s,.int .i64 t,.int .i64 i,.slice A1 n1 c1,.slice A2 n2 c2] 137)).heap.size (w.alloc (.cells #[.int .i64 x0,.int .i64 r,.int .i64 s,.int .i64 t,.int .i64 i,.slice A1 n1 c1,.slice A2 n2 c2] 137)) w'->(w'.cell? ⟨w.heap.size,0,none⟩=some (.int .i64 x0)/\w'.cell? ⟨w.heap.size,1,none⟩=some (.int .i64 r)/\w'.cell? ⟨w.heap.size,2,none⟩=some (.int .i64 s)/\w'.cell? ⟨w.heap.size,3,none⟩=some (.int .i64 t))/\w'.cell? ⟨w.heap.size,4,none⟩=some (.int .i64 i)/\w'.cell? ⟨w.heap.size,5,none⟩=some (.slice A1 n1 c1)/\w'.cell? ⟨w.heap.size,6,none⟩=some (.slice A2 n2 c2):=
  fun w' a=>⟨⟨(b.out.below a).cell 0,(b.out.below a).cell 1,(b.out.below a).cell 2,(b.out.below a).cell 3⟩,(b.out.below a).cell 4,(b.out.below a).cell 5,(b.out.below a).cell 6⟩
 have G:=Zh o
 obtain⟨⟨V,M,S,U⟩,R,P,O⟩:=o _ (Below.refl _ _)
 clear o n
 dsimp only at B f p ⊢
 go_enter Tryz.func184,Tryz.ntmps184
 go_upto_region 1 with fail
 obtain⟨w0,F⟩:∃x,w.alloc (.cells #[.int .i64 x0,.int .i64 r,.int .i64 s,.int .i64 t,.int .i64 i,.slice A1 n1 c1,.slice A2 n2 c2] 137)=x:=⟨_,rfl⟩
 rw[F] at G B V M S U R P O ⊢
 clear F b
 go_wp2_with fail
 refine(f.out _ B).mono ?_
 rintro e w1 ⟨rfl,A⟩
 have m:=Qf B A
 clear V M S U R P O
 go_wp2_with fail
 go_loopg [6] N (fun k q6 wr=>Qsx C w1 k q6 wr)
 case atStart=>exact⟨0,rfl,Nat.zero_le _,by rw[l.out];omega,Zh (fun j X=>by omega),Below.refl _ _⟩
 case round=>
  obtain⟨d,rfl,hi,J,q,a⟩:=hrel
  rw[l.out] at hi J
  obtain⟨⟨V,M,S,U⟩,R,P,O⟩:=G.out _ (Qf A a)
  by_cases hgo:d<N
  ·have q1:((d:Int)<(N:Int))=True:=by simp;omega
   have g:=p.out _ (Qf m a) d (by rw[l.out];exact hgo)
   rw[K.out d (by rw[l.out];exact hgo)] at g
   obtain⟨u,Q⟩:=ZN (min (kd C d) 1)
   rw[Q] at g
   have Z:=Zh Q
   have H:=Zh g
   clear Q g
   by_cases hv0:u=0
   ·subst hv0
    go_wp2_with fail
    refine(H.out).mono ?_
    rintro e Y ⟨rfl,c⟩
    go_wp2_with fail
    go_roundg (N-(d+1))
    case measure=>omega
    case rel=>
     refine⟨d+1,by simp,by rw[l.out];omega,by rw[l.out];omega,Zh (fun j X=>?_),Qf a c⟩
     rcases Nat.lt_or_ge j d with h1|h1
     ·exact q.out j h1
     ·have:j=d:=by omega
      rw[this]
      exact Z.out
   ·have q2:(u != 0)=true:=by rw[bne_iff_ne];exact hv0
    go_wp2_with fail
    refine(H.out).mono ?_
    rintro e Y ⟨rfl,c⟩
    go_wp2_with fail
    go_ret
    exact⟨d,rfl,⟨q.out,by rw[l.out];omega,fun _=>by rw[Z.out];exact hv0⟩,Qf m (Qf a c)⟩
  ·have q1:((d:Int)<(N:Int))=False:=by simp;omega
   have wn:IntKind.i64.wrap ((N:Int)-1)=(N:Int)-1:=IntWalk.i64_in _ (by omega)
   go_wp2_with fail
   refine(f.out _ (Qf m a)).mono ?_
   rintro e Y ⟨rfl,c⟩
   go_wp2_with fail
   all_goals
    go_ret
    refine⟨N-1,QaB (by omega),⟨fun j X=>q.out j (by omega),by rw[l.out];omega,fun h=>by rw[l.out] at h;omega⟩,Qf m (Qf a c)⟩
theorem RowC.fr {w w':World}{D S:Nat->Prop}{L:Ln}{i:Int}{C:List Int}{v:Array Value}(h:RowC w D L i C v)(a:Fr S w w')(hn : ∀b,D b->b<w.heap.size->¬S b):RowC w' D L i C v:=by
 obtain⟨A1,n1,c1,A2,n2,c2,e,h1,h2,d,c⟩:=h
 exact⟨A1,n1,c1,A2,n2,c2,e,Reads.fr h1 a hn,h2,Reads.fr d a hn,c⟩
def mvV (g:Nat)(s c k:Int)(cn:Bool)(arg goal:Int)(a d b e h f i:Value):Array Value:=
 #[.pointer (some ⟨g,0,none⟩),.int .i64 s,.int .i64 c,.int .i64 k,.bool cn,.int .i64 arg,.int .i64 goal,.bool false,.bool false,a,d,b,e,h,f,i]
def MvAt (w:World)(m g:Nat)(s k:Int):Prop:=∃c cn arg goal a d b e h f i,Blk w m 245 (mvV g s c k cn arg goal a d b e h f i)
theorem MvAt.facts {w:World}{m g:Nat}{s k:Int}(h:MvAt w m g s k) :
  (w.cell? ⟨m,0,none⟩=some (.pointer (some ⟨g,0,none⟩))/\w.cell? ⟨m,1,none⟩=some (.int .i64 s)/\w.cell? ⟨m,3,none⟩=some (.int .i64 k)/\w.cell? ⟨m,7,none⟩=some (.bool false)/\w.cell? ⟨m,8,none⟩=some (.bool false))/\w.frozen? ⟨m,3,none⟩=false:=by
 obtain⟨c,cn,arg,goal,b,e,d,f,j,i,l,a⟩:=h
 exact⟨⟨a.cell 0,a.cell 1,a.cell 3,a.cell 7,a.cell 8⟩,a.frozen 3⟩
theorem MvAt.below {w w':World}{m g:Nat}{s k:Int}(h:MvAt w m g s k)(a:ZB w w'):MvAt w' m g s k:=by
 obtain⟨c,cn,arg,goal,d,e,j,l,f,b,i,h⟩:=h
 exact⟨c,cn,arg,goal,d,e,j,l,f,b,i,h.below a⟩
theorem QkZ (D:Nat->Prop)(g:Nat)(enc:Int)(l:List (Int × Int))(at_:Int)(w:World)(h:TextAt w D g enc l) :
  Calls Tryz.prog 35 #[.pointer (some ⟨g,0,none⟩),.int .i64 at_] w fun e w'=>(∃j:Nat,e=.returned (.int .i64 (j:Int)))/\ZB w w':=by
 have hp:=h.pos
 have f:=QaO l at_ true
 have k:=Q3 hp f
 have d:=QaE hp f
 have u:=h.len
 have b:=Qd3 D g enc l at_ true w h
 obtain⟨I,y⟩:=ZN (Qs l at_ true)
 rw[y] at k d b
 obtain⟨L,z⟩:=ZN (Qo l I)
 obtain⟨C,x⟩:=ZN (Qbb l I)
 rw[z] at k d b
 rw[x] at d b
 have n:0<=L.from_/\L.from_<=1073741824:=by omega
 have s:C.length<=1073741824:=by omega
 have hn:=QgS C
 have r:=Zh b
 clear b y z x f hp d k h
 go_enter Tryz.func35,Tryz.ntmps35
 go_wp2_with fail
 refine(r.out).mono ?_
 rintro e w1 ⟨v,rfl,a,q⟩
 have m:=fun(wy:World) (E:ZB w1 wy)=>Qde _ L I C v at_ wy (a.below E) n (by rw[Qau];omega) (Qdy s) QcA
 obtain⟨A1,n1,c1,A2,n2,c2,rfl⟩:=QcV a
 have i:=Zh m
 clear m a
 obtain⟨x0,t,A,B⟩:=L
 obtain⟨o,_⟩:=Qaj (Blk.new w1 137 (Qab ⟨x0,t,A,B⟩ I A1 n1 c1 A2 n2 c2))
 have c:ZB w1 (w1.alloc (.cells (Qab ⟨x0,t,A,B⟩ I A1 n1 c1 A2 n2 c2) 137)):=Qa (Below.refl _ _)
 unfold Qab at i o c ⊢
 dsimp only at i o n c ⊢
 obtain⟨o,K,M,H,N,F,J⟩:=o
 go_wp2_with fail
 refine(i.out _ c).mono ?_
 rintro e G ⟨⟨j,rfl,_⟩,p⟩
 go_wp2_with fail
 go_ret
 exact⟨⟨j,rfl⟩,Qf q (Qf c p)⟩
theorem QqK (D:Nat->Prop)(m g:Nat)(enc:Int)(q:List (Int × Int))(s k off kind:Int)(w:World)(hm:MvAt w m g s k)(h:TextAt w D g enc q) :
  Calls Tryz.prog 183 #[.pointer (some ⟨m,0,none⟩),.int .i64 off,.int .i64 kind] w fun e w'=>(∃j:Nat,e=.returned (.tuple #[.agg #[.int .i64 off,.int .i64 kind,.int .i64 (j:Int)],.int .i64 0]))/\ZB w w':=by
 have f:=fun(wy:World) (l:ZB w wy)=>QkZ D g enc q off wy (h.below l)
 have i:=fun(wy:World) (l:ZB w wy)=>(hm.below l).facts.1
 have n:=Zh f
 have y:=Zh i
 clear f hm h i
 have b:ZB w (w.alloc (.cells #[.int .i64 0,.int .i64 0,.int .i64 0] 152)):=Qa (Below.refl _ _)
 have t:=Blk.new w 152 #[.int .i64 0,.int .i64 0,.int .i64 0]
 go_enter Tryz.func183,Tryz.ntmps183
 obtain⟨A,_⟩:=y.out _ b
 go_wp2_with fail
 refine(n.out _ b).mono ?_
 rintro e u ⟨⟨j,rfl⟩,d⟩
 have a:=t.below d
 have c0:=a.cell 0
 have c1:=a.cell 1
 have c2:=a.cell 2
 have B:=a.frozen 0
 have C:=a.frozen 1
 have z:=a.frozen 2
 simp at c0 c1 c2
 go_wp2_with fail
 have c:=((a.set_ 0 (.int .i64 off)).set_ 1 (.int .i64 kind)).set_ 2 (.int .i64 (j:Int))
 have r:=c.cell 0
 have o:=c.cell 1
 have p:=c.cell 2
 simp at r o p
 have x:ZB w (((u.setCell ⟨w.heap.size,0,none⟩ (.int .i64 off)).setCell ⟨w.heap.size,1,none⟩ (.int .i64 kind)).setCell ⟨w.heap.size,2,none⟩ (.int .i64 (j:Int))):=
  (((Qf b d).setCell (Nat.le_refl _) _).setCell (Nat.le_refl _) _).setCell (Nat.le_refl _) _
 refine bodyPost_ret (v:=.tuple #[.agg #[.int .i64 off,.int .i64 kind,.int .i64 (j:Int)],.int .i64 0]) (by simp[results,Tryz.results183,go_sem,r,o,p]) rfl ⟨⟨j,rfl⟩,x⟩
theorem QeR {w:World}{q:Nat}{x y z f u1 u2:Int}(e:Blk w q 152 #[.int .i64 f,.int .i64 u1,.int .i64 u2]) :
  (((w.setCell ⟨q,0,none⟩ (.int .i64 x)).setCell ⟨q,1,none⟩ (.int .i64 y)).setCell ⟨q,2,none⟩ (.int .i64 z)).cell? ⟨q,0,none⟩=some (.int .i64 x) /\
  (((w.setCell ⟨q,0,none⟩ (.int .i64 x)).setCell ⟨q,1,none⟩ (.int .i64 y)).setCell ⟨q,2,none⟩ (.int .i64 z)).cell? ⟨q,1,none⟩=some (.int .i64 y) /\
  (((w.setCell ⟨q,0,none⟩ (.int .i64 x)).setCell ⟨q,1,none⟩ (.int .i64 y)).setCell ⟨q,2,none⟩ (.int .i64 z)).cell? ⟨q,2,none⟩=some (.int .i64 z):=by
 have a:=((e.set_ 0 (.int .i64 x)).set_ 1 (.int .i64 y)).set_ 2 (.int .i64 z)
 have b:=a.cell 0
 have c:=a.cell 1
 have d:=a.cell 2
 simp at b c d
 exact⟨b,c,d⟩
theorem Qdf {w:World}{q:Nat}{b u1 u2:Int}(a:Blk w q 152 #[.int .i64 b,.int .i64 u1,.int .i64 u2]) :
  w.cell? ⟨q,0,none⟩=some (.int .i64 b)/\w.cell? ⟨q,1,none⟩=some (.int .i64 u1)/\w.cell? ⟨q,2,none⟩=some (.int .i64 u2)/\w.frozen? ⟨q,0,none⟩=false/\w.frozen? ⟨q,1,none⟩=false/\w.frozen? ⟨q,2,none⟩=false:=
 ⟨a.cell 0,a.cell 1,a.cell 2,a.frozen 0,a.frozen 1,a.frozen 2⟩
theorem Qc5 {W w:World}{q:Nat}{x y z:Value}(h:ZB W w)(a:W.heap.size<=q) :
  ZB W (((w.setCell ⟨q,0,none⟩ x).setCell ⟨q,1,none⟩ y).setCell ⟨q,2,none⟩ z):=((h.setCell a _).setCell a _).setCell a _
def Qpg (X T:Int)(w:World)(e:Ending)(w':World):Prop:=(∃col:Nat,e=.returned (.tuple #[.agg #[.int .i64 T,.int .i64 X,.int .i64 (col:Int)],.int .i64 0]))/\ZB w w'
theorem Qdt {w:World}{p:Addr}{u:Value}(o:Obj)(h:w.cell? p=some u):(w.alloc o).cell? p=some u:=Qh (Qa (Below.refl _ _)) h
theorem Qp2 {w:World}{m g:Nat}{s c k arg goal:Int}{cn:Bool}{a d b e i f j:Value}(h:Blk w m 245 (mvV g s c k cn arg goal a d b e i f j)) :
  (w.cell? ⟨m,9,none⟩=some a/\w.cell? ⟨m,10,none⟩=some d/\w.cell? ⟨m,11,none⟩=some b/\w.cell? ⟨m,12,none⟩=some e/\w.cell? ⟨m,13,none⟩=some i/\w.cell? ⟨m,14,none⟩=some f/\w.cell? ⟨m,15,none⟩=some j) /\
   (w.cell? ⟨m,2,none⟩=some (.int .i64 c)/\w.cell? ⟨m,8,none⟩=some (.bool false))/\w.frozen? ⟨m,2,none⟩=false/\w.frozen? ⟨m,8,none⟩=false:=
 ⟨⟨h.cell 9,h.cell 10,h.cell 11,h.cell 12,h.cell 13,h.cell 14,h.cell 15⟩,⟨h.cell 2,h.cell 8⟩,h.frozen 2,h.frozen 8⟩
theorem QeA {x0 a c d I:Int}{C:List Int}{w w':World}{e:Ending}(h:QfT ⟨x0,a,c,d⟩ I C w e w') :
  ∃A1 n1 c1 A2 n2 c2,e=.returned (.agg #[.int .i64 x0,.int .i64 a,.int .i64 c,.int .i64 d,.int .i64 I,.slice A1 n1 c1,.slice A2 n2 c2]) /\
   RowC w' (fun b=>w.heap.size<=b) ⟨x0,a,c,d⟩ I C #[.int .i64 x0,.int .i64 a,.int .i64 c,.int .i64 d,.int .i64 I,.slice A1 n1 c1,.slice A2 n2 c2]/\ZB w w':=by
 obtain⟨v,h1,h2,f⟩:=h
 obtain⟨A1,n1,c1,A2,n2,c2,rfl⟩:=QcV h2
 exact⟨A1,n1,c1,A2,n2,c2,h1,h2,f⟩
noncomputable def QdP (a:List (Int × Int))(i c:Nat):Int:=(Qo a i).from_+(mkb (Qbb a i) (min c (nC (Qbb a i)-1)):Int)
theorem Qk1 (D:Nat->Prop)(g:Nat)(enc:Int)(d:List (Int × Int))(i c:Nat)(w:World)(h:TextAt w D g enc d)(V:i<QL d)(hc:c<=1073741824) :
  Calls Tryz.prog 33 #[.pointer (some ⟨g,0,none⟩),.int .i64 (i:Int),.int .i64 (c:Int),.bool false] w fun e w'=>e=.returned (.int .i64 (QdP d i c))/\ZB w w':=by
 have hp:=h.pos
 have o:i<=QaG d:=by
  unfold QL at V
  split at V<;>omega
 have Y:QaG d<=d.length:=Qct _ _
 have I:=h.len
 have G:=Q3 hp o
 have A:=QaE hp o
 have B:=fun(w':World) (X:ZB w w')=>QbD D g enc d w' (h.below X)
 have m:=fun(w':World) (X:ZB w w')=>Qep D g enc d i w' (h.below X) o
 have O:QL d<=d.length+1:=by unfold QL;split<;>omega
 unfold QdP
 obtain⟨M,hM⟩:=ZN (QL d)
 obtain⟨L,hL⟩:=ZN (Qo d i)
 obtain⟨C,hC⟩:=ZN (Qbb d i)
 rw[hM] at B V O
 rw[hL] at G A m ⊢
 rw[hC] at A m ⊢
 have x:0<=L.from_/\L.from_<=1073741824:=by omega
 have z:C.length<=1073741824:=by omega
 obtain⟨P,T⟩:=ZN (L.from_+(mkb C (min c (nC C-1)):Int))
 rw[T]
 have a2:=QgS C
 obtain⟨N,hN⟩:=ZN (nC C)
 obtain⟨K,W⟩:∃K:Int,(if N<=c then (N:Int)-1 else c)=K:=⟨_,rfl⟩
 have u : ∀(v:Array Value) (wy:World) (D':Nat->Prop),RowC wy D' L i C v->Calls Tryz.prog 85 #[.agg v,.int .i64 K] wy fun e w'=>e=.returned (.int .i64 P)/\ZB wy w':=fun v wy D' a=>by
  rcases Nat.eq_zero_or_pos (nC C) with h0|h0
  ·have a3:K = -1:=by rw[<-W,if_pos (by omega)];omega
   have:=Qic D' L i C v wy a x (by rw[Qau];omega) (Qdy z)
   rw[Qcb (k:=0) (by omega),<-show min c (nC C-1)=0 by omega,T] at this
   rw[a3]
   exact this
  ·have:=QeQ D' L i C v (min c (nC C-1)) wy a x z (by omega)
   rw[T,show ((min c (nC C-1):Nat):Int)=K by rw[<-W];split<;>omega] at this
   exact this
 have l:=fun(v:Array Value) (wy:World) (D':Nat->Prop) (a:RowC wy D' L i C v)=>Qdu D' L i C v wy a z
 rw[hN] at l
 have s:=Zh u
 have Q:=Zh l
 have a1:=Zh B
 have Z:=Zh m
 have r:=Zh W
 have wM:IntKind.i64.wrap ((M:Int)-1)=(M:Int)-1:=IntWalk.i64_in _ (by omega)
 have wN:IntKind.i64.wrap ((N:Int)-1)=(N:Int)-1:=IntWalk.i64_in _ (by omega)
 have q1:((i:Int)<0)=False:=by simp
 have q2:((M:Int)-1<(i:Int))=False:=by simp;omega
 clear T a2 W hN u B l m h hp o Y I G A O hM hL hC V
 go_enter Tryz.func33,Tryz.ntmps33
 go_wp2_with fail
 refine(a1.out _ (Below.refl _ _)).mono ?_
 rintro e w0 ⟨rfl,F⟩
 go_wp2_with fail
 refine(Z.out _ F).mono ?_
 rintro e w1 ⟨v,rfl,a,a0⟩
 have J:=fun(wy:World) (H:ZB w1 wy)=>Q.out v wy _ (a.below H)
 have R:=fun(wy:World) (H:ZB w1 wy)=>s.out v wy _ (a.below H)
 obtain⟨A1,n1,c1,A2,n2,c2,rfl⟩:=QcV a
 have f:=Zh J
 have b:=Zh R
 clear J a R Q s q1 q2 wM
 have U:=fun(wy:World) (H:Below (w1.alloc (.cells (Qab L i A1 n1 c1 A2 n2 c2) 137)).heap.size (w1.alloc (.cells (Qab L i A1 n1 c1 A2 n2 c2) 137)) wy)=>QiE ((Blk.new w1 137 (Qab L i A1 n1 c1 A2 n2 c2)).below H)
 have n:ZB w1 (w1.alloc (.cells (Qab L i A1 n1 c1 A2 n2 c2) 137)):=Qa (Below.refl _ _)
 obtain⟨x0,x1,x2,x3⟩:=L
 unfold Qab at f b U n ⊢
 dsimp only at f b U x n ⊢
 have HF:=Zh U
 have S:=Zh n
 clear U n
 go_wp2_with fail
 refine(f.out _ S.out).mono ?_
 rintro e w2 ⟨rfl,E⟩
 obtain⟨g0,g1,g2,g3,g4,g5,g6⟩:=HF.out _ E
 have j:=Qf S.out E
 have t:=Qf (Qf F a0) j
 by_cases hcc:N<=c
 ·have q:((N:Int)<=(c:Int))=True:=by simp;omega
  have e:(N:Int)-1=K:=by rw[<-r.out,if_pos hcc]
  replace wN:=wN.trans e
  have p:=Zh (b.out _ j)
  clear e hcc r b f
  go_wp2_with fail
  refine(p.out).mono ?_
  rintro e w3 ⟨rfl,y⟩
  go_wp2_with fail
  go_ret
  exact⟨rfl,Qf t y⟩
 ·have q:((N:Int)<=(c:Int))=False:=by simp;omega
  have e:(c:Int)=K:=by rw[<-r.out,if_neg hcc]
  have p:=Zh (b.out _ j)
  rw[<-e] at p
  clear e hcc r b f
  go_wp2_with fail
  refine(p.out).mono ?_
  rintro e w3 ⟨rfl,y⟩
  go_wp2_with fail
  go_ret
  exact⟨rfl,Qf t y⟩
theorem Qns (D:Nat->Prop)(g:Nat)(enc:Int)(l:List (Int × Int))(at_:Int)(w:World)(h:TextAt w D g enc l) :
  Calls Tryz.prog 35 #[.pointer (some ⟨g,0,none⟩),.int .i64 at_] w fun e w'=>(∃j:Nat,e=.returned (.int .i64 (j:Int))/\j<=1073741824)/\ZB w w':=by
 have hp:=h.pos
 have f:=QaO l at_ true
 have k:=Q3 hp f
 have d:=QaE hp f
 have y:=h.len
 have b:=Qd3 D g enc l at_ true w h
 obtain⟨I,A⟩:=ZN (Qs l at_ true)
 rw[A] at k d b
 obtain⟨L,B⟩:=ZN (Qo l I)
 obtain⟨C,z⟩:=ZN (Qbb l I)
 rw[B] at k d b
 rw[z] at d b
 have n:0<=L.from_/\L.from_<=1073741824:=by omega
 have t:C.length<=1073741824:=by omega
 have hn:=QgS C
 have r:=Zh b
 clear b A B z f hp d k h
 go_enter Tryz.func35,Tryz.ntmps35
 go_wp2_with fail
 refine(r.out).mono ?_
 rintro e w1 ⟨v,rfl,a,q⟩
 have m:=fun(wy:World) (G:ZB w1 wy)=>Qde _ L I C v at_ wy (a.below G) n (by rw[Qau];omega) (Qdy t) QcA
 obtain⟨A1,n1,c1,A2,n2,c2,rfl⟩:=QcV a
 have i:=Zh m
 clear m a
 obtain⟨x0,u,E,F⟩:=L
 obtain⟨o,_⟩:=Qaj (Blk.new w1 137 (Qab ⟨x0,u,E,F⟩ I A1 n1 c1 A2 n2 c2))
 have c:ZB w1 (w1.alloc (.cells (Qab ⟨x0,u,E,F⟩ I A1 n1 c1 A2 n2 c2) 137)):=Qa (Below.refl _ _)
 unfold Qab at i o c ⊢
 dsimp only at i o n c ⊢
 obtain⟨o,N,O,K,P,H,M⟩:=o
 go_wp2_with fail
 refine(i.out _ c).mono ?_
 rintro e J ⟨⟨j,rfl,x⟩,p⟩
 have s:j<=1073741824:=by have:=x.lt;rw[Qau] at this;omega
 clear x
 go_wp2_with fail
 go_ret
 exact⟨⟨j,rfl,s⟩,Qf q (Qf c p)⟩
section
variable {ds:List (Int × Int)} (hp:PosD ds)
include hp
theorem QnJ {m k:Nat}(hm:m<=ds.length)(c:k<=QaG ds)(h:k<=Qdk (ds.map Prod.fst) m):sk ds k<=m:=by
 rcases Nat.eq_zero_or_pos k with a|a
 ·subst a;rw[Qen];omega
 ·obtain⟨_,h2,d⟩:=Qeg hp a c
  rcases Nat.lt_or_ge m (sk ds k) with b|b
  ·have:=Qel (ds.map Prod.fst) b h2
   omega
  ·exact b
theorem QlR {at_:Int}(a:0<=at_)(h1:at_<=(ds.length:Int)):(Qo ds (ofF ds at_)).from_<=at_:=by
 rw[Qbd ds]
 have h2:=Qfl ds at_
 have := QnJ hp (m := at_.toNat) (k := ofF ds at_) (by omega) h2 (by
  unfold ofF
  exact QaT _ (Nat.min_le_left _ _))
 omega
end
theorem Qj8 (C:List Int)(p:Nat):Qec C p<=C.length:=by
 rcases Nat.lt_or_ge p C.length with h|h
 ·obtain⟨j,a⟩:=Qm7 (C:=C) (r:=p) (by omega)
  rw[Qpy a h]
  exact QpO (a.lt h)
 ·unfold Qec
  rw[if_neg (by omega)]
  exact Nat.le_refl _
noncomputable def QkC (ds:List (Int × Int))(up:Bool)(x:Int):Int:=
 if up=false/\(Qo ds (ofF ds x)).from_<(Qo ds (ofF ds x)).to_ then (Qo ds (ofF ds x)).from_+(Qec (Qbb ds (ofF ds x)) (x-(Qo ds (ofF ds x)).from_).toNat:Nat) else x
theorem QqG {ds:List (Int × Int)}(hp:PosD ds)(up:Bool){x:Int}(d:0<=x)(h1:x<=(ds.length:Int)):0<=QkC ds up x/\QkC ds up x<=(ds.length:Int):=by
 unfold QkC
 have h2:=Qfl ds x
 have c:=Q3 hp h2
 have b:=QaE hp h2
 have a:=Qj8 (Qbb ds (ofF ds x)) (x-(Qo ds (ofF ds x)).from_).toNat
 split<;>omega
end Go.Proofs.YtgiihhikdoikgaaGreat
