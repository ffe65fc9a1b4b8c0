/-
  The walk of Book.Begin. The walk of Book.Change. The walks of Book.shut, Book.End. A stack of groups: its last one, and what is left without it (plain).
-/
import Derived.Test.YtgiihhikdoikgaaGreatLMapIs
import Derived.Test.YtgiihhikdoikgaaGreatLSame
import Derived.Test.YtgiihhikdoikgaaGreatLSized
import Derived.Defers
set_option linter.unusedSimpArgs false
set_option linter.unusedVariables false
set_option maxRecDepth 100000
set_option maxHeartbeats 32000000
namespace Go.Proofs.YtgiihhikdoikgaaGreat
open Go.RowKit
theorem SnapAt.set {w:World}{g n s p i:Nat}{add u:Value}{enc:Int}{ats:List (Int × Int)}{T:TypeId}{f:Array Value}(h:SnapAt w g add n enc s ats)(hp:Blk w p T f)(b:T≠226/\T≠104/\T≠147/\T≠5):SnapAt (w.setCell ⟨p,i,none⟩ u) g add n enc s ats:=by
 obtain⟨t,a,h1,h2,d⟩:=h
 exact⟨t,a,h1.far (fun e=>Blk.ne_ hp h1 b.1 e.symm) u,h2.far ((Fr.refl _ _).set1 i u) (fun k _ c=>c▸Far.blk hp b.2),d⟩
theorem SnapAt.below {w w':World}{B g n s:Nat}{add:Value}{enc:Int}{ats:List (Int × Int)}{xs:List Value}{f:Array Value}(h:SnapAt w g add n enc s ats)(c:w.ownsRow B 5 1 add n xs)(d:Blk w g 104 f)(b:ZB w w'):SnapAt w' g add n enc s ats:=by
 obtain⟨t,a,h1,h2,e⟩:=h
 exact⟨t,a,h1.below b,h2.step (g:=g) (TStep.below c b) c d,e⟩
def BegS (W:World)(g n:Nat)(add:Value)(enc:Int)(ats:List (Int × Int))(p s:Nat)(a:Array Value)(w:World):Prop:=SnapAt w g add n enc s ats/\W.heap.size<=s/\ZB W w/\Blk w p 196 a
theorem BegS.set {W w:World}{g n p s i:Nat}{add u:Value}{enc:Int}{ats:List (Int × Int)}{a:Array Value}(h:BegS W g n add enc ats p s a w)(hp:W.heap.size<=p):BegS W g n add enc ats p s (a.setIfInBounds i u) (w.setCell ⟨p,i,none⟩ u):=
 ⟨h.1.set h.2.2.2 (by decide),h.2.1,h.2.2.1.setCell hp u,h.2.2.2.set_ i u⟩
theorem Qly (N B q g:Nat)(enc lim:Int)(n:Nat)(add:Value)(st:BkS)(t:Tr)(a:Option Addr)(xs:List Value)(m:Nat)(vu vr:Value)(now:Option Addr)(x:Int)(w:World)(h:BkAt w N B q g enc lim n add st t a xs m vu vr now)(hn:st.now=none)(hx:0<=x/\x<=(st.ats.length:Int)) :
  Calls Tryz.prog 90 #[.pointer (some ⟨q,0,none⟩),.int .i64 x] w fun e w'=>e=.returned (.int .i64 0)/\∃U,BkAt w' w'.heap.size B q g enc lim n add { st with now:=some ⟨st.ats,x,[],st.state,false⟩ } t a xs m vu vr U/\Fr (· = q) w w':=by
 have L:now=none:=by have:=h.open_;rw[hn] at this;exact this
 subst L
 have W:(QaM enc t.list).length=(QC enc t.list).length:=QaQ enc _
 have H:=Qc9 q g _ Any enc (QC enc t.list) x w h.blk rfl ⟨lim,t,a,add,h.text.text,rfl⟩
 have hq:decide (0<=x/\x<=((QC enc t.list).length:Int))=true:=by
  rw[<-W,h.ats]
  simpa using hx
 rw[hq] at H
 have a6:=Zh H
 have j:=Zh h
 have c6:=h.blk.cell 6
 have Q:=fun(w':World) (d:ZB w w')=>(And.intro ((h.blk.below d).cell 5) (And.intro ((h.blk.below d).cell 0) (And.intro ((h.blk.below d).cell 7) ((h.blk.below d).cell 4))))
 simp at c6
 have HC:=Zh Q
 clear h H hq W Q
 go_enter Tryz.func90,Tryz.ntmps90
 go_wp2_with fail
 refine(a6.out).mono ?_
 rintro e w1 ⟨rfl,z⟩
 have b6 := @run_makeMap Tryz.prog
 obtain⟨Q,c0,c7,c4⟩:=HC.out _ (Qa (o:=.map #[] 0) z)
 simp at Q c0 c7 c4
 go_wp2_with fail
 refine(QlX _).mono ?_
 rintro e w2 ⟨rfl,rfl⟩
 go_wp2_with fail
 have u:ZB w ((w1.alloc (.map #[] 0)).alloc (.cells #[.pointer none,.pointer none,.int .i64 0,.int .i64 0,.slice none 0 0,.int .i64 0,.int .i64 0,.map (some w1.heap.size),.slice none 0 0,.bool false] 196)):=Qa (Qa z)
 have hP:Blk ((w1.alloc (.map #[] 0)).alloc (.cells #[.pointer none,.pointer none,.int .i64 0,.int .i64 0,.slice none 0 0,.int .i64 0,.int .i64 0,.map (some w1.heap.size),.slice none 0 0,.bool false] 196)) (w1.heap.size+1) 196 #[.pointer none,.pointer none,.int .i64 0,.int .i64 0,.slice none 0 0,.int .i64 0,.int .i64 0,.map (some w1.heap.size),.slice none 0 0,.bool false]:=Blk.newAt (by simp)
 have V:st.mb<w1.heap.size:=Nat.lt_of_lt_of_le j.out.map.2.2 z.size
 have hE:MapE ((w1.alloc (.map #[] 0)).alloc (.cells #[.pointer none,.pointer none,.int .i64 0,.int .i64 0,.slice none 0 0,.int .i64 0,.int .i64 0,.map (some w1.heap.size),.slice none 0 0,.bool false] 196)) st.mb w1.heap.size:=⟨(EmptyMap.new w1).alloc _,Nat.ne_of_gt V,by rw[World.size_alloc,World.size_alloc];omega⟩
 have b1:w.heap.size<=w1.heap.size:=z.size
 obtain⟨w3,P⟩:=ZN ((w1.alloc (.map #[] 0)).alloc (.cells #[.pointer none,.pointer none,.int .i64 0,.int .i64 0,.slice none 0 0,.int .i64 0,.int .i64 0,.map (some w1.heap.size),.slice none 0 0,.bool false] 196))
 rw[P] at u hP hE ⊢
 have X : ∀w',ZB w w'->w'.cell? ⟨q,0,none⟩=some (.pointer (some ⟨g,0,none⟩))/\w'.cell? ⟨q,7,none⟩=some (.int .i64 st.state):=fun w' d=>⟨(HC.out _ d).2.1,(HC.out _ d).2.2.1⟩
 have A:=Zh X
 have a3:=Zh hE
 clear P X hE V c0 c7 Q c4
 refine Qg (fun w'=>w'.cell? ⟨q,0,none⟩=some (.pointer (some ⟨g,0,none⟩))/\w'.cell? ⟨q,7,none⟩=some (.int .i64 st.state)) (fun w'=>w'=w3.drew) (fun k=>k==7 || k==16 || k==20 || k==24) (fun _=>false) (fun _=>false) (by kernel_rfl) (by kernel_rfl) (rfl) (fun w' h=>by subst h;exact A.out _ u.drew) ?_
 repeat ((first
  |(refine Qc (v:=?_) (by rfl) (by rfl) (fun w6 hSw=>?_) ?_;rotate_left;(·(obtain⟨y0,y1⟩:=hSw;go_simp;try with_reducible rfl)))
  |(refine Qd (v:=?_) (by rfl) (fun w6=>?_) ?_;rotate_left;(·(go_simp;try with_reducible rfl)))
  |refine Qe (by rfl) ?_);(try simp only[Act.put,pA,pB,pC]))
 refine Qn (f:=?_) (args:=?_) (fun v w'=>∃s,v=.pointer (some ⟨s,0,none⟩)/\BegS w g n add enc st.ats (w1.heap.size+1) s #[.pointer none,.pointer none,.int .i64 0,.int .i64 0,.slice none 0 0,.int .i64 0,.int .i64 0,.map (some w1.heap.size),.slice none 0 0,.bool false] w'/\ZB w3 w') (by rfl) (by rfl) (fun w6 hSw=>?_) (fun w6 hSw=>?_) (.inr (fun v6 w6 hT6=>?_)) (fun v6 hv6=>?_)
 rotate_left 2
 ·(skip;go_simp;first|done|(constructor<;>with_reducible rfl)|with_reducible rfl)
 ·(subst hSw;refine(Qg5 B g enc lim n add t a xs _ (j.out.text.below u.drew) j.out.sz).mono ?_;rintro e w' ⟨s,rfl,hs,S,l⟩;rw[j.out.ats] at hs;exact⟨_,rfl,s,rfl,⟨hs,Nat.le_trans u.size S,Qf u.drew l,hP.drew.below l⟩,QD l⟩)
 ·(obtain⟨s,-,d,-⟩:=hT6;exact A.out _ d.2.2.1)
 obtain⟨wz,s,rfl,-⟩:=hv6
 (try simp only[Act.put,pA,pB,pC])
 repeat ((first
  |(refine Qc (v:=?_) (by rfl) (by rfl) (fun w6 hSw=>?_) ?_;rotate_left;(·(obtain⟨y0,y1⟩:=hSw;go_simp;try with_reducible rfl)))
  |(refine Qd (v:=?_) (by rfl) (fun w6=>?_) ?_;rotate_left;(·(go_simp;try with_reducible rfl)))
  |refine Qe (by rfl) ?_);(try simp only[Act.put,pA,pB,pC]))
 refine Ql (fun _ w'=>BegS w g n add enc st.ats (w1.heap.size+1) s #[.pointer (some ⟨s,0,none⟩),.pointer none,.int .i64 0,.int .i64 0,.slice none 0 0,.int .i64 0,.int .i64 0,.map (some w1.heap.size),.slice none 0 0,.bool false] w'/\Fr (· = w1.heap.size+1) w3 w') (by rfl) (by rfl) (fun w6 hSw=>?_) (.inr (fun v6 w6 hT6=>?_)) (fun v6 hv6=>?_)
 ·(obtain⟨s',F,d,y⟩:=hSw;injection F with F;injection F with F;injection F with F;subst F;have y2:=d.2.2.2.frozen 0;have y3:=d.2.2.2.cell 0;go_simp;exact⟨d.set (by omega),(Fr.of_below y).set1 0 _⟩)
 ·(exact A.out _ hT6.1.2.2.1)
 skip
 (try simp only[Act.put,pA,pB,pC])
 repeat ((first
  |(refine Qc (v:=?_) (by rfl) (by rfl) (fun w6 hSw=>?_) ?_;rotate_left;(·(obtain⟨y0,y1⟩:=hSw;go_simp;try with_reducible rfl)))
  |(refine Qd (v:=?_) (by rfl) (fun w6=>?_) ?_;rotate_left;(·(go_simp;try with_reducible rfl)))
  |refine Qe (by rfl) ?_);(try simp only[Act.put,pA,pB,pC]))
 refine Ql (fun _ w'=>BegS w g n add enc st.ats (w1.heap.size+1) s #[.pointer (some ⟨s,0,none⟩),.pointer none,.int .i64 x,.int .i64 0,.slice none 0 0,.int .i64 0,.int .i64 0,.map (some w1.heap.size),.slice none 0 0,.bool false] w'/\Fr (· = w1.heap.size+1) w3 w') (by rfl) (by rfl) (fun w6 hSw=>?_) (.inr (fun v6 w6 hT6=>?_)) (fun v6 hv6=>?_)
 ·(obtain⟨d,y⟩:=hSw;have y2:=d.2.2.2.frozen 2;have y3:=d.2.2.2.cell 2;go_simp;exact⟨d.set (by omega),y.set1 2 _⟩)
 ·(exact A.out _ hT6.1.2.2.1)
 skip
 (try simp only[Act.put,pA,pB,pC])
 repeat ((first
  |(refine Qc (v:=?_) (by rfl) (by rfl) (fun w6 hSw=>?_) ?_;rotate_left;(·(obtain⟨y0,y1⟩:=hSw;go_simp;try with_reducible rfl)))
  |(refine Qd (v:=?_) (by rfl) (fun w6=>?_) ?_;rotate_left;(·(go_simp;try with_reducible rfl)))
  |refine Qe (by rfl) ?_);(try simp only[Act.put,pA,pB,pC]))
 refine Ql (fun _ w'=>BegS w g n add enc st.ats (w1.heap.size+1) s #[.pointer (some ⟨s,0,none⟩),.pointer none,.int .i64 x,.int .i64 0,.slice none 0 0,.int .i64 st.state,.int .i64 0,.map (some w1.heap.size),.slice none 0 0,.bool false] w'/\Fr (· = w1.heap.size+1) w3 w') (by rfl) (by rfl) (fun w6 hSw=>?_) (.inr (fun v6 w6 hT6=>?_)) (fun v6 hv6=>?_)
 ·(obtain⟨d,y⟩:=hSw;have y2:=d.2.2.2.frozen 5;have y3:=d.2.2.2.cell 5;go_simp;exact⟨d.set (by omega),y.set1 5 _⟩)
 ·(exact A.out _ hT6.1.2.2.1)
 skip
 (try simp only[Act.put,pA,pB,pC])
 refine Qu ?_
 rintro w4 ⟨a4,a0⟩
 obtain⟨O,b3,r,I⟩:=a4
 have C:=j.out.map.below r
 have a8:=EmptyMap.range (t:=94) C.1 Tryz.underlying94
 have b0:=EmptyMap.next C.1 0
 have c4:=(HC.out _ r).2.2.2
 simp at c4
 have l:ZB w (w4.alloc (.mapIter (some m) 0 #[] 0)):=Qa r
 have a1:MapE w4 st.mb w1.heap.size:=a3.out.fr a0 (fun e=>by omega)
 have Z:=Zh O
 have Y:=Zh I
 have b5:w1.heap.size+1<w4.heap.size:=I.lt
 clear O I hv6 a0 u hP
 have c:=j.out.blk.below l
 have z6:=c.cell 6
 have b4:=c.frozen 6
 simp at z6
 go_wp2_with fail
 refine wp_loop_rounds 1 ?_
 rw[rounds_succ]
 go_wp2_with fail
 go_ret
 have a7:w4.ownsRow B 5 1 add n xs:=QN j.out.text.row r
 have E:=j.out.text.below r
 have hF:Fr (· = q) (w4.alloc (.mapIter (some m) 0 #[] 0)) ((w4.alloc (.mapIter (some m) 0 #[] 0)).setCell ⟨q,6,none⟩ (.pointer (some ⟨w1.heap.size+1,0,none⟩))):=(Fr.refl _ _).set1 6 _
 have J:Fr (· = q) w ((w4.alloc (.mapIter (some m) 0 #[] 0)).setCell ⟨q,6,none⟩ (.pointer (some ⟨w1.heap.size+1,0,none⟩))):=(Fr.of_below l).set1 6 _
 have R:GKeep N add add n n enc w (w4.alloc (.mapIter (some m) 0 #[] 0)):=GKeep.below j.out.text.row j.out.text.blk l
 have G : ∀M,GKeep M add add n n enc (w4.alloc (.mapIter (some m) 0 #[] 0)) ((w4.alloc (.mapIter (some m) 0 #[] 0)).setCell ⟨q,6,none⟩ (.pointer (some ⟨w1.heap.size+1,0,none⟩))):=fun M=>GKeep.far hF (fun k _ hk=>hk▸Far2.blk c (by decide))
 have K:((w4.alloc (.mapIter (some m) 0 #[] 0)).setCell ⟨q,6,none⟩ (.pointer (some ⟨w1.heap.size+1,0,none⟩))).heap.size=w4.heap.size+1:=by simp[World.setCell]
 have a9:=j.out.nle
 have b2:=r.size
 have D : ∀v' k ys,w.ownsRow B 177 1 v' k ys->((w4.alloc (.mapIter (some m) 0 #[] 0)).setCell ⟨q,6,none⟩ (.pointer (some ⟨w1.heap.size+1,0,none⟩))).ownsRow B 177 1 v' k ys:=fun v' k ys ho=>
  QaD (QN ho l) hF (fun b cs d hc=>Blk.ne_ hc c (by decide) d)
 have a2:Blk ((w4.alloc (.mapIter (some m) 0 #[] 0)).setCell ⟨q,6,none⟩ (.pointer (some ⟨w1.heap.size+1,0,none⟩))) (w1.heap.size+1) 196 _:=(Y.out.alloc _).far (Blk.ne_ (Y.out.alloc _) c (by decide)) _
 refine⟨rfl,some ⟨w1.heap.size+1,0,none⟩,⟨(c.set_ 6 _).eq_ rfl,(j.out.text.below l).far hF (fun k _ hk=>hk▸Far.blk c (by decide)),j.out.ats,j.out.sz,j.out.lim0,(C.alloc _).far (fun e=>(C.alloc _).ne_blk c e) _,j.out.undo.keep (R.trans (G _)) (by omega) (D _),j.out.redo.keep (R.trans (G _)) (by omega) (D _),j.out.sep,?_,Nat.le_refl _,j.out.nums,⟨j.out.low.1,j.out.low.2.1,?_,fun p hp=>?_⟩⟩,J⟩
 have T:SnapB (w4.alloc (.mapIter (some m) 0 #[] 0)) (w4.heap.size+1) g add n enc s st.ats:=by
  have h1:=Z.out.below E.row E.blk (Qa (Below.refl _ _) (o:=.mapIter (some m) 0 #[] 0))
  refine⟨?_,h1⟩
  obtain⟨t',a',a5,-⟩:=Z.out
  exact Nat.lt_succ_of_lt a5.lt
 refine⟨w1.heap.size+1,rfl,s,w1.heap.size,.slice none 0 0,[],a2,(a1.alloc _).far (fun e=>(a1.alloc _).ne_blk c e) _,?_,World.ownsRow_nil _ _ _ _,⟨rfl,fun i v mv hv=>by simp at hv⟩,by simp⟩
 ·rw[K]
  exact T.keep (G _)
 ·rw[K]
  have:=j.out.text.base
  omega
 ·injection hp with hp
  injection hp with hp
  have:=j.out.text.base
  have:=z.size
  omega
theorem Qit {w:World}{g n B size:Nat}{e:TypeId}{xs:List Value}(h:w.ownsRow B e size (.slice (some ⟨g,0,none⟩) n n) n xs):Blk w g e xs.toArray:=by
 rcases h.2 with ⟨b,_⟩|⟨i,cap,cur,a,_,c,_,_,d,f⟩
 ·cases b
 ·injection a with a e1' e1''
  injection a with a
  injection a with a
  subst a
  subst e1''
  have:cur=xs.toArray:=by
   rw[<-f,<-d,<-Array.length_toList,List.take_length]
  rw[<-this]
  exact c
theorem Qoi {enc:Int}(a:enc=1\/enc=2\/enc=3\/enc=4) : ∀{ps:List Pc},(∀p ∈ ps,PcOk enc p)->QC enc ps=Qat enc ((QC enc ps).map Prod.fst):=by
 intro ps
 induction ps with
 |nil=>intro _;rfl
 |cons p ps ih=>
  intro h
  have h1:=ih (fun q b=>h q (List.mem_cons_of_mem _ b))
  have h2:=QhV enc a p.bytes.length p.bytes (Nat.le_refl _) (h p List.mem_cons_self).byt
  rw[QS,List.map_append]
  unfold Qat at h1 h2 ⊢
  rw[List.map_append,<-h1,<-h2]
def Qb (enc:Int)(ats:List (Int × Int)):List (Int × Int):=Qat enc (ats.map Prod.fst)
theorem QfM {enc:Int}(a:enc=1\/enc=2\/enc=3\/enc=4){ps:List Pc}(h : ∀p ∈ ps,PcOk enc p):QC enc ps=Qb enc (QaM enc ps):=by
 unfold Qb
 rw[Qhj]
 exact Qoi a h
def QiD (e:Ed):Mv:=⟨e.f,e.t,(e.n:Int)⟩
def chg (e:Ed):Bool:=decide (e.f<e.t) || decide (0<e.n)
theorem Qlz (l:List Mv):(Qck l).length=l.length*3:=by
 unfold Qck
 induction l with
 |nil=>rfl
 |cons p ps ih=>rw[List.flatMap_cons,List.length_append,ih];simp[Mv.cells];omega
theorem Ql0 (b:Array Value)(j:Nat)(x y z:Value)(h:j*3+3<=b.size):(((b.setIfInBounds (j*3) x).setIfInBounds (j*3+1) y).setIfInBounds (j*3+2) z).toList.take ((j+1)*3)=b.toList.take (j*3)++[x,y,z]:=by
 apply List.ext_getElem?
 intro i
 rw[List.getElem?_take]
 by_cases h1:i<j*3
 ·rw[if_pos (by omega),List.getElem?_append_left (by simp;omega),List.getElem?_take,if_pos h1]
  simp only[Array.toList_setIfInBounds]
  rw[List.getElem?_set_ne (by omega),List.getElem?_set_ne (by omega),List.getElem?_set_ne (by omega)]
 ·have c:(b.toList.take (j*3)).length=j*3:=by simp;omega
  rw[List.getElem?_append_right (by omega),c]
  by_cases h2:i<(j+1)*3
  ·rw[if_pos h2]
   simp only[Array.toList_setIfInBounds]
   obtain a|a|a:i=j*3\/i=j*3+1\/i=j*3+2:=by omega
   ·subst a
    rw[List.getElem?_set_ne (by omega),List.getElem?_set_ne (by omega),List.getElem?_set_self (by simp;omega)]
    simp
   ·subst a
    rw[List.getElem?_set_ne (by omega),List.getElem?_set_self (by simp;omega)]
    simp
   ·subst a
    rw[List.getElem?_set_self (by simp;omega)]
    simp
  ·rw[if_neg h2]
   rw[List.getElem?_eq_none (by simp;omega)]
def opC (s m:Nat)(vm:Value)(o:OpS)(ch:Bool):Array Value := #[.pointer (some ⟨s,0,none⟩),.pointer none,.int .i64 o.bgn,.int .i64 0,vm,.int .i64 o.old,.int .i64 0,.map (some m),.slice none 0 0,.bool ch]
def Qq5 (d:World)(b p s m:Nat)(vm:Value)(o:OpS)(es:List Ed)(k:Nat)(c:Value)(wr:World):Prop:=
 ∃(j:Nat) (a:Array Value),c=.int .i64 (j:Int)/\Blk wr b 207 a/\a.size=es.length*3/\Hid (a.toList.take (j*3)=Qck ((es.take j).map QiD))/\Blk wr p 196 (opC s m vm o (o.changed || (es.take j).any chg))/\Fr (fun x=>x=b\/x=p) d wr/\j<=es.length/\es.length-j<=k
theorem Qhw:(Tryz.prog.info? 207).map (fun i=>(i.zero,i.size,i.bytes))=some (some (.agg #[.int .i64 0,.int .i64 0,.int .i64 0]),3,24):=by kernel_rfl
theorem QlQ:(Tryz.prog.info? 184).map (fun i=>(i.zero,i.size,i.bytes))=some (some (.slice none 0 0),1,24):=by kernel_rfl
def Qkh (N B f g:Nat)(enc lim:Int)(n:Nat)(add:Value)(st:BkS)(o:OpS)(m:Nat)(vu vr:Value)(now:Option Addr)(es:List Ed)(w w':World):Prop:=
 ∃c a e d b,BkAt w' N B f g enc lim c a { st with ats:=edA es st.ats,now:=some { o with moves:=o.moves++[es.map QiD],changed:=o.changed || es.any chg } } e d b m vu vr now/\c<=n+131072/\BkFr B w w'
theorem TStep.other {g n h B:Nat}{add a:Value}{xs:List Value}{w w':World}{csT:Array Value}(j:TStep g add a n h w w')(f:w.ownsRow B 5 1 add n xs)(e:Blk w g 104 csT) : ∀{T:TypeId} {i:Array Value} {b:Nat},Blk w b T i->T≠104->T≠5->¬(b=g\/add.ownBlock=some b):=fun d h1 h2 c=>by
 rcases c with rfl|c
 ·exact Blk.ne_ d e h1 rfl
 ·exact Qk f d (Ne.symm h2) c
theorem TStep.map {g n f B mb m:Nat}{add a:Value}{xs:List Value}{w w':World}{csT:Array Value}(i:TStep g add a n f w w')(e:w.ownsRow B 5 1 add n xs)(d:Blk w g 104 csT)(h:MapE w mb m):MapE w' mb m:=
 h.fr i.fr (fun b=>by
  rcases b with rfl|b
  ·exact h.ne_blk d rfl
  ·rcases e.2 with ⟨rfl,_⟩|⟨r,c,cur,rfl,_,h2,_⟩
   ·cases b
   ·have:r=m:=by simpa[Value.ownBlock] using b
    subst this
    exact h.ne_blk h2 rfl)
theorem BkAt.changed {w w1 w7:World}{N B gb g n n1 m p s m2 b k:Nat}{enc lim:Int}{add j vm u vu vr:Value}{st:BkS}{o:OpS}{t O:Tr}{a a1:Option Addr}{xs L vs:List Value}{es:List Ed}{W:Array Value}{ch:Bool}
  (h:BkAt w N B gb g enc lim n add st t a xs m vu vr (some ⟨p,0,none⟩)) (M:Blk w p 196 (opC s m2 vm o o.changed)) (V:MapE w st.mb m2) (U:SnapB w N g add n enc s o.before) (S:w.ownsRow N 184 1 vm vs.length vs) (a4:MvRows w w.heap.size vs o.moves) (a7:o.moves.length<1048576)
  (a3:TextM w1 B g enc lim n1 j O a1 L) (d:TStep g add j n n1 w w1) (a2:szS (QC enc O.list)<=65536) (a0:QaM enc O.list=edA es st.ats)
  (F:Fr (fun x=>x=p\/OwnB vm x) w1 w7) (a6:Blk w7 p 196 (opC s m2 u o ch)) (hu:w7.ownsRow N 184 1 u (vs.length+1) (vs++[.slice (some ⟨b,0,none⟩) k k]))
  (H:Blk w7 b 207 W) (a5:W.toList=Qck (es.map QiD)) (P:es.length=k) :
  BkAt w7 N B gb g enc lim n1 j { st with ats:=edA es st.ats,now:=some { o with moves:=o.moves++[es.map QiD],changed:=ch } } O a1 L m vu vr (some ⟨p,0,none⟩):=by
 have nown := @TStep.other g n n1 B add j xs w w1 _ d h.text.row h.text.blk
 have Z:=M.fr d.fr (nown M (by decide) (by decide))
 have J:w1.ownsRow N 184 1 vm vs.length vs:=QaD S d.fr (fun b e y f=>nown f (by decide) (by decide) y)
 have C:=h.blk.fr d.fr (nown h.blk (by decide) (by decide))
 have typed : ∀x,(x=p\/OwnB vm x)->(∃e,Blk w1 x 196 e)\/(∃e,Blk w1 x 184 e/\N<=x):=fun x q=>by
  rcases q with rfl|q
  ·exact .inl ⟨_,Z⟩
  ·rcases J.2 with ⟨e0,_⟩|⟨r,c,cur,e0,h1,h2,_⟩
   ·unfold OwnB at q
    rw[e0] at q
    cases q
   ·unfold OwnB at q
    rw[e0] at q
    have:r=x:=by simpa[Value.ownBlock] using q
    subst this
    exact .inr ⟨cur,h2,h1⟩
 have notT : ∀{T:TypeId} {e:Array Value} {x:Nat},Blk w1 x T e->T≠196->T≠184->¬(x=p\/OwnB vm x):=fun hb h1 h2 q=>by
  rcases typed _ q with ⟨c1,f⟩|⟨c1,f,_⟩
  ·exact Blk.ne_ hb f h1 rfl
  ·exact Blk.ne_ hb f h2 rfl
 have A : ∀x,x<w1.heap.size->(x=p\/OwnB vm x)->Far2 w1 N x:=fun x _ q=>by
  rcases typed _ q with ⟨c1,f⟩|⟨c1,f,hN⟩
  ·exact Far2.blk f (by decide)
  ·exact Far2.new f (by decide) hN
 have D : ∀ {r : Nat}, MapE w1 st.mb r -> MapE w7 st.mb r := fun {r} hr => hr.fr F (fun q=>by
  rcases typed _ q with ⟨c1,f⟩|⟨c1,f,_⟩
  ·exact hr.ne_blk f rfl
  ·exact hr.ne_blk f rfl)
 have hK:GKeep N add j n n1 enc w w7:=(GKeep.step d h.text.row h.text.blk).trans (GKeep.far F A)
 have E : ∀v' Y ys,w.ownsRow B 177 1 v' Y ys->w7.ownsRow B 177 1 v' Y ys:=fun v' Y ys ho=>
  QaD (QaD ho d.fr (fun b e y f=>nown f (by decide) (by decide) y)) F (fun b e y f=>notT f (by decide) (by decide) y)
 have R:KeepTy w.heap.size 207 w w7:=(GKeep.step (N:=w.heap.size) (enc:=enc) d h.text.row h.text.blk).mvs.trans (KeepTy.fr F (fun b e _ y f=>notT f (by decide) (by decide) y))
 have G:w.heap.size<=w7.heap.size:=Nat.le_trans d.fr.size F.size
 refine⟨C.fr F (notT C (by decide) (by decide)),a3.far F (fun k P y=>(A k P y).1),a0,a2,h.lim0,D (d.map h.text.row h.text.blk h.map),h.undo.keep hK (Nat.le_refl _) (E _),h.redo.keep hK (Nat.le_refl _) (E _),h.sep,?_,Nat.le_trans h.nle G,h.nums,h.low⟩
 refine⟨p,rfl,s,m2,u,vs++[.slice (some ⟨b,0,none⟩) k k],a6,D (d.map h.text.row h.text.blk V),U.keep hK,by rw[List.length_append];exact hu,?_,by simp only[List.length_append,List.length_singleton];omega⟩
 have l:=(a4.keep R).mono G
 refine⟨by simp[l.1],fun i v mv z hm=>?_⟩
 rcases Nat.lt_or_ge i vs.length with K|I
 ·rw[List.getElem?_append_left K] at z
  rw[List.getElem?_append_left (by rw[<-l.1];exact K)] at hm
  exact l.2 i v mv z hm
 ·rw[List.getElem?_append_right I] at z
  rw[List.getElem?_append_right (by rw[<-l.1];exact I),<-l.1] at hm
  have Q:i-vs.length=0:=by
   rcases Nat.eq_zero_or_pos (i-vs.length) with h0|h0
   ·exact h0
   ·rw[List.getElem?_eq_none (by simp;omega)] at z
    cases z
  rw[Q] at z hm
  simp at z hm
  subst z
  subst hm
  refine⟨_,k,k,rfl,Nat.le_refl _,⟨by rw[Qlz,List.length_map,P],fun _=>⟨b,0,W,rfl,H.lt,H,fun j' u' X=>?_⟩⟩,by rw[List.length_map,P]⟩
  rw[Nat.zero_add,<-Array.getElem?_toList,a5]
  exact X
theorem QfO (N B gb g:Nat)(enc lim:Int)(n:Nat)(add:Value)(st:BkS)(t:Tr)(a:Option Addr)(xs:List Value)(m:Nat)(vu vr:Value)(now:Option Addr)(o:OpS)(D:Nat->Prop)(A:Option Addr)(k c:Nat)(es:List Ed)(w:World)
    (h:BkAt w N B gb g enc lim n add st t a xs m vu vr now) (hn:st.now=some o) (he:EdsAt w D A k es) (hD : ∀b,D b->b≠g/\add.ownBlock≠some b/\now≠some ⟨b,0,none⟩) (hp:Qf0 es<=268435456) (k0:n+131072<=1073741824) (k7:o.moves.length<1048576) :
    Calls Tryz.prog 99 #[.pointer (some ⟨gb,0,none⟩),.slice A k c] w fun e w'=>e=.returned (.int .i64 (QbN enc lim (Qb enc st.ats) es))/\(QbN enc lim (Qb enc st.ats) es≠0->ZB w w') /\
      (QbN enc lim (Qb enc st.ats) es=0->Qkh N B gb g enc lim n add st o m vu vr now es w w'):=by
  have P:=h.open_
  rw[hn] at P
  obtain⟨p,rfl,P⟩:=P
  have O:QC enc t.list=Qb enc st.ats:=by rw[QfM h.text.enc4 h.text.tree.pcs.ok,h.ats]
  have hK:=QkB B g enc lim n add t a xs D A k c es w h.text he (fun b C=>⟨(hD b C).1,(hD b C).2.1⟩) hp h.lim0 h.sz k0
  rw[O,h.ats] at hK
  have c6:=h.blk.cell 6
  have c0:=h.blk.cell 0
  simp at c6 c0
  by_cases hz:QbN enc lim (Qb enc st.ats) es=0
  · rw[hz] at hK ⊢
    obtain⟨D',d5⟩:∃D':Nat->Prop,D'=fun b=>D b/\b<w.heap.size:=⟨_,rfl⟩
    have d1:EdsAt w D' A k es:=he.more (fun b h1 h2=>by rw[d5];exact⟨h1,h2⟩)
    have b1 : ∀b,D' b->b≠g/\add.ownBlock≠some b/\b≠p/\b<w.heap.size:=fun b C=>by
      rw[d5] at C
      exact⟨(hD b C.1).1,(hD b C.1).2.1,fun e=>(hD b C.1).2.2 (by rw[e]),C.2⟩
    clear d5 hD he
    have l3:=d1.len
    have l7:es.length<=70000:=(QiL (by rw[<-O];exact Qai enc _) hz h.lim0 (by rw[<-O];exact h.sz)).1
    have b9:szS (edD enc es (Qb enc st.ats))<=65536:=by
      have:=(QiL (by rw[<-O];exact Qai enc _) hz h.lim0 (by rw[<-O];exact h.sz)).2.2.2.2
      have:=h.lim0
      omega
    have HK:=Zh hK
    have H:=Zh h
    have HE:=Zh d1
    have h9:=Zh P
    have i5:=Zh b9
    clear hK h d1 P hz O b9
    go_enter Tryz.func99,Tryz.ntmps99
    go_wp2_with fail
    refine(HK.out).mono ?_
    rintro e w1 ⟨rfl,-,f7⟩
    obtain⟨d9,n1,k5,⟨t1,a1,h6,L,g8,g1⟩,l1⟩:=f7 (by first|rfl|trivial)
    clear f7
    have c8:=fun M=>GKeep.step (N:=M) (enc:=enc) L H.out.text.row H.out.text.blk
    have nown : ∀{T:TypeId} {Q:Array Value} {b:Nat},Blk w b T Q->T≠104->T≠5->¬(b=g\/add.ownBlock=some b):=fun C h1 h2 d=>by
      rcases d with rfl|d
      · exact Blk.ne_ C H.out.text.blk h1 rfl
      · exact Qk H.out.text.row C (Ne.symm h2) d
    have y:=H.out.blk.fr L.fr (nown H.out.blk (by decide) (by decide))
    obtain⟨s,m2,vm,vs,b5,f4,e2,c9,d6,l4⟩:=h9.out
    have K:=b5.fr L.fr (nown b5 (by decide) (by decide))
    have h3:=HE.out.fr L.fr (fun b C _ d=>d.elim (fun e=>(b1 b C).1 e) (fun e=>(b1 b C).2.1 e))
    obtain⟨im,h4,d8,e6,e8⟩:=info_parts Qhw
    have m0:=Zh c8
    have i9:=Zh h6
    have a6:=Zh L
    have j8:=Zh g8
    have k4:=Zh g1
    have j9:=Zh h3
    have m1:=L.fr.size
    clear c8 h6 L g8 g1 h3 c6 c0
    go_wp2_with (at_make;refine wpList_make_full _ rfl _ _ 184 rfl w1.heap.size 207 im (.agg #[.int .i64 0,.int .i64 0,.int .i64 0]) 3 Tryz.underlying184 h4 d8 e6 _ _ _ _ k rfl rfl rfl rfl (by rw[e8];omega) (by unfold maxLen;omega) (Nat.le_refl _) ?_)
    intro w2 e7 f3
    obtain⟨a8,j2,W⟩:∃a8:Array Value,a8.size=es.length*3/\Blk w2 w1.heap.size 207 a8:=⟨_,by simp[size_madeCells];omega,Qit e7⟩
    have l:ZB w1 w2:=Qcu f3
    have i8:w1.heap.size<w2.heap.size:=W.lt
    clear e7 f3 h4 d8 e6 e8
    go_wp2_with fail
    go_loopg [28] es.length (fun k i2 wr=>Qq5 w2 w1.heap.size p s m2 vm o es k i2 wr)
    case atStart=>exact⟨0,a8,rfl,W,j2,Zh (by simp[Qck]),by
        have:=K.below l
        simpa[opC] using this,Fr.refl _ _,by omega,by omega⟩
    case round=>
      obtain⟨j,Q,rfl,hB,d7,b2,hP,hF,hj,c8⟩:=hrel
      obtain⟨w3,i6⟩:∃x,x=wr:=⟨_,rfl⟩
      subst i6
      by_cases hlt:j<k
      · have d3:EdsAt w3 D' A k es:=(j9.out.below l).fr hF (fun b C _ d=>d.elim (fun e=>by have:=(b1 b C).2.2.2;omega) (fun e=>(b1 b C).2.2.1 e))
        obtain⟨eb,eo,ed,rfl,a7,m4,z0,z1,z2⟩:=d3.at_ hlt
        have e3:=QdZ es j ed a7
        have g0:=(d3.put ed (List.mem_of_getElem? a7)).len
        have I:=Blk.new w3 89 #[.int .i64 ed.f,.int .i64 ed.t,.slice ed.A ed.n ed.c]
        have z:=hB.alloc (.cells #[.int .i64 ed.f,.int .i64 ed.t,.slice ed.A ed.n ed.c] 89)
        have b3:=hP.alloc (.cells #[.int .i64 ed.f,.int .i64 ed.t,.slice ed.A ed.n ed.c] 89)
        have l8:=hB.lt
        have m6:=hP.lt
        have b0:w1.heap.size≠p:=Blk.ne_ hB hP (by decide)
        obtain⟨ef,et,eA,en,ec,eput⟩:=ed
        dsimp only at z0 z1 z2 g0 I z b3
        have m3:=Zh a7
        have f5:=Zh e3
        clear a7 e3 d3
        go_upto_region 10 with fail
        obtain⟨w4,a5⟩:=ZN (w3.alloc (.cells #[.int .i64 ef,.int .i64 et,.slice eA en ec] 89))
        rw[a5] at I z b3 ⊢
        have h0:Fr (fun x=>x=w1.heap.size\/x=p) w2 w4:=by rw[<-a5];exact hF.alloc _
        have l5:w4.heap.size=w3.heap.size+1:=by rw[<-a5];simp
        clear a5
        obtain⟨u0,h8⟩:∃u,Q[j*3]? = some u:=⟨Q[j*3]'(by omega),Array.getElem?_eq_getElem (by omega)⟩
        obtain⟨u1,h5⟩:∃u,Q[j*3+1]? = some u:=⟨Q[j*3+1]'(by omega),Array.getElem?_eq_getElem (by omega)⟩
        obtain⟨u2,e5⟩:∃u,Q[j*3+2]? = some u:=⟨Q[j*3+2]'(by omega),Array.getElem?_eq_getElem (by omega)⟩
        have r0:=z.cell (j*3)
        have r1:=z.cell (j*3+1)
        have r2:=z.cell (j*3+2)
        rw[h8] at r0
        rw[h5] at r1
        rw[e5] at r2
        have f0:=z.frozen (j*3)
        have f1:=z.frozen (j*3+1)
        have f2:=z.frozen (j*3+2)
        have x0:=I.cell 0
        have x1:=I.cell 1
        have x2:=I.cell 2
        simp at x0 x1 x2
        clear h8 h5 e5 z0 z1 z2
        go_upto_region 11 with fail
        have d0:=((z.set_ (j*3) (.int .i64 ef)).set_ (j*3+1) (.int .i64 et)).set_ (j*3+2) (.int .i64 en)
        have V:=((b3.far (p:=⟨w1.heap.size,j*3,none⟩) (Ne.symm b0) (.int .i64 ef)).far (p:=⟨w1.heap.size,j*3+1,none⟩) (Ne.symm b0) (.int .i64 et)).far (p:=⟨w1.heap.size,j*3+2,none⟩) (Ne.symm b0) (.int .i64 en)
        have R:=((I.far (p:=⟨w1.heap.size,j*3,none⟩) (by dsimp only;omega) (.int .i64 ef)).far (p:=⟨w1.heap.size,j*3+1,none⟩) (by dsimp only;omega) (.int .i64 et)).far (p:=⟨w1.heap.size,j*3+2,none⟩) (by dsimp only;omega) (.int .i64 en)
        have b4:=((h0.setCell (p:=⟨w1.heap.size,j*3,none⟩) (.inl (.inl rfl)) (.int .i64 ef)).setCell (p:=⟨w1.heap.size,j*3+1,none⟩) (.inl (.inl rfl)) (.int .i64 et)).setCell (p:=⟨w1.heap.size,j*3+2,none⟩) (.inl (.inl rfl)) (.int .i64 en)
        have b8:(((Q.setIfInBounds (j*3) (.int .i64 ef)).setIfInBounds (j*3+1) (.int .i64 et)).setIfInBounds (j*3+2) (.int .i64 en)).toList.take ((j+1)*3)=Qck ((es.take (j+1)).map QiD):=by
          rw[Ql0 Q j _ _ _ (by omega),b2.out,f5.out,List.map_append]
          unfold Qck
          rw[List.flatMap_append]
          rfl
        have g7:(((Q.setIfInBounds (j*3) (.int .i64 ef)).setIfInBounds (j*3+1) (.int .i64 et)).setIfInBounds (j*3+2) (.int .i64 en)).size=es.length*3:=by simp[d7]
        have c2:(o.changed || (es.take (j+1)).any chg)=((o.changed || (es.take j).any chg) || chg ⟨ef,et,eA,en,ec,eput⟩):=by
          rw[f5.out,List.any_append]
          simp[Bool.or_assoc]
        obtain⟨w5,g3⟩:=ZN (((w4.setCell ⟨w1.heap.size,j*3,none⟩ (.int .i64 ef)).setCell ⟨w1.heap.size,j*3+1,none⟩ (.int .i64 et)).setCell ⟨w1.heap.size,j*3+2,none⟩ (.int .i64 en))
        rw[g3] at d0 V R b4 ⊢
        have e4 := (y.below l).fr b4 (fun d=>by
          rcases d with h1|h1
          · have:=y.lt;omega
          · exact Blk.ne_ (y.below l) (K.below l) (by decide) h1)
        have j7:=R.cell 0
        have j3:=R.cell 1
        have j0:=R.cell 2
        have g6:=e4.cell 6
        have p9:=V.cell 9
        have l9:=V.frozen 9
        simp[opC] at j7 j3 j0 g6 p9
        have e1:=Zh d0
        have f8:=Zh V
        have e9:=Zh b4
        have b7:=Zh b8
        have f6:=Zh g7
        have c5:=Zh c2
        clear d0 V R b4 b8 g7 c2 g3 z b3 I r0 r1 r2 f0 f1 f2 x0 x1 x2 hB hP hF h0 b2 d7
        have S:chg ⟨ef,et,eA,en,ec,eput⟩=true->Qq5 w2 w1.heap.size p s m2 vm o es (es.length-(j+1)) (.int .i64 ((j+1:Nat):Int)) (w5.setCell ⟨p,9,none⟩ (.bool true)):=by
          intro hc
          refine⟨j+1,_,rfl,e1.out.far (p:=⟨p,9,none⟩) b0 _,f6.out,Zh b7.out,(f8.out.set_ 9 _).eq_ ?_,e9.out.setCell (p:=⟨p,9,none⟩) (.inl (.inr rfl)) _,by omega,by omega⟩
          rw[c5.out,hc]
          simp[opC]
        have Z:chg ⟨ef,et,eA,en,ec,eput⟩=false->Qq5 w2 w1.heap.size p s m2 vm o es (es.length-(j+1)) (.int .i64 ((j+1:Nat):Int)) w5:=by
          intro hc
          refine⟨j+1,_,rfl,e1.out,f6.out,Zh b7.out,f8.out.eq_ ?_,e9.out,by omega,by omega⟩
          rw[c5.out,hc,Bool.or_false]
        have J:=Zh S
        have a0:=Zh Z
        clear S Z
        have ej:((j+1:Nat):Int)=(j:Int)+1:=by omega
        rw[ej] at J a0
        by_cases hc1:ef<et
        · have q1:(ef<et)=True:=eq_true hc1
          have HC:=Zh (J.out (by unfold chg;simp[hc1]))
          clear hc1
          go_wp2_with fail
          go_roundg (es.length-(j+1))
          case measure=>omega
          case rel=>exact HC.out
        · have q1:(ef<et)=False:=eq_false hc1
          by_cases hc2:0<en
          · have q2:((0:Int)<(en:Int))=True:=by simp;omega
            have q3:(0<en)=True:=by simp;omega
            have HC:=Zh (J.out (by unfold chg;simp[hc2]))
            clear hc1 hc2
            go_wp2_with fail
            go_roundg (es.length-(j+1))
            case measure=>omega
            case rel=>exact HC.out
          · have q2:((0:Int)<(en:Int))=False:=by simp;omega
            have q3:(0<en)=False:=by simp;omega
            have HC:=Zh (a0.out (by unfold chg;simp[hc1,hc2]))
            clear hc1 hc2
            go_wp2_with fail
            go_roundg (es.length-(j+1))
            case measure=>omega
            case rel=>exact HC.out
      · have l2:j=es.length:=by omega
        subst l2
        have a4:=b2.out
        rw[List.take_of_length_le (by rw[Array.length_toList];omega),List.take_length] at a4
        rw[List.take_length] at hP
        have U := (y.below l).fr hF (fun d=>by
          rcases d with h1|h1
          · have:=y.lt;omega
          · exact Blk.ne_ (y.below l) (K.below l) (by decide) h1)
        have X:w1.ownsRow N 184 1 vm vs.length vs:=QaD c9 a6.out.fr (fun b i1 d hc=>nown hc (by decide) (by decide) d)
        have q : w3.ownsRow N 184 1 vm vs.length vs := QaD (QN X l) hF (fun b i1 d hc=>by
          rcases d with h1|h1
          · exact Blk.ne_ hc W (by decide) h1
          · exact Blk.ne_ hc (K.below l) (by decide) h1)
        obtain⟨Av,cv,rfl,l6⟩:=Qj q
        have m5:N<=w3.heap.size:=by have:=H.out.nle;have:=l.size;have:=hF.size;omega
        have a9 : ∀w',Fr (OwnB (.slice Av vs.length cv)) w3 w'->Blk w' gb 97 #[.pointer (some ⟨g,0,none⟩),.int .i64 st.depth,vu,vr,.map (some m),.slice none 0 0,.pointer (some ⟨p,0,none⟩),.int .i64 st.state,.int .i64 st.saved,.int .i64 st.last]/\Blk w' p 196 (opC s m2 (.slice Av vs.length cv) o (o.changed || es.any chg))/\Blk w' w1.heap.size 207 Q:=fun w' hf=>
          ⟨U.fr hf (Qk q U (by decide)),hP.fr hf (Qk q hP (by decide)),hB.fr hf (Qk q hB (by decide))⟩
        have m7:vs.length<=1048576:=by have:=d6.1;omega
        have c3:=a6.out.fr
        have b6 : ∀wq w7 u,Fr (OwnB (.slice Av vs.length cv)) w3 wq->wq.ownsRow N 184 1 u (vs.length+1) (vs++[.slice (some ⟨w1.heap.size,0,none⟩) k k])->Below (wq.setCell ⟨p,4,none⟩ u).heap.size (wq.setCell ⟨p,4,none⟩ u) w7 ->
            Qkh N B gb g enc lim n add st o m vu vr (some ⟨p,0,none⟩) es w w7:=by
          intro wq w7 u F hu hb7
          obtain⟨k1,k2,k3⟩:=a9 wq F
          have c4:Fr (fun x=>x=p\/OwnB (.slice Av vs.length cv) x) w1 w7:=by
            have a1:Fr (fun x=>x=p\/OwnB (.slice Av vs.length cv) x) w1 w2:=Fr.of_below l
            have a2 := a1.call hF (fun i hi d=>by
              rcases d with h1|h1
              · omega
              · exact .inl h1)
            have a3:=a2.call F (fun i hi d=>.inr d)
            exact(a3.setCell (p:=⟨p,4,none⟩) (.inl (.inl rfl)) u).bel hb7
          have i7:=((k2.set_ 4 u).below hb7).eq_ (show (opC s m2 (.slice Av vs.length cv) o (o.changed || es.any chg)).setIfInBounds 4 u=opC s m2 u o (o.changed || es.any chg) by simp[opC])
          have j6:=QN (Qt (i:=4) (u:=u) hu k2 (by decide)) hb7
          have i0:=(k3.far (p:=⟨p,4,none⟩) (Blk.ne_ k3 k2 (by decide)) u).below hb7
          refine⟨n1,d9,t1,a1,k5,H.out.changed (ch:=o.changed || es.any chg) (by simpa[opC] using b5) f4 e2 c9 d6 k7 i9.out a6.out (by rw[j8.out];exact i5.out) k4.out c4 i7 j6 i0 a4 l3,l1,?_⟩
          refine(BkFr.of_fr c3 (fun b C d=>?_)).trans (BkFr.of_fr c4 (fun b C d=>?_))
          · rcases d with rfl|d
            · exact⟨H.out.low.2.1,_,_,H.out.text.blk,.inl rfl⟩
            · rcases H.out.text.row.2 with ⟨Y,_⟩|⟨r,c',cur,Y,d4,h2,_⟩
              · rw[Y] at d;cases d
              · rw[Y] at d
                have:r=b:=by simpa[Value.ownBlock] using d
                subst this
                exact⟨d4,_,_,h2,.inr (.inl rfl)⟩
          · rcases d with rfl|d
            · exact⟨H.out.low.2.2.2 _ rfl,_,_,K,.inr (.inr (.inr (.inl rfl)))⟩
            · rcases X.2 with ⟨Y,_⟩|⟨r,c',cur,Y,d4,h2,_⟩
              · unfold OwnB at d;rw[Y] at d;cases d
              · unfold OwnB at d
                rw[Y] at d
                have:r=b:=by simpa[Value.ownBlock] using d
                subst this
                exact⟨Nat.le_trans H.out.low.2.2.1 d4,_,_,h2,.inr (.inr (.inr (.inr (.inl rfl))))⟩
        have c1 : ∀wq u,Fr (OwnB (.slice Av vs.length cv)) w3 wq->Calls Tryz.prog 111 #[.pointer (some ⟨gb,0,none⟩),.slice (some ⟨w1.heap.size,0,none⟩) k k] (wq.setCell ⟨p,4,none⟩ u) fun e w'=>e=.returned (.tuple #[])/\Below (wq.setCell ⟨p,4,none⟩ u).heap.size (wq.setCell ⟨p,4,none⟩ u) w':=by
          intro wq u F
          obtain⟨k1,k2,k3⟩:=a9 wq F
          have d2:=a6.out.map H.out.text.row H.out.text.blk H.out.map
          have f9 : MapE w3 st.mb m := (d2.below l).fr hF (fun d=>by
            rcases d with h1|h1
            · exact(d2.below l).ne_blk W h1
            · exact(d2.below l).ne_blk (K.below l) h1)
          have h7 : MapE wq st.mb m := f9.fr F (fun d=>by
            rcases q.2 with ⟨Y,_⟩|⟨r,c',cur,Y,_,h2,_⟩
            · unfold OwnB at d;rw[Y] at d;cases d
            · unfold OwnB at d
              rw[Y] at d
              have:r=m:=by simpa[Value.ownBlock] using d
              subst this
              exact f9.ne_blk h2 rfl)
          exact Qfq _ gb m _ _ (k1.far (p:=⟨p,4,none⟩) (Blk.ne_ k1 k2 (by decide)) u) rfl rfl (h7.far (fun e=>h7.ne_blk k2 e) u).1
        have G:=Zh a9
        have g9:=Zh b6
        have g2:=Zh c1
        have k6:=Zh q
        obtain⟨ir,k8,l0,i4,k9⟩:=info_parts QlQ
        clear a9 b6 c1 c3 q X c9 d6 e2 f4 b5 K y U hB hP hF b2 W l a4 d7 nown
        go_wp2_with fail
        refine Qg (fun w'=>w'.cell? ⟨gb,6,none⟩=some (.pointer (some ⟨p,0,none⟩))/\w'.cell? ⟨p,4,none⟩=some (.slice Av vs.length cv)) (fun w'=>w'=w3.drew) (fun k=>k==13 || k==14 || k==18) (fun k=>k==18) (fun _=>false) (by kernel_rfl) (by kernel_rfl) (rfl) (fun w' h=>by subst h;exact⟨(G.out _ (Fr.refl _ _).drew).1.cell 6,(G.out _ (Fr.refl _ _).drew).2.1.cell 4⟩) ?_
        repeat ((first
          |(refine Qc (v:=?_) (by rfl) (by rfl) (fun w6 hSw=>?_) ?_;rotate_left;(·(obtain⟨y0,y1⟩:=hSw;go_simp;try with_reducible rfl)))
          |(refine Qd (v:=?_) (by rfl) (fun w6=>?_) ?_;rotate_left;(·(go_simp;try with_reducible rfl)))
          |refine Qe (by rfl) ?_);(try simp only[Act.put,pA,pB,pC]))
        refine Ql (fun u w'=>u=.slice (some ⟨w3.heap.size,0,none⟩) 1 1/\w'=w3.drew.alloc (.cells #[.slice (some ⟨w1.heap.size,0,none⟩) k k] 184)) (by rfl) (by rfl) (fun w6 hSw=>?_) (.inr (fun v6 w6 hT6=>?_)) (fun v6 hv6=>?_)
        · (subst hSw;go_simp;exact⟨rfl,rfl⟩)
        · (obtain⟨-,rfl⟩:=hT6;exact⟨(G.out _ ((Fr.refl _ _).drew.alloc _)).1.cell 6,(G.out _ ((Fr.refl _ _).drew.alloc _)).2.1.cell 4⟩)
        obtain⟨wz,rfl,-⟩:=hv6
        (try simp only[Act.put,pA,pB,pC])
        refine Ql (fun u w'=>w'.ownsRow N 184 1 u (vs.length+1) (vs++[.slice (some ⟨w1.heap.size,0,none⟩) k k])/\Fr (OwnB (.slice Av vs.length cv)) w3 w') (by rfl) (by rfl) (fun w6 hSw=>?_) (.inr (fun v6 w6 hT6=>?_)) (fun v6 hv6=>?_)
        · (obtain⟨-,rfl⟩:=hSw;exact Q5 180 rfl N 184 ir (.slice none 0 0) 1 24 Tryz.underlying180 k8 l0 i4 k9 rfl (by decide) (.slice Av vs.length cv) vs.length vs rfl ((QN k6.out (Below.refl _ _).drew).alloc _) ⟨w3.heap.size,0,none⟩ 1 1 [.slice (some ⟨w1.heap.size,0,none⟩) k k] rfl rfl (cell_one_new w3.drew _ _) (by simp[Value.oneCell']) (by unfold maxLen;omega) (by omega) (by simp;omega) (fun v' w' j5 j4 _ _=>⟨j5,((Fr.refl _ _).drew.alloc _).grown j4 (fun k hk _=>hk)⟩))
        · (exact⟨(G.out _ hT6.2).1.cell 6,(G.out _ hT6.2).2.1.cell 4⟩)
        obtain⟨wz,i3,-⟩:=hv6;obtain⟨A7,c7,rfl,-⟩:=Qj i3
        (try simp only[Act.put,pA,pB,pC])
        repeat ((first
          |(refine Qc (v:=?_) (by rfl) (by rfl) (fun w6 hSw=>?_) ?_;rotate_left;(·(obtain⟨y0,y1⟩:=hSw;go_simp;try with_reducible rfl)))
          |(refine Qd (v:=?_) (by rfl) (fun w6=>?_) ?_;rotate_left;(·(go_simp;try with_reducible rfl)))
          |refine Qe (by rfl) ?_);(try simp only[Act.put,pA,pB,pC]))
        refine Ql (fun _ w'=>∃wq,(wq.ownsRow N 184 1 (.slice A7 (vs.length+1) c7) (vs.length+1) (vs++[.slice (some ⟨w1.heap.size,0,none⟩) k k])/\Fr (OwnB (.slice Av vs.length cv)) w3 wq)/\w'=wq.setCell ⟨p,4,none⟩ (.slice A7 (vs.length+1) c7)) (by rfl) (by rfl) (fun w6 hSw=>?_) (.inl (by rfl)) (fun v6 hv6=>?_)
        · (have y2:=(G.out _ hSw.2).2.1.cell 4;have y3:=(G.out _ hSw.2).2.1.frozen 4;simp[opC] at y2;go_simp;exact⟨w6,hSw,rfl⟩)
        skip
        (try simp only[Act.put,pA,pB,pC])
        refine Qu ?_
        rintro w4 ⟨wq,⟨hu,F⟩,rfl⟩
        have HU:=Zh hu
        have g5:=Zh F
        clear hu F
        go_wp2_with fail
        refine(g2.out wq _ g5.out).mono ?_
        rintro e w7 ⟨rfl,hb7⟩
        have HP:=Zh (g9.out wq w7 _ g5.out HU.out hb7)
        clear hb7
        go_wp2_with fail
        go_ret
        exact⟨rfl,fun h=>absurd rfl h,fun _=>HP.out⟩
  · obtain⟨E,hE⟩:=ZN (QbN enc lim (Qb enc st.ats) es)
    rw[hE] at hK hz ⊢
    have q2:(E != 0)=true:=by rw[bne_iff_ne];exact hz
    have HK:=Zh hK
    have HZ:=Zh hz
    clear hK hE hz h he O P
    go_enter Tryz.func99,Tryz.ntmps99
    go_wp2_with fail
    refine(HK.out).mono ?_
    rintro e w1 ⟨rfl,g4,-⟩
    have j1:=Zh g4
    clear g4
    go_wp2_with fail
    go_ret
    exact⟨rfl,fun h=>j1.out HZ.out,fun h=>absurd h HZ.out⟩
theorem QbA (a:Nat)(c:Array Value)(p:Option Addr)(u:FrameMode)(w:World)(b:Blk w a 97 c)(f:c[6]? = some (.pointer p)) :
  CallsD Tryz.prog 126 #[.pointer (some ⟨a,0,none⟩)] u w fun e g w'=>g=u/\(e=.returned (.tuple #[])/\w'=w.setCell ⟨a,6,none⟩ (.pointer none)):=by
 have d:=b.cell 6
 have h:=b.frozen 6
 rw[f] at d
 go_enter_d Tryz.func126,Tryz.ntmps126
 go_wp2
 go_end0
 exact⟨rfl,rfl⟩
theorem BkAt.book {w w':World}{N B l g n m:Nat}{enc lim:Int}{add vu vr:Value}{st:BkS}{t:Tr}{a:Option Addr}{xs:List Value}{now:Option Addr}(h:BkAt w N B l g enc lim n add st t a xs m vu vr now)(d:Fr (· = l) w w') :
  TextM w' B g enc lim n add t a xs/\MapE w' st.mb m/\StackAt w' N B g add n enc vu st.undo/\StackAt w' N B g add n enc vr st.redo/\GKeep N add add n n enc w w'/\N<=w'.heap.size:=by
 have f:GKeep N add add n n enc w w':=GKeep.far d (fun k _ i=>i▸Far2.blk h.blk (by decide))
 have c : ∀v' j ys,w.ownsRow B 177 1 v' j ys->w'.ownsRow B 177 1 v' j ys:=fun v' j ys q=>QaD q d (fun b p r o=>Blk.ne_ o h.blk (by decide) r)
 exact⟨h.text.far d (fun k _ i=>i▸Far.blk h.blk (by decide)),h.map.fr d (fun e=>h.map.ne_blk h.blk e),h.undo.keep f (Nat.le_refl _) (c _),h.redo.keep f (Nat.le_refl _) (c _),f,Nat.le_trans h.nle d.size⟩
theorem BkAt.below {w w':World}{N B f g n m:Nat}{enc lim:Int}{add vu vr:Value}{st:BkS}{t:Tr}{a:Option Addr}{xs:List Value}{now:Option Addr}(h:BkAt w N B f g enc lim n add st t a xs m vu vr now)(b:ZB w w'):BkAt w' N B f g enc lim n add st t a xs m vu vr now:=by
 have d:GKeep N add add n n enc w w':=GKeep.below h.text.row h.text.blk b
 refine⟨h.blk.below b,h.text.below b,h.ats,h.sz,h.lim0,h.map.below b,h.undo.keep d (Nat.le_refl _) (fun _ _ c=>QN c b),h.redo.keep d (Nat.le_refl _) (fun _ _ c=>QN c b),h.sep,?_,Nat.le_trans h.nle b.size,h.nums,h.low⟩
 have c:=h.open_
 cases hn:st.now with
 |none=>rw[hn] at c;exact c
 |some o=>
  rw[hn] at c
  obtain⟨p,e,s,m2,vm,vs,h1,h2,l,k,i,j⟩:=c
  exact⟨p,e,s,m2,vm,vs,h1.below b,h2.below b,l.keep d,QN k b,(i.keep (KeepTy.below b)).mono b.size,j⟩
theorem BkAt.shut {w:World}{N B b g n m:Nat}{enc lim:Int}{add vu vr:Value}{st:BkS}{t:Tr}{a:Option Addr}{xs:List Value}{now:Option Addr}(h:BkAt w N B b g enc lim n add st t a xs m vu vr now) :
  BkAt (w.setCell ⟨b,6,none⟩ (.pointer none)) N B b g enc lim n add { st with now:=none } t a xs m vu vr none:=by
 obtain⟨h1,h2,f,d,_,c⟩:=h.book ((Fr.refl _ _).set1 6 (.pointer none))
 exact⟨(h.blk.set_ 6 _).eq_ rfl,h1,h.ats,h.sz,h.lim0,h2,f,d,h.sep,rfl,c,h.nums,⟨h.low.1,h.low.2.1,h.low.2.2.1,fun _ e=>by cases e⟩⟩
theorem BkFr.book {B:Nat}{w w':World}{a:Nat}{g:Array Value}(d:Blk w a 97 g)(e:B<=a)(f:Fr (· = a) w w'):BkFr B w w':=BkFr.of_fr f (fun b _ c=>⟨c▸e,_,_,c▸d,.inr (.inr (.inl rfl))⟩)
theorem Qpa (N B j g:Nat)(enc lim:Int)(n:Nat)(add:Value)(st:BkS)(t:Tr)(a:Option Addr)(xs:List Value)(m:Nat)(vu vr:Value)(now:Option Addr)(o:OpS)(x:Int)(w:World)(h:BkAt w N B j g enc lim n add st t a xs m vu vr now)(hn:st.now=some o)(H:0<=x/\x<=(st.ats.length:Int))(G:o.changed=false) :
  Calls Tryz.prog 91 #[.pointer (some ⟨j,0,none⟩),.int .i64 x] w fun e w'=>e=.returned (.int .i64 0)/\BkAt w' N B j g enc lim n add { st with now:=none } t a xs m vu vr none/\BkFr B w w':=by
 have l:=h.open_
 rw[hn] at l
 obtain⟨p,rfl,s,m2,vm,vs,i,z,r,q,y,E⟩:=l
 have k:(QaM enc t.list).length=(QC enc t.list).length:=QaQ enc _
 have d:=Qc9 j g _ Any enc (QC enc t.list) x w h.blk rfl ⟨lim,t,a,add,h.text.text,rfl⟩
 have F:decide (0<=x/\x<=((QC enc t.list).length:Int))=true:=by
  rw[<-k,h.ats]
  simpa using H
 rw[F] at d
 have u:=Zh d
 have A:=Zh h
 have J:=h.blk.cell 6
 simp at J
 rw[G] at i
 have C:=Zh i
 clear h d F k z r q y i
 go_enter_defers Tryz.func91,Tryz.ntmps91
 go_wp2_with fail
 refine(u.out).mono ?_
 rintro e w1 ⟨rfl,c⟩
 have b:=A.out.blk.below c
 have v:=b.cell 6
 have D:=(C.out.below c).cell 9
 simp at v D
 go_wp2_with fail
 refine leaves_cons (f:=126) (args := #[.pointer (some ⟨j,0,none⟩)]) (by simp) (by simp[go_sem]) ?_
 refine(QbA j _ _ .returning _ b rfl).mono ?_
 rintro e K I ⟨rfl,rfl,rfl⟩
 refine⟨_,results_tmp rfl _ _ _,rfl,(A.out.below c).shut,?_⟩
 exact(BkFr.below c).trans (BkFr.book b A.out.low.1 ((Fr.refl _ _).set1 6 _))
theorem Qrt {w:World}{B e n c:Nat}{A:Option Addr}{xs:List Value}{x:Value}(h:w.ownsRow B e 1 (.slice A (n+1) c) (n+1) (xs++[x])) :
  ∃b,A=some ⟨b,0,none⟩/\B<=b/\n+1<=c/\c<=maxLen/\(∃q,Blk w b e q)/\w.cell? ⟨b,n,none⟩=some x/\w.ownsRow B e 1 (.slice (some ⟨b,0,none⟩) n c) n xs:=by
 have k:xs.length=n:=by have:=h.1;simp at this;omega
 rcases h.2 with ⟨o,_⟩|⟨g,cap,cur,d,f,i,h1,h2,p,m⟩
 ·cases o
 ·injection d with d e2 e3
  subst d
  subst e3
  have l:Blk w g e cur:=i
  refine⟨g,rfl,f,h1,h2,⟨cur,l⟩,?_,by simp[k],.inr ⟨g,c,cur,rfl,f,i,by omega,h2,p,?_⟩⟩
  ·rw[l.cell,<-Array.getElem?_toList]
   have a:(cur.toList.take ((n+1)*1))[n]? = some x:=by
    rw[m,List.getElem?_append_right (by omega),k]
    simp
   rw[List.getElem?_take] at a
   split at a
   ·exact a
   ·cases a
  ·have j:(cur.toList.take ((n+1)*1)).take (n*1)=xs:=by
    rw[m,List.take_append_of_le_length (by omega),List.take_of_length_le (by omega)]
   rw[List.take_take,Nat.min_eq_left (by omega)] at j
   exact j
theorem StackAt.last {w:World}{N B g n:Nat}{add v:Value}{enc:Int}{us:List Gr}{G:Gr}(h:StackAt w N B g add n enc v (us++[G])) :
  ∃b c q,v=.slice (some ⟨b,0,none⟩) (us.length+1) c/\us.length+1<=c/\c<=maxLen/\us.length<1048576/\(∃s,Blk w b 177 s)/\w.cell? ⟨b,us.length,none⟩=some (.pointer (some ⟨q,0,none⟩)) /\
   GrAt w N g add n enc q G/\StackAt w N B g add n enc (.slice (some ⟨b,0,none⟩) us.length c) us:=by
 obtain⟨ps,h1,h2,l,p⟩:=h
 rcases List.eq_nil_or_concat ps with rfl|⟨qs,q,rfl⟩
 ·simp at h2
 ·simp only[List.concat_eq_append,List.length_append,List.length_singleton,List.map_append,List.map_cons,List.map_nil] at h1 h2 l p
  have a:qs.length=us.length:=by omega
  rw[a] at h1
  obtain⟨A,c,rfl,x⟩:=Qj h1
  obtain⟨b,rfl,u,k,j,f,d,e⟩:=Qrt h1
  refine⟨b,c,q,rfl,k,j,by omega,f,d,l us.length q G ?_ ?_,qs,?_,a,fun i t r m o=>l i t r ?_ ?_,by omega⟩
  ·rw[<-a,List.getElem?_append_right (Nat.le_refl _)];simp
  ·rw[List.getElem?_append_right (Nat.le_refl _)];simp
  ·rw[a];exact e
  ·rw[List.getElem?_append_left (List.getElem?_eq_some_iff.1 m).1];exact m
  ·rw[List.getElem?_append_left (List.getElem?_eq_some_iff.1 o).1];exact o
theorem StackAt.push {w w':World}{N B g n:Nat}{add v':Value}{enc:Int}{Gs:List Gr}{G:Gr}{q:Nat}{ps:List Nat}(c:ps.length=Gs.length)(e : ∀(i p:Nat) (G:Gr),ps[i]? = some p->Gs[i]? = some G->GrAt w N g add n enc p G)(k:GKeep N add add n n enc w w')
  (m:GrAt w N g add n enc q G) (l:w'.ownsRow B 177 1 v' (ps.length+1) ((ps.map fun p=>Value.pointer (some ⟨p,0,none⟩))++[.pointer (some ⟨q,0,none⟩)])) (r:Gs.length<1048576):StackAt w' N B g add n enc v' (Gs++[G]):=by
 refine⟨ps++[q],by simpa using l,by simp[c],fun i p o a b=>?_,by simp;omega⟩
 rcases Nat.lt_or_ge i ps.length with h|f
 ·rw[List.getElem?_append_left h] at a
  rw[List.getElem?_append_left (by omega)] at b
  exact(e i p o a b).keep k
 ·rw[List.getElem?_append_right f] at a
  rw[List.getElem?_append_right (by omega),<-c] at b
  have d:i-ps.length=0:=by
   rcases Nat.eq_zero_or_pos (i-ps.length) with j|j
   ·exact j
   ·rw[List.getElem?_eq_none (by simp;omega)] at a
    cases a
  rw[d] at a b
  simp at a b
  subst a
  subst b
  exact m.keep k
end Go.Proofs.YtgiihhikdoikgaaGreat
