/-
  The walk of Book.End where something changed (and there is room for one group more).
-/
import Derived.Test.YtgiihhikdoikgaaGreatLUndoLaw
set_option linter.unusedSimpArgs false
set_option linter.unusedVariables false
set_option maxRecDepth 100000
set_option maxHeartbeats 32000000
namespace Go.Proofs.YtgiihhikdoikgaaGreat
open Go.RowKit
theorem SnapAt.gkeep {w w':World}{N g n b s:Nat}{add a:Value}{enc:Int}{ats:List (Int × Int)}(h:SnapAt w g add n enc s ats)(c:s<N)(d:GKeep N add a n b enc w w'):SnapAt w' g a b enc s ats:=(SnapB.keep (N:=N) ⟨c,h⟩ d).2
theorem BkAt.ended {w j:World}{N B F g n m p s q V:Nat}{enc lim x:Int}{add vm vu vr E:Value}{st:BkS}{o:OpS}{t:Tr}{a:Option Addr}{xs vs:List Value}{ps:List Nat}
  (h:BkAt w N B F g enc lim n add st t a xs m vu vr (some ⟨p,0,none⟩)) (U:SnapB w N g add n enc s o.before) (S:w.ownsRow N 184 1 vm vs.length vs) (a4:MvRows w w.heap.size vs o.moves) (a6:o.moves.length<=1048576)
  (L:Fr (fun y=>y=F\/OwnB vu y) w j)
  (Z:Blk j F 97 #[.pointer (some ⟨g,0,none⟩),.int .i64 st.depth,E,.slice none 0 0,.map (some m),.slice none 0 0,.pointer none,.int .i64 (st.last+1),.int .i64 st.saved,.int .i64 (st.last+1)])
  (hq:Blk j q 182 #[.pointer (some ⟨s,0,none⟩),.pointer (some ⟨V,0,none⟩),.int .i64 o.bgn,.int .i64 x,vm,.int .i64 o.old,.int .i64 (st.last+1)]) (Q:SnapAt j g add n enc V st.ats)
  (P:ps.length=st.undo.length) (X : ∀(i K:Nat) (G:Gr),ps[i]? = some K->st.undo[i]? = some G->GrAt w N g add n enc K G) (a1:w.ownsRow B 177 1 vu ps.length (ps.map fun p=>Value.pointer (some ⟨p,0,none⟩)))
  (J:j.ownsRow B 177 1 E (ps.length+1) ((ps.map fun p=>Value.pointer (some ⟨p,0,none⟩))++[.pointer (some ⟨q,0,none⟩)])) (a5:st.undo.length<1048576) (a2:st.last<1073741824) :
  BkAt j j.heap.size B F g enc lim n add { st with now:=none,undo:=st.undo++[⟨o.before,st.ats,o.bgn,x,o.moves,o.old,st.last+1⟩],redo:=[],state:=st.last+1,last:=st.last+1 } t a xs m E (.slice none 0 0) none:=by
 have typed : ∀y,(y=F\/OwnB vu y)->(∃f,Blk w y 97 f)\/(∃f,Blk w y 177 f):=fun y d=>by
  rcases d with rfl|d
  ·exact .inl ⟨_,h.blk⟩
  ·rcases a1.2 with ⟨e0,_⟩|⟨r,c,cur,e0,h1,h2,_⟩
   ·unfold OwnB at d;rw[e0] at d;cases d
   ·unfold OwnB at d
    rw[e0] at d
    have:r=y:=by simpa[Value.ownBlock] using d
    subst this
    exact .inr ⟨cur,h2⟩
 have A : ∀M y,y<w.heap.size->(y=F\/OwnB vu y)->Far2 w M y:=fun M y _ d=>by
  rcases typed _ d with ⟨c1,u⟩|⟨c1,u⟩
  ·exact Far2.blk u (by decide)
  ·exact Far2.blk u (by decide)
 have hK : ∀M,GKeep M add add n n enc w j:=fun M=>GKeep.far L (A M)
 have I:=L.size
 have v:N<=j.heap.size:=Nat.le_trans h.nle I
 have notT : ∀{T:TypeId} {f:Array Value} {y:Nat},Blk w y T f->T≠97->T≠177->¬(y=F\/OwnB vu y):=fun H h1 h2 d=>by
  rcases typed _ d with ⟨c1,u⟩|⟨c1,u⟩
  ·exact Blk.ne_ H u h1 rfl
  ·exact Blk.ne_ H u h2 rfl
 have O : MapE j st.mb m := h.map.fr L (fun d=>by
  rcases typed _ d with ⟨c1,u⟩|⟨c1,u⟩
  ·exact h.map.ne_blk u rfl
  ·exact h.map.ne_blk u rfl)
 have D:j.ownsRow N 184 1 vm vs.length vs:=QaD S L (fun b f W u=>notT u (by decide) (by decide) W)
 obtain⟨Av,cv,rfl,Y⟩:=Qj D
 have C:=(a4.keep (hK w.heap.size).mvs).mono I
 have hG:GrAt j j.heap.size g add n enc q ⟨o.before,st.ats,o.bgn,x,o.moves,o.old,st.last+1⟩:=by
  refine⟨s,V,Av,vs.length,cv,vs,hq.lt,hq,(U.keep (hK N)).mono v,⟨?_,Q⟩,RowT.of_own D (Nat.le_refl _),Y,C,by have:=C.1;omega⟩
  obtain⟨_,_,H,_⟩:=Q
  exact H.lt
 refine⟨Z,h.text.far L (fun k hk W=>(A N k hk W).1),h.ats,h.sz,h.lim0,O,⟨ps++[q],by simpa using J,by simp[P],fun i K G z l=>?_,by simp;omega⟩,⟨[],World.ownsRow_nil _ _ _ _,rfl,fun i K G z=>(by simp at z),by simp⟩,fun b _ H=>(by cases H),rfl,Nat.le_refl _,?_,⟨h.low.1,h.low.2.1,Nat.le_trans h.low.2.2.1 v,fun _ e=>by cases e⟩⟩
 ·rcases Nat.lt_or_ge i ps.length with a3|a0
  ·rw[List.getElem?_append_left a3] at z
   rw[List.getElem?_append_left (by omega)] at l
   exact((X i K G z l).keep (hK N)).mono v
  ·rw[List.getElem?_append_right a0] at z
   rw[List.getElem?_append_right (by omega),<-P] at l
   have R:i-ps.length=0:=by
    rcases Nat.eq_zero_or_pos (i-ps.length) with h0|h0
    ·exact h0
    ·rw[List.getElem?_eq_none (by simp;omega)] at z
     cases z
   rw[R] at z l
   simp at z l
   subst z
   subst l
   exact hG
 ·have:=h.nums
  dsimp only
  omega
def EndS (W:World)(g n:Nat)(add:Value)(enc:Int)(ats:List (Int × Int))(q s:Nat)(a:Array Value)(w:World):Prop:=SnapAt w g add n enc s ats/\ZB W w/\Blk w q 182 a
theorem EndS.set {W w:World}{g n q s i:Nat}{add u:Value}{enc:Int}{ats:List (Int × Int)}{a:Array Value}(h:EndS W g n add enc ats q s a w)(b:W.heap.size<=q):EndS W g n add enc ats q s (a.setIfInBounds i u) (w.setCell ⟨q,i,none⟩ u):=
 ⟨h.1.set h.2.2 (by decide),h.2.1.setCell b u,h.2.2.set_ i u⟩
theorem QcC:(Tryz.prog.info? 177).map (fun i=>(i.zero,i.size,i.bytes))=some (some (.pointer none),1,8):=by kernel_rfl
theorem Qoy (N B j g:Nat)(enc lim:Int)(n:Nat)(add:Value)(st:BkS)(t:Tr)(a:Option Addr)(xs:List Value)(m:Nat)(vu vr:Value)(now:Option Addr)(o:OpS)(x:Int)(w:World)(h:BkAt w N B j g enc lim n add st t a xs m vu vr now)(hn:st.now=some o)(hx:0<=x/\x<=(st.ats.length:Int))(Q:o.changed=true)(d5:(st.undo.length:Int)<st.depth)(b6:st.last<1073741824) :
  Calls Tryz.prog 91 #[.pointer (some ⟨j,0,none⟩),.int .i64 x] w fun e w'=>e=.returned (.int .i64 0)/\(∃g3,BkAt w' w'.heap.size B j g enc lim n add { st with now:=none,undo:=st.undo++[⟨o.before,st.ats,o.bgn,x,o.moves,o.old,st.last+1⟩],redo:=[],state:=st.last+1,last:=st.last+1 } t a xs m g3 (.slice none 0 0) none)/\BkFr B w w':=by
 have f4:=h.open_
 rw[hn] at f4
 obtain⟨p,rfl,s,m2,vm,vs,b7,j4,g5,c0,i2,d6⟩:=f4
 obtain⟨ps,b5,f1,g9,a8⟩:=h.undo
 have j0:(ps.length:Int)<st.depth:=by omega
 have i8:ps.length<=1048576:=by omega
 have h7:=Zh f1
 have i4:=Zh d5
 have i7:=Zh a8
 clear f1 d5 a8
 have e4:(QaM enc t.list).length=(QC enc t.list).length:=QaQ enc _
 have b3:=Qc9 j g _ Any enc (QC enc t.list) x w h.blk rfl ⟨lim,t,a,add,h.text.text,rfl⟩
 have hq:decide (0<=x/\x<=((QC enc t.list).length:Int))=true:=by
  rw[<-e4,h.ats]
  simpa using hx
 rw[hq] at b3
 have i0:=Zh b3
 have h3:=h.nums
 have HH:=Zh h
 have c6:=h.blk.cell 6
 simp at c6
 rw[Q] at b7
 have h8:=Zh b7
 have b2:=Zh b5
 have e1:IntKind.i64.wrap (st.last+1)=st.last+1:=IntWalk.i64_in _ (by omega)
 obtain⟨Au,cu,rfl,j3⟩:=Qj b5
 obtain⟨Am,cm,rfl,j6⟩:=Qj c0
 clear h b3 hq e4 b7 b5
 go_enter_defers Tryz.func91,Tryz.ntmps91
 go_wp2_with fail
 refine(i0.out).mono ?_
 rintro e w1 ⟨rfl,Z⟩
 have q:=HH.out.blk.below Z
 have Y:=h8.out.below Z
 have d8:=q.cell 6
 have g0:=Y.cell 9
 have d9:=q.cell 9
 have g4:=q.frozen 9
 have h0:p≠j:=Blk.ne_ Y q (by decide)
 have A:=Y.far (p:=⟨j,9,none⟩) h0 (.int .i64 (st.last+1))
 have z:=(q.set_ 9 (.int .i64 (st.last+1))).eq_ (show _ = #[.pointer (some ⟨g,0,none⟩),.int .i64 st.depth,.slice Au ps.length cu,vr,.map (some m),.slice none 0 0,.pointer (some ⟨p,0,none⟩),.int .i64 st.state,.int .i64 st.saved,.int .i64 (st.last+1)] by simp)
 have k6:=z.cell 6
 have k0:=A.cell 0
 have k1:=A.cell 1
 have k2:=A.cell 2
 have k3:=A.cell 3
 have k4:=A.cell 4
 have k5:=A.cell 5
 have k7:=A.cell 6
 simp at d8 g0 d9 k6 k0 k1 k2 k3 k4 k5 k7
 go_upto_region 10 with fail
 obtain⟨l,V⟩:=ZN (w1.setCell ⟨j,9,none⟩ (.int .i64 (st.last+1)))
 have a0:Fr (· = j) w l:=by rw[<-V];exact(Fr.of_below Z).set1 9 _
 have f7:w1.heap.size=l.heap.size:=by rw[<-V];simp[World.setCell]
 rw[V] at z ⊢
 rw[f7]
 clear V A Y k0 k1 k2 k3 k4 k5 k7 k6 d8 g0 d9 g4 q
 obtain⟨a6,-,-,-,-,-⟩:=HH.out.book a0
 have a7:l.ownsRow B 177 1 (.slice Au ps.length cu) ps.length (ps.map fun p=>Value.pointer (some ⟨p,0,none⟩)):=QaD b2.out a0 (fun b U D Q=>Blk.ne_ Q HH.out.blk (by decide) D)
 have f3:Blk (l.alloc (.cells #[.pointer (some ⟨s,0,none⟩),.pointer none,.int .i64 o.bgn,.int .i64 0,.slice Am vs.length cm,.int .i64 o.old,.int .i64 0] 182)) l.heap.size 182 #[.pointer (some ⟨s,0,none⟩),.pointer none,.int .i64 o.bgn,.int .i64 0,.slice Am vs.length cm,.int .i64 o.old,.int .i64 0]:=Blk.new l _ _
 have W:ZB l (l.alloc (.cells #[.pointer (some ⟨s,0,none⟩),.pointer none,.int .i64 o.bgn,.int .i64 0,.slice Am vs.length cm,.int .i64 o.old,.int .i64 0] 182)):=Qa (Below.refl _ _)
 obtain⟨w3,d1⟩:=ZN (l.alloc (.cells #[.pointer (some ⟨s,0,none⟩),.pointer none,.int .i64 o.bgn,.int .i64 0,.slice Am vs.length cm,.int .i64 o.old,.int .i64 0] 182))
 rw[d1] at f3 W ⊢
 have e7 : ∀w',ZB l w'->w'.cell? ⟨j,0,none⟩=some (.pointer (some ⟨g,0,none⟩))/\w'.cell? ⟨j,9,none⟩=some (.int .i64 (st.last+1)):=fun w' T=>⟨(z.below T).cell 0,(z.below T).cell 9⟩
 have P:=Zh e7
 have h5:=Zh a6
 have a5:=Zh a7
 have e3:=Zh z
 have c4:=Zh a0
 clear d1 e7 a6 a7 z a0 Z f7
 refine Qg (fun w'=>w'.cell? ⟨j,0,none⟩=some (.pointer (some ⟨g,0,none⟩))/\w'.cell? ⟨j,9,none⟩=some (.int .i64 (st.last+1))) (fun w'=>w'=w3.drew) (fun k=>k==4 || k==11 || k==13 || k==15) (fun _=>false) (fun _=>false) (by kernel_rfl) (by kernel_rfl) (rfl) (fun w' h=>by subst h;exact P.out _ W.drew) ?_
 iterate 4 ((first
  |(refine Qc (v:=?_) (by rfl) (by rfl) (fun w6 hSw=>?_) ?_;rotate_left;(·(obtain⟨y0,y1⟩:=hSw;go_simp;try with_reducible rfl)))
  |(refine Qd (v:=?_) (by rfl) (fun w6=>?_) ?_;rotate_left;(·(go_simp;try with_reducible rfl)))
  |refine Qe (by rfl) ?_);(try simp only[Act.put,pA,pB,pC]))
 refine Qn (f:=?_) (args:=?_) (fun v w'=>∃K,v=.pointer (some ⟨K,0,none⟩)/\EndS l g n add enc st.ats l.heap.size K #[.pointer (some ⟨s,0,none⟩),.pointer none,.int .i64 o.bgn,.int .i64 0,.slice Am vs.length cm,.int .i64 o.old,.int .i64 0] w') (by rfl) (by rfl) (fun w6 hSw=>?_) (fun w6 hSw=>?_) (.inr (fun v6 w6 hT6=>?_)) (fun v6 hv6=>?_)
 rotate_left 2
 ·(skip;go_simp;first|done|(constructor<;>with_reducible rfl)|with_reducible rfl)
 ·(subst hSw;refine(Qg5 B g enc lim n add t a xs _ (h5.out.below W.drew) HH.out.sz).mono ?_;rintro e w' ⟨K,rfl,D,i9,f0⟩;rw[HH.out.ats] at D;exact⟨_,rfl,K,rfl,D,Qf W.drew f0,f3.drew.below f0⟩)
 ·(obtain⟨K,-,T⟩:=hT6;exact P.out _ T.2.1)
 obtain⟨wz,K,rfl,-⟩:=hv6
 (try simp only[Act.put,pA,pB,pC])
 iterate 6 ((first
  |(refine Qc (v:=?_) (by rfl) (by rfl) (fun w6 hSw=>?_) ?_;rotate_left;(·(obtain⟨y0,y1⟩:=hSw;go_simp;try with_reducible rfl)))
  |(refine Qd (v:=?_) (by rfl) (fun w6=>?_) ?_;rotate_left;(·(go_simp;try with_reducible rfl)))
  |refine Qe (by rfl) ?_);(try simp only[Act.put,pA,pB,pC]))
 refine Ql (fun _ w'=>EndS l g n add enc st.ats l.heap.size K #[.pointer (some ⟨s,0,none⟩),.pointer (some ⟨K,0,none⟩),.int .i64 o.bgn,.int .i64 0,.slice Am vs.length cm,.int .i64 o.old,.int .i64 0] w') (by rfl) (by rfl) (fun w6 hSw=>?_) (.inr (fun v6 w6 hT6=>?_)) (fun v6 hv6=>?_)
 ·(obtain⟨s',e',T⟩:=hSw;injection e' with e';injection e' with e';injection e' with e';subst e';have y2:=T.2.2.frozen 1;have y3:=T.2.2.cell 1;go_simp;exact T.set (Nat.le_refl _))
 ·(exact P.out _ hT6.2.1)
 skip
 (try simp only[Act.put,pA,pB,pC])
 iterate 1 ((first
  |(refine Qc (v:=?_) (by rfl) (by rfl) (fun w6 hSw=>?_) ?_;rotate_left;(·(obtain⟨y0,y1⟩:=hSw;go_simp;try with_reducible rfl)))
  |(refine Qd (v:=?_) (by rfl) (fun w6=>?_) ?_;rotate_left;(·(go_simp;try with_reducible rfl)))
  |refine Qe (by rfl) ?_);(try simp only[Act.put,pA,pB,pC]))
 refine Ql (fun _ w'=>EndS l g n add enc st.ats l.heap.size K #[.pointer (some ⟨s,0,none⟩),.pointer (some ⟨K,0,none⟩),.int .i64 o.bgn,.int .i64 x,.slice Am vs.length cm,.int .i64 o.old,.int .i64 0] w') (by rfl) (by rfl) (fun w6 hSw=>?_) (.inr (fun v6 w6 hT6=>?_)) (fun v6 hv6=>?_)
 ·(have y2:=hSw.2.2.frozen 3;have y3:=hSw.2.2.cell 3;go_simp;exact hSw.set (Nat.le_refl _))
 ·(exact P.out _ hT6.2.1)
 skip
 (try simp only[Act.put,pA,pB,pC])
 iterate 1 ((first
  |(refine Qc (v:=?_) (by rfl) (by rfl) (fun w6 hSw=>?_) ?_;rotate_left;(·(obtain⟨y0,y1⟩:=hSw;go_simp;try with_reducible rfl)))
  |(refine Qd (v:=?_) (by rfl) (fun w6=>?_) ?_;rotate_left;(·(go_simp;try with_reducible rfl)))
  |refine Qe (by rfl) ?_);(try simp only[Act.put,pA,pB,pC]))
 refine Ql (fun _ w'=>EndS l g n add enc st.ats l.heap.size K #[.pointer (some ⟨s,0,none⟩),.pointer (some ⟨K,0,none⟩),.int .i64 o.bgn,.int .i64 x,.slice Am vs.length cm,.int .i64 o.old,.int .i64 (st.last+1)] w') (by rfl) (by rfl) (fun w6 hSw=>?_) (.inr (fun v6 w6 hT6=>?_)) (fun v6 hv6=>?_)
 ·(have y2:=hSw.2.2.frozen 6;have y3:=hSw.2.2.cell 6;go_simp;exact hSw.set (Nat.le_refl _))
 ·(exact P.out _ hT6.2.1)
 skip
 (try simp only[Act.put,pA,pB,pC])
 refine Qu ?_
 rintro w4 ⟨b0,X,f8⟩
 have d:=e3.out.below X
 have d2:=d.cell 2
 have d3:=d.cell 3
 have d7:=d.cell 7
 have d9:=d.cell 9
 have h4:=d.frozen 2
 have g6:=d.frozen 3
 have i5:=d.frozen 7
 simp at d2 d3 d7 d9
 have S:=(d.set_ 7 (.int .i64 (st.last+1))).set_ 3 (.slice none 0 0)
 have I:=Qt (i:=3) (u:=.slice none 0 0) (Qt (i:=7) (u:=.int .i64 (st.last+1)) (QN a5.out X) d (by decide)) (d.set_ 7 (.int .i64 (st.last+1))) (by decide)
 have g1:Fr (· = j) w4 ((w4.setCell ⟨j,7,none⟩ (.int .i64 (st.last+1))).setCell ⟨j,3,none⟩ (.slice none 0 0)):=((Fr.refl _ _).set1 7 _).set1 3 _
 obtain⟨ig,f9,e8,e2,d0⟩:=info_parts QcC
 have g8:B<=w4.heap.size:=by have:=HH.out.text.base;have:=c4.out.size;have:=X.size;omega
 have j8:ps.length<=1048576:=by omega
 have e9:((w4.setCell ⟨j,7,none⟩ (.int .i64 (st.last+1))).setCell ⟨j,3,none⟩ (.slice none 0 0)).heap.size=w4.heap.size:=by simp[World.setCell]
 have a9:=Zh b0
 have b8:=Zh f8
 have f6:=Zh X
 clear b0 f8 hv6
 go_wp2_with (at_builtin;go_loud (refine wpList_append_own_at _ rfl (.tmp 65) (.tmp 66) 93 rfl B 177 ig (.pointer none) 1 8 Tryz.underlying93 f9 e8 e2 d0 rfl (by decide) (.slice Au ps.length cu) ps.length _ rfl (I.alloc _) ⟨w4.heap.size,0,none⟩ 1 1 [.pointer (some ⟨l.heap.size,0,none⟩)] rfl rfl ?c1 (by simp[Value.oneCell']) (by unfold maxLen;omega) (by omega) (by simp[World.setCell];omega) ?_))
 case c1=>
  have:=cell_one_new ((w4.setCell ⟨j,7,none⟩ (.int .i64 (st.last+1))).setCell ⟨j,3,none⟩ (.slice none 0 0)) (.pointer (some ⟨l.heap.size,0,none⟩)) 177
  rw[e9] at this
  exact this
 intro v7 w7 E M _ e5
 have R:=I.alloc (.cells #[.pointer (some ⟨l.heap.size,0,none⟩)] 177)
 have F:=S.alloc (.cells #[.pointer (some ⟨l.heap.size,0,none⟩)] 177)
 have C:=F.grown M (fun e=>Qk R F (by decide) e.symm)
 obtain⟨A7,c7,rfl,j5⟩:=Qj E
 have g2:=C.cell 2
 have j7:=C.frozen 2
 have H:=C.set_ 2 (.slice A7 (ps.length+1) c7)
 have c2:=H.cell 1
 have c9:=H.cell 2
 simp at g2 c2 c9
 have q5:(st.depth<(ps.length:Int)+1)=False:=by simp;omega
 have q6:(st.depth<((ps.length+1:Nat):Int))=False:=by simp;omega
 have i3:=Zh E
 have h6:=Zh M
 have i6:=Zh S
 have j1:=Zh I
 have a4:=Zh H
 have c3:=Zh C
 have b9:=Zh d
 have i1:=Zh g1
 clear R F E M e5 S I H C d g1 d2 d3 d7 d9 h4 g6 i5 f9 e8 e2 d0
 go_upto_region 14 with fail
 obtain⟨w8,b4⟩:=ZN (w7.setCell ⟨j,2,none⟩ (.slice A7 (ps.length+1) c7))
 rw[b4] at c2 c9 a4 ⊢
 have c8:=Zh b4
 clear b4
 go_quiet (fail)
 go_wp2_with fail
 have O:=a4.out.drewN nq
 refine leaves_cons (f:=126) (args := #[.pointer (some ⟨j,0,none⟩)]) (by simp) (by simp[go_sem]) ?_
 refine(QbA j _ (some ⟨p,0,none⟩) .returning _ O (by simp)).mono ?_
 rintro e u' j2 ⟨rfl,rfl,rfl⟩
 have c5:=QN a5.out f6.out
 have L:Fr (fun y=>y=j\/OwnB (.slice Au ps.length cu) y) w4 ((w8.drewN nq).setCell ⟨j,6,none⟩ (.pointer none)):=by
  have a1:Fr (fun y=>y=j\/OwnB (.slice Au ps.length cu) y) w4 _:=i1.out.more (fun _ _ h=>.inl h)
  have a2:=(a1.alloc (.cells #[.pointer (some ⟨l.heap.size,0,none⟩)] 177)).grown h6.out (fun k hk _=>.inr hk)
  have a3:=a2.setCell (p:=⟨j,2,none⟩) (.inl (.inl rfl)) (.slice A7 (ps.length+1) c7)
  rw[c8.out] at a3
  exact(a3.drewN nq).setCell (p:=⟨j,6,none⟩) (.inl (.inl rfl)) _
 have b1:Fr (fun y=>y=j\/OwnB (.slice Au ps.length cu) y) w ((w8.drewN nq).setCell ⟨j,6,none⟩ (.pointer none)):=
  ((c4.out.more (fun _ _ h=>.inl h)).bel f6.out).call L (fun i hi D=>D)
 have G : ∀y,(y=j\/OwnB (.slice Au ps.length cu) y)->(∃U,Blk w4 y 97 U)\/(∃U,Blk w4 y 177 U):=fun y J=>by
  rcases J with rfl|J
  ·exact .inl ⟨_,b9.out⟩
  ·rcases c5.2 with ⟨e0,_⟩|⟨r,c,cur,e0,h1,h2,_⟩
   ·unfold OwnB at J;rw[e0] at J;cases J
   ·unfold OwnB at J
    rw[e0] at J
    have:r=y:=by simpa[Value.ownBlock] using J
    subst this
    exact .inr ⟨cur,h2⟩
 have d4 : GKeep w4.heap.size add add n n enc w4 ((w8.drewN nq).setCell ⟨j, 6, none⟩ (.pointer none)) := GKeep.far L (fun y _ J=>by
  rcases G _ J with ⟨c1,Q⟩|⟨c1,Q⟩
  ·exact Far2.blk Q (by decide)
  ·exact Far2.blk Q (by decide))
 have g7 := b8.out.fr L (fun J=>by
  rcases G _ J with ⟨c1,Q⟩|⟨c1,Q⟩
  ·exact Blk.ne_ b8.out Q (by decide) rfl
  ·exact Blk.ne_ b8.out Q (by decide) rfl)
 have f2 := a9.out.gkeep (N := w4.heap.size) (by
  obtain⟨_,_,T,_⟩:=a9.out
  exact T.lt) d4
 have f5:((w8.drewN nq).setCell ⟨j,6,none⟩ (.pointer none)).ownsRow B 177 1 (.slice A7 (ps.length+1) c7) (ps.length+1) ((ps.map fun p=>Value.pointer (some ⟨p,0,none⟩))++[.pointer (some ⟨l.heap.size,0,none⟩)]):=by
  have a1:=Qt (i:=2) (u:=.slice A7 (ps.length+1) c7) i3.out c3.out (by decide)
  rw[c8.out] at a1
  have a2:(w8.drewN nq).ownsRow B 177 1 (.slice A7 (ps.length+1) c7) (ps.length+1) ((ps.map fun p=>Value.pointer (some ⟨p,0,none⟩))++[.pointer (some ⟨l.heap.size,0,none⟩)]):=⟨a1.1,a1.2⟩
  exact Qt a2 O (by decide)
 have e6:=(O.set_ 6 (.pointer none)).eq_ (show _ = #[.pointer (some ⟨g,0,none⟩),.int .i64 st.depth,.slice A7 (ps.length+1) c7,.slice none 0 0,.map (some m),.slice none 0 0,.pointer none,.int .i64 (st.last+1),.int .i64 st.saved,.int .i64 (st.last+1)] by simp)
 refine⟨_,results_tmp rfl _ _ _,rfl,⟨.slice A7 (ps.length+1) c7,HH.out.ended g5 c0 i2 d6 b1 e6 g7 f2 h7.out g9 b2.out f5 (by have:=i4.out;omega) b6⟩,?_⟩
 refine BkFr.of_fr b1 (fun y J D=>?_)
 rcases D with rfl|D
 ·exact⟨HH.out.low.1,_,_,HH.out.blk,.inr (.inr (.inl rfl))⟩
 ·rcases b2.out.2 with ⟨e0,_⟩|⟨r,c',cur,e0,h9,h2,_⟩
  ·unfold OwnB at D;rw[e0] at D;cases D
  ·unfold OwnB at D
   rw[e0] at D
   have:r=y:=by simpa[Value.ownBlock] using D
   subst this
   exact⟨h9,_,_,h2,.inr (.inr (.inr (.inr (.inr rfl))))⟩
end Go.Proofs.YtgiihhikdoikgaaGreat
