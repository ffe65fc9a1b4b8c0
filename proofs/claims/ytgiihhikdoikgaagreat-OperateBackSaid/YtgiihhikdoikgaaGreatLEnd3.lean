/-
  The walk of Book.End where something changed and the stack is full: the oldest group goes.
-/
import Derived.Test.YtgiihhikdoikgaaGreatLEnd2
import Derived.Test.YtgiihhikdoikgaaGreatLDel
set_option linter.unusedSimpArgs false
set_option linter.unusedVariables false
set_option maxRecDepth 100000
set_option maxHeartbeats 32000000
namespace Go.Proofs.YtgiihhikdoikgaaGreat
open Go.RowKit
theorem BkAt.ended1 {w f:World}{N B H g n m p s q V:Nat}{enc lim x:Int}{add vm vu vr F:Value}{st:BkS}{o:OpS}{t:Tr}{a:Option Addr}{xs vs:List Value}{ps:List Nat}
  (h:BkAt w N B H g enc lim n add st t a xs m vu vr (some ⟨p,0,none⟩)) (U:SnapB w N g add n enc s o.before) (S:w.ownsRow N 184 1 vm vs.length vs) (a6:MvRows w w.heap.size vs o.moves) (a8:o.moves.length<=1048576)
  (L:Fr (fun y=>y=H\/OwnB vu y) w f)
  (a0:Blk f H 97 #[.pointer (some ⟨g,0,none⟩),.int .i64 st.depth,F,.slice none 0 0,.map (some m),.slice none 0 0,.pointer none,.int .i64 (st.last+1),.int .i64 st.saved,.int .i64 (st.last+1)])
  (hq:Blk f q 182 #[.pointer (some ⟨s,0,none⟩),.pointer (some ⟨V,0,none⟩),.int .i64 o.bgn,.int .i64 x,vm,.int .i64 o.old,.int .i64 (st.last+1)]) (Q:SnapAt f g add n enc V st.ats)
  (P:ps.length=st.undo.length) (X : ∀(i A:Nat) (G:Gr),ps[i]? = some A->st.undo[i]? = some G->GrAt w N g add n enc A G) (a2:w.ownsRow B 177 1 vu ps.length (ps.map fun p=>Value.pointer (some ⟨p,0,none⟩)))
  (K:f.ownsRow B 177 1 F ps.length (((ps.map fun p=>Value.pointer (some ⟨p,0,none⟩))++[Value.pointer (some ⟨q,0,none⟩)]).drop 1)) (a7:st.undo.length<1048576) (a3:st.last<1073741824) :
  BkAt f f.heap.size B H g enc lim n add { st with now:=none,undo:=(st.undo++[(⟨o.before,st.ats,o.bgn,x,o.moves,o.old,st.last+1⟩:Gr)]).drop 1,redo:=[],state:=st.last+1,last:=st.last+1 } t a xs m F (.slice none 0 0) none:=by
 have typed : ∀y,(y=H\/OwnB vu y)->(∃l,Blk w y 97 l)\/(∃l,Blk w y 177 l):=fun y j=>by
  rcases j with rfl|j
  ·exact .inl ⟨_,h.blk⟩
  ·rcases a2.2 with ⟨e0,_⟩|⟨r,c,cur,e0,h1,h2,_⟩
   ·unfold OwnB at j;rw[e0] at j;cases j
   ·unfold OwnB at j
    rw[e0] at j
    have:r=y:=by simpa[Value.ownBlock] using j
    subst this
    exact .inr ⟨cur,h2⟩
 have C : ∀M y,y<w.heap.size->(y=H\/OwnB vu y)->Far2 w M y:=fun M y _ j=>by
  rcases typed _ j with ⟨c1,v⟩|⟨c1,v⟩
  ·exact Far2.blk v (by decide)
  ·exact Far2.blk v (by decide)
 have hK : ∀M,GKeep M add add n n enc w f:=fun M=>GKeep.far L (C M)
 have J:=L.size
 have z:N<=f.heap.size:=Nat.le_trans h.nle J
 have notT : ∀{T:TypeId} {l:Array Value} {y:Nat},Blk w y T l->T≠97->T≠177->¬(y=H\/OwnB vu y):=fun I h1 h2 j=>by
  rcases typed _ j with ⟨c1,v⟩|⟨c1,v⟩
  ·exact Blk.ne_ I v h1 rfl
  ·exact Blk.ne_ I v h2 rfl
 have O : MapE f st.mb m := h.map.fr L (fun j=>by
  rcases typed _ j with ⟨c1,v⟩|⟨c1,v⟩
  ·exact h.map.ne_blk v rfl
  ·exact h.map.ne_blk v rfl)
 have E:f.ownsRow N 184 1 vm vs.length vs:=QaD S L (fun b l W v=>notT v (by decide) (by decide) W)
 obtain⟨Av,cv,rfl,Y⟩:=Qj E
 have D:=(a6.keep (hK w.heap.size).mvs).mono J
 have hG:GrAt f f.heap.size g add n enc q ⟨o.before,st.ats,o.bgn,x,o.moves,o.old,st.last+1⟩:=by
  refine⟨s,V,Av,vs.length,cv,vs,hq.lt,hq,(U.keep (hK N)).mono z,⟨?_,Q⟩,RowT.of_own E (Nat.le_refl _),Y,D,by have:=D.1;omega⟩
  obtain⟨_,_,I,_⟩:=Q
  exact I.lt
 have Z : ∀(i A:Nat) (G:Gr),(ps++[q])[i]? = some A->(st.undo++[(⟨o.before,st.ats,o.bgn,x,o.moves,o.old,st.last+1⟩:Gr)])[i]? = some G->GrAt f f.heap.size g add n enc A G:=fun i A G u d=>by
  rcases Nat.lt_or_ge i ps.length with a4|a1
  ·rw[List.getElem?_append_left a4] at u
   rw[List.getElem?_append_left (by omega)] at d
   exact((X i A G u d).keep (hK N)).mono z
  ·rw[List.getElem?_append_right a1] at u
   rw[List.getElem?_append_right (by omega),<-P] at d
   have R:i-ps.length=0:=by
    rcases Nat.eq_zero_or_pos (i-ps.length) with h0|h0
    ·exact h0
    ·rw[List.getElem?_eq_none (by simp;omega)] at u
     cases u
   rw[R] at u d
   simp at u d
   subst u
   subst d
   exact hG
 have a5:((ps++[q]).drop 1).length=ps.length:=by simp
 refine⟨a0,h.text.far L (fun k hk W=>(C N k hk W).1),h.ats,h.sz,h.lim0,O,⟨(ps++[q]).drop 1,?_,by simp[P],fun i A G u d=>?_,by simp;omega⟩,⟨[],World.ownsRow_nil _ _ _ _,rfl,fun i A G u=>(by simp at u),by simp⟩,fun b _ I=>(by cases I),rfl,Nat.le_refl _,?_,⟨h.low.1,h.low.2.1,Nat.le_trans h.low.2.2.1 z,fun _ e=>by cases e⟩⟩
 ·rw[a5,List.map_drop,List.map_append]
  exact K
 ·rw[List.getElem?_drop] at u d
  exact Z _ _ _ u d
 ·have:=h.nums
  dsimp only
  omega
theorem QoQ (N B j g:Nat)(enc lim:Int)(n:Nat)(add:Value)(st:BkS)(t:Tr)(a:Option Addr)(xs:List Value)(m:Nat)(vu vr:Value)(now:Option Addr)(o:OpS)(x:Int)(w:World)(h:BkAt w N B j g enc lim n add st t a xs m vu vr now)(hn:st.now=some o)(hx:0<=x/\x<=(st.ats.length:Int))(hc:o.changed=true)(f3:(st.undo.length:Int)=st.depth)(d4:st.last<1073741824) :
  Calls Tryz.prog 91 #[.pointer (some ⟨j,0,none⟩),.int .i64 x] w fun e w'=>e=.returned (.int .i64 0)/\(∃i4,BkAt w' w'.heap.size B j g enc lim n add { st with now:=none,undo:=(st.undo++[(⟨o.before,st.ats,o.bgn,x,o.moves,o.old,st.last+1⟩:Gr)]).drop 1,redo:=[],state:=st.last+1,last:=st.last+1 } t a xs m i4 (.slice none 0 0) none)/\BkFr B w w':=by
 have h6:=h.open_
 rw[hn] at h6
 obtain⟨p,rfl,s,m2,vm,vs,d6,m6,i7,e3,l2,f4⟩:=h6
 obtain⟨ps,d0,g8,j1,c0⟩:=h.undo
 have m0:(ps.length:Int)=st.depth:=by omega
 have l8:ps.length<=1048576:=by omega
 have j9:=Zh g8
 have l4:=Zh f3
 have l7:=Zh c0
 clear g8 f3 c0
 have g0:(QaM enc t.list).length=(QC enc t.list).length:=QaQ enc _
 have c8:=Qc9 j g _ Any enc (QC enc t.list) x w h.blk rfl ⟨lim,t,a,add,h.text.text,rfl⟩
 have hq:decide (0<=x/\x<=((QC enc t.list).length:Int))=true:=by
  rw[<-g0,h.ats]
  simpa using hx
 rw[hq] at c8
 have l0:=Zh c8
 have j3:=h.nums
 have HH:=Zh h
 have c6:=h.blk.cell 6
 simp at c6
 rw[hc] at d6
 have k8:=Zh d6
 have c5:=Zh d0
 have e1:IntKind.i64.wrap (st.last+1)=st.last+1:=IntWalk.i64_in _ (by omega)
 obtain⟨Au,cu,rfl,m5⟩:=Qj d0
 obtain⟨Am,cm,rfl,m8⟩:=Qj e3
 clear h c8 hq g0 d6 d0
 go_enter_defers Tryz.func91,Tryz.ntmps91
 go_wp2_with fail
 refine(l0.out).mono ?_
 rintro e w1 ⟨rfl,b1⟩
 have A:=HH.out.blk.below b1
 have b0:=k8.out.below b1
 have f7:=A.cell 6
 have i2:=b0.cell 9
 have d9:=A.cell 9
 have i6:=A.frozen 9
 have j2:p≠j:=Blk.ne_ b0 A (by decide)
 have F:=b0.far (p:=⟨j,9,none⟩) j2 (.int .i64 (st.last+1))
 have C:=(A.set_ 9 (.int .i64 (st.last+1))).eq_ (show _ = #[.pointer (some ⟨g,0,none⟩),.int .i64 st.depth,.slice Au ps.length cu,vr,.map (some m),.slice none 0 0,.pointer (some ⟨p,0,none⟩),.int .i64 st.state,.int .i64 st.saved,.int .i64 (st.last+1)] by simp)
 have k6:=C.cell 6
 have k0:=F.cell 0
 have k1:=F.cell 1
 have k2:=F.cell 2
 have k3:=F.cell 3
 have k4:=F.cell 4
 have k5:=F.cell 5
 have k7:=F.cell 6
 simp at f7 i2 d9 k6 k0 k1 k2 k3 k4 k5 k7
 go_upto_region 10 with fail
 obtain⟨l,a7⟩:=ZN (w1.setCell ⟨j,9,none⟩ (.int .i64 (st.last+1)))
 have b2:Fr (· = j) w l:=by rw[<-a7];exact(Fr.of_below b1).set1 9 _
 have h9:w1.heap.size=l.heap.size:=by rw[<-a7];simp[World.setCell]
 rw[a7] at C ⊢
 rw[h9]
 clear a7 F b0 k0 k1 k2 k3 k4 k5 k7 k6 f7 i2 d9 i6 A
 obtain⟨b7,-,-,-,-,-⟩:=HH.out.book b2
 have b8:l.ownsRow B 177 1 (.slice Au ps.length cu) ps.length (ps.map fun p=>Value.pointer (some ⟨p,0,none⟩)):=QaD c5.out b2 (fun b a6 E hc=>Blk.ne_ hc HH.out.blk (by decide) E)
 have h4:Blk (l.alloc (.cells #[.pointer (some ⟨s,0,none⟩),.pointer none,.int .i64 o.bgn,.int .i64 0,.slice Am vs.length cm,.int .i64 o.old,.int .i64 0] 182)) l.heap.size 182 #[.pointer (some ⟨s,0,none⟩),.pointer none,.int .i64 o.bgn,.int .i64 0,.slice Am vs.length cm,.int .i64 o.old,.int .i64 0]:=Blk.new l _ _
 have a8:ZB l (l.alloc (.cells #[.pointer (some ⟨s,0,none⟩),.pointer none,.int .i64 o.bgn,.int .i64 0,.slice Am vs.length cm,.int .i64 o.old,.int .i64 0] 182)):=Qa (Below.refl _ _)
 obtain⟨w3,f1⟩:=ZN (l.alloc (.cells #[.pointer (some ⟨s,0,none⟩),.pointer none,.int .i64 o.bgn,.int .i64 0,.slice Am vs.length cm,.int .i64 o.old,.int .i64 0] 182))
 rw[f1] at h4 a8 ⊢
 have g4 : ∀w',ZB l w'->w'.cell? ⟨j,0,none⟩=some (.pointer (some ⟨g,0,none⟩))/\w'.cell? ⟨j,9,none⟩=some (.int .i64 (st.last+1)):=fun w' hb=>⟨(C.below hb).cell 0,(C.below hb).cell 9⟩
 have Y:=Zh g4
 have j7:=Zh b7
 have b5:=Zh b8
 have f9:=Zh C
 have e6:=Zh b2
 clear f1 g4 b7 b8 C b2 b1 h9
 refine Qg (fun w'=>w'.cell? ⟨j,0,none⟩=some (.pointer (some ⟨g,0,none⟩))/\w'.cell? ⟨j,9,none⟩=some (.int .i64 (st.last+1))) (fun w'=>w'=w3.drew) (fun k=>k==4 || k==11 || k==13 || k==15) (fun _=>false) (fun _=>false) (by kernel_rfl) (by kernel_rfl) (rfl) (fun w' h=>by subst h;exact Y.out _ a8.drew) ?_
 iterate 4 ((first
  |(refine Qc (v:=?_) (by rfl) (by rfl) (fun w6 hSw=>?_) ?_;rotate_left;(·(obtain⟨y0,y1⟩:=hSw;go_simp;try with_reducible rfl)))
  |(refine Qd (v:=?_) (by rfl) (fun w6=>?_) ?_;rotate_left;(·(go_simp;try with_reducible rfl)))
  |refine Qe (by rfl) ?_);(try simp only[Act.put,pA,pB,pC]))
 refine Qn (f:=?_) (args:=?_) (fun v w'=>∃T,v=.pointer (some ⟨T,0,none⟩)/\EndS l g n add enc st.ats l.heap.size T #[.pointer (some ⟨s,0,none⟩),.pointer none,.int .i64 o.bgn,.int .i64 0,.slice Am vs.length cm,.int .i64 o.old,.int .i64 0] w') (by rfl) (by rfl) (fun w6 hSw=>?_) (fun w6 hSw=>?_) (.inr (fun v6 w6 hT6=>?_)) (fun v6 hv6=>?_)
 rotate_left 2
 ·(skip;go_simp;first|done|(constructor<;>with_reducible rfl)|with_reducible rfl)
 ·(subst hSw;refine(Qg5 B g enc lim n add t a xs _ (j7.out.below a8.drew) HH.out.sz).mono ?_;rintro e w' ⟨T,rfl,E,l9,g7⟩;rw[HH.out.ats] at E;exact⟨_,rfl,T,rfl,E,Qf a8.drew g7,h4.drew.below g7⟩)
 ·(obtain⟨T,-,hb⟩:=hT6;exact Y.out _ hb.2.1)
 obtain⟨wz,T,rfl,-⟩:=hv6
 (try simp only[Act.put,pA,pB,pC])
 iterate 6 ((first
  |(refine Qc (v:=?_) (by rfl) (by rfl) (fun w6 hSw=>?_) ?_;rotate_left;(·(obtain⟨y0,y1⟩:=hSw;go_simp;try with_reducible rfl)))
  |(refine Qd (v:=?_) (by rfl) (fun w6=>?_) ?_;rotate_left;(·(go_simp;try with_reducible rfl)))
  |refine Qe (by rfl) ?_);(try simp only[Act.put,pA,pB,pC]))
 refine Ql (fun _ w'=>EndS l g n add enc st.ats l.heap.size T #[.pointer (some ⟨s,0,none⟩),.pointer (some ⟨T,0,none⟩),.int .i64 o.bgn,.int .i64 0,.slice Am vs.length cm,.int .i64 o.old,.int .i64 0] w') (by rfl) (by rfl) (fun w6 hSw=>?_) (.inr (fun v6 w6 hT6=>?_)) (fun v6 hv6=>?_)
 ·(obtain⟨s',e',hb⟩:=hSw;injection e' with e';injection e' with e';injection e' with e';subst e';have y2:=hb.2.2.frozen 1;have y3:=hb.2.2.cell 1;go_simp;exact hb.set (Nat.le_refl _))
 ·(exact Y.out _ hT6.2.1)
 skip
 (try simp only[Act.put,pA,pB,pC])
 iterate 1 ((first
  |(refine Qc (v:=?_) (by rfl) (by rfl) (fun w6 hSw=>?_) ?_;rotate_left;(·(obtain⟨y0,y1⟩:=hSw;go_simp;try with_reducible rfl)))
  |(refine Qd (v:=?_) (by rfl) (fun w6=>?_) ?_;rotate_left;(·(go_simp;try with_reducible rfl)))
  |refine Qe (by rfl) ?_);(try simp only[Act.put,pA,pB,pC]))
 refine Ql (fun _ w'=>EndS l g n add enc st.ats l.heap.size T #[.pointer (some ⟨s,0,none⟩),.pointer (some ⟨T,0,none⟩),.int .i64 o.bgn,.int .i64 x,.slice Am vs.length cm,.int .i64 o.old,.int .i64 0] w') (by rfl) (by rfl) (fun w6 hSw=>?_) (.inr (fun v6 w6 hT6=>?_)) (fun v6 hv6=>?_)
 ·(have y2:=hSw.2.2.frozen 3;have y3:=hSw.2.2.cell 3;go_simp;exact hSw.set (Nat.le_refl _))
 ·(exact Y.out _ hT6.2.1)
 skip
 (try simp only[Act.put,pA,pB,pC])
 iterate 1 ((first
  |(refine Qc (v:=?_) (by rfl) (by rfl) (fun w6 hSw=>?_) ?_;rotate_left;(·(obtain⟨y0,y1⟩:=hSw;go_simp;try with_reducible rfl)))
  |(refine Qd (v:=?_) (by rfl) (fun w6=>?_) ?_;rotate_left;(·(go_simp;try with_reducible rfl)))
  |refine Qe (by rfl) ?_);(try simp only[Act.put,pA,pB,pC]))
 refine Ql (fun _ w'=>EndS l g n add enc st.ats l.heap.size T #[.pointer (some ⟨s,0,none⟩),.pointer (some ⟨T,0,none⟩),.int .i64 o.bgn,.int .i64 x,.slice Am vs.length cm,.int .i64 o.old,.int .i64 (st.last+1)] w') (by rfl) (by rfl) (fun w6 hSw=>?_) (.inr (fun v6 w6 hT6=>?_)) (fun v6 hv6=>?_)
 ·(have y2:=hSw.2.2.frozen 6;have y3:=hSw.2.2.cell 6;go_simp;exact hSw.set (Nat.le_refl _))
 ·(exact Y.out _ hT6.2.1)
 skip
 (try simp only[Act.put,pA,pB,pC])
 refine Qu ?_
 rintro w4 ⟨c3,a9,i0⟩
 have d:=f9.out.below a9
 have d2:=d.cell 2
 have d3:=d.cell 3
 have d7:=d.cell 7
 have d9:=d.cell 9
 have j4:=d.frozen 2
 have i8:=d.frozen 3
 have l5:=d.frozen 7
 simp at d2 d3 d7 d9
 have a5:=(d.set_ 7 (.int .i64 (st.last+1))).set_ 3 (.slice none 0 0)
 have R:=Qt (i:=3) (u:=.slice none 0 0) (Qt (i:=7) (u:=.int .i64 (st.last+1)) (QN b5.out a9) d (by decide)) (d.set_ 7 (.int .i64 (st.last+1))) (by decide)
 have i3:Fr (· = j) w4 ((w4.setCell ⟨j,7,none⟩ (.int .i64 (st.last+1))).setCell ⟨j,3,none⟩ (.slice none 0 0)):=((Fr.refl _ _).set1 7 _).set1 3 _
 obtain⟨ig,i1,g5,f8,f0⟩:=info_parts QcC
 have j0:B<=w4.heap.size:=by have:=HH.out.text.base;have:=e6.out.size;have:=a9.size;omega
 have n1:ps.length<=1048576:=by omega
 have g6:((w4.setCell ⟨j,7,none⟩ (.int .i64 (st.last+1))).setCell ⟨j,3,none⟩ (.slice none 0 0)).heap.size=w4.heap.size:=by simp[World.setCell]
 have c2:=Zh c3
 have d8:=Zh i0
 have h8:=Zh a9
 clear c3 i0 hv6
 go_wp2_with (at_builtin;go_loud (refine wpList_append_own_at _ rfl (.tmp 65) (.tmp 66) 93 rfl B 177 ig (.pointer none) 1 8 Tryz.underlying93 i1 g5 f8 f0 rfl (by decide) (.slice Au ps.length cu) ps.length _ rfl (R.alloc _) ⟨w4.heap.size,0,none⟩ 1 1 [.pointer (some ⟨l.heap.size,0,none⟩)] rfl rfl ?c1 (by simp[Value.oneCell']) (by unfold maxLen;omega) (by omega) (by simp[World.setCell];omega) ?_))
 case c1=>
  have:=cell_one_new ((w4.setCell ⟨j,7,none⟩ (.int .i64 (st.last+1))).setCell ⟨j,3,none⟩ (.slice none 0 0)) (.pointer (some ⟨l.heap.size,0,none⟩)) 177
  rw[g6] at this
  exact this
 intro v7 w7 L W _ b6
 have a0:=R.alloc (.cells #[.pointer (some ⟨l.heap.size,0,none⟩)] 177)
 have M:=a5.alloc (.cells #[.pointer (some ⟨l.heap.size,0,none⟩)] 177)
 have G:=M.grown W (fun e=>Qk a0 M (by decide) e.symm)
 obtain⟨A7,J,rfl,m7⟩:=Qj L
 have g2:=G.cell 2
 have n0:=G.frozen 2
 have P:=G.set_ 2 (.slice A7 (ps.length+1) J)
 have e4:=P.cell 1
 have e9:=P.cell 2
 simp at g2 e4 e9
 have q5:(st.depth<(ps.length:Int)+1)=True:=by simp;omega
 have q6:(st.depth<((ps.length+1:Nat):Int))=True:=by simp;omega
 have l3:=Zh L
 have g1:=Zh b6
 have j8:=Zh W
 have l6:=Zh a5
 have m1:=Zh R
 have b3:=Zh P
 have e5:=Zh G
 have e2:=Zh d
 have l1:=Zh i3
 clear a0 M L W b6 a5 R P G d i3 d2 d3 d7 d9 j4 i8 l5 i1 g5 f8 f0
 go_upto_region 14 with fail
 obtain⟨w8,c9⟩:=ZN (w7.setCell ⟨j,2,none⟩ (.slice A7 (ps.length+1) J))
 rw[c9] at e4 e9 b3 ⊢
 have e8:=Zh c9
 clear c9
 go_quiet (fail)
 have I:w8.ownsRow B 177 1 (.slice A7 (ps.length+1) J) (ps.length+1) ((ps.map fun p=>Value.pointer (some ⟨p,0,none⟩))++[.pointer (some ⟨l.heap.size,0,none⟩)]):=by
  have a1:=Qt (i:=2) (u:=.slice A7 (ps.length+1) J) l3.out e5.out (by decide)
  rw[e8.out] at a1
  exact a1
 have H:(w8.drewN nq).ownsRow B 177 1 (.slice A7 (ps.length+1) J) (ps.length+1) ((ps.map fun p=>Value.pointer (some ⟨p,0,none⟩))++[.pointer (some ⟨l.heap.size,0,none⟩)]):=⟨I.1,I.2⟩
 have q:=b3.out.drewN nq
 obtain⟨K,i5,X⟩:∃K,A7=some ⟨K,0,none⟩/\∃cs,Blk (w8.drewN nq) K 177 cs:=by
  rcases H.2 with ⟨_,U⟩|⟨r',c',cur,U,_,j5,_⟩
  ·omega
  ·injection U with U _ _
   exact⟨r',U,cur,j5⟩
 subst i5
 obtain⟨csr,X⟩:=X
 have j6:=q.cell 2
 simp at j6
 have b9 := Zh (Qq6 B K (ps.length+1) J _ _ H (by omega) (fun u hu=>by
  rcases List.mem_append.1 hu with h1|h1
  ·obtain⟨y,_,rfl⟩:=List.mem_map.1 h1
   rfl
  ·rw[List.mem_singleton] at h1
   rw[h1]
   rfl))
 have h5:K≠j:=Blk.ne_ X q (by decide)
 have h0:=Zh q
 clear I H q
 go_wp2_with fail
 refine(b9.out).mono ?_
 rintro e d1 ⟨rfl,D,b4⟩
 rw[Nat.add_sub_cancel] at D ⊢
 have z:=h0.out.fr b4 (fun e=>h5 e.symm)
 have k2:=z.cell 2
 have m9:=z.frozen 2
 have Z:=z.set_ 2 (.slice (some ⟨K,0,none⟩) ps.length J)
 have Q:=Qt (i:=2) (u:=.slice (some ⟨K,0,none⟩) ps.length J) D z (by decide)
 simp at k2
 have d5:=Zh Z
 have f6:=Zh Q
 have f5:=Zh b4
 have m3:OwnB (.slice (some ⟨K,0,none⟩) (ps.length+1) J) K:=rfl
 clear Z Q D z b9
 go_wp2_with fail
 have q:=d5.out
 refine leaves_cons (f:=126) (args := #[.pointer (some ⟨j,0,none⟩)]) (by simp) (by simp[go_sem]) ?_
 refine(QbA j _ (some ⟨p,0,none⟩) .returning _ q (by simp)).mono ?_
 rintro e u' m4 ⟨rfl,rfl,rfl⟩
 have e7:=QN b5.out h8.out
 have V:Fr (fun y=>y=j\/OwnB (.slice Au ps.length cu) y) w4 ((d1.setCell ⟨j,2,none⟩ (.slice (some ⟨K,0,none⟩) ps.length J)).setCell ⟨j,6,none⟩ (.pointer none)):=by
  have a1:Fr (fun y=>y=j\/OwnB (.slice Au ps.length cu) y) w4 _:=l1.out.more (fun _ _ h=>.inl h)
  have a2:=(a1.alloc (.cells #[.pointer (some ⟨l.heap.size,0,none⟩)] 177)).grown j8.out (fun k hk _=>.inr hk)
  have a3:=a2.setCell (p:=⟨j,2,none⟩) (.inl (.inl rfl)) (.slice (some ⟨K,0,none⟩) (ps.length+1) J)
  rw[e8.out] at a3
  have a4 := (a3.drewN nq).call f5.out (fun i hi E=>by
   subst E
   rcases g1.out with h|h
   ·exact .inr (by unfold OwnB;rw[<-h];rfl)
   ·have h':i=w4.heap.size+1:=Option.some.inj h
    have h3:i<w4.heap.size:=hi
    omega)
  exact(a4.setCell (p:=⟨j,2,none⟩) (.inl (.inl rfl)) _).setCell (p:=⟨j,6,none⟩) (.inl (.inl rfl)) _
 have c4:Fr (fun y=>y=j\/OwnB (.slice Au ps.length cu) y) w ((d1.setCell ⟨j,2,none⟩ (.slice (some ⟨K,0,none⟩) ps.length J)).setCell ⟨j,6,none⟩ (.pointer none)):=
  ((e6.out.more (fun _ _ h=>.inl h)).bel h8.out).call V (fun i hi E=>E)
 have O : ∀y,(y=j\/OwnB (.slice Au ps.length cu) y)->(∃a6,Blk w4 y 97 a6)\/(∃a6,Blk w4 y 177 a6):=fun y S=>by
  rcases S with rfl|S
  ·exact .inl ⟨_,e2.out⟩
  ·rcases e7.2 with ⟨U,_⟩|⟨r,c,cur,U,h1,h2,_⟩
   ·unfold OwnB at S;rw[U] at S;cases S
   ·unfold OwnB at S
    rw[U] at S
    have:r=y:=by simpa[Value.ownBlock] using S
    subst this
    exact .inr ⟨cur,h2⟩
 have f2 : GKeep w4.heap.size add add n n enc w4 ((d1.setCell ⟨j, 2, none⟩ (.slice (some ⟨K, 0, none⟩) ps.length J)).setCell ⟨j, 6, none⟩ (.pointer none)) := GKeep.far V (fun y _ S=>by
  rcases O _ S with ⟨c1,hc⟩|⟨c1,hc⟩
  ·exact Far2.blk hc (by decide)
  ·exact Far2.blk hc (by decide))
 have i9 := d8.out.fr V (fun S=>by
  rcases O _ S with ⟨c1,hc⟩|⟨c1,hc⟩
  ·exact Blk.ne_ d8.out hc (by decide) rfl
  ·exact Blk.ne_ d8.out hc (by decide) rfl)
 have g9 := c2.out.gkeep (N := w4.heap.size) (by
  obtain⟨_,_,hb,_⟩:=c2.out
  exact hb.lt) f2
 have h7:=Qt (i:=6) (u:=.pointer none) f6.out q (by decide)
 have g3:=(q.set_ 6 (.pointer none)).eq_ (show _ = #[.pointer (some ⟨g,0,none⟩),.int .i64 st.depth,.slice (some ⟨K,0,none⟩) ps.length J,.slice none 0 0,.map (some m),.slice none 0 0,.pointer none,.int .i64 (st.last+1),.int .i64 st.saved,.int .i64 (st.last+1)] by simp)
 refine⟨_,results_tmp rfl _ _ _,rfl,⟨.slice (some ⟨K,0,none⟩) ps.length J,HH.out.ended1 i7 e3 l2 f4 c4 g3 i9 g9 j9.out j1 c5.out h7 (by have:=l4.out;omega) d4⟩,?_⟩
 refine BkFr.of_fr c4 (fun y S E=>?_)
 rcases E with rfl|E
 ·exact⟨HH.out.low.1,_,_,HH.out.blk,.inr (.inr (.inl rfl))⟩
 ·rcases c5.out.2 with ⟨U,_⟩|⟨r,c',cur,U,k9,h2,_⟩
  ·unfold OwnB at E;rw[U] at E;cases E
  ·unfold OwnB at E
   rw[U] at E
   have:r=y:=by simpa[Value.ownBlock] using E
   subst this
   exact⟨k9,_,_,h2,.inr (.inr (.inr (.inr (.inr rfl))))⟩
end Go.Proofs.YtgiihhikdoikgaaGreat
