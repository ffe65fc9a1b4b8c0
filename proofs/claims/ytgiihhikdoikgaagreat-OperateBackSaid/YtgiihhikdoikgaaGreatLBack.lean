/-
  The walk of OperateBack.
-/
import Derived.Test.YtgiihhikdoikgaaGreatLBackOps
set_option linter.unusedSimpArgs false
set_option linter.unusedVariables false
set_option maxRecDepth 100000
set_option maxHeartbeats 32000000
namespace Go.Proofs.YtgiihhikdoikgaaGreat
open Go.RowKit
theorem Qgf (s:Start)(f0 t0 k0 i7:Int)(A:Option Addr)(n c:Nat)(w:World)(hl:Bts w Any A n s.data)(hB:Byt s.data)(h1:Qb4 s.native)(h2:Qb4 s.depth)(h3:Qb4 s.room)(h4:Qb4 f0)(h5:Qb4 t0)(h6:Qb4 i7) :
  Calls Tryz.prog 4 #[.agg #[.int .i64 s.enc,.slice A n c,.int .i64 s.native,.int .i64 s.depth,.int .i64 s.room],.agg #[.int .i64 f0,.int .i64 t0,.int .i64 k0],.int .i64 i7] w fun e w'=>e=.returned (.bool true)/\ZB w w':=by
 obtain⟨hE,I5,p1,i4,h9,z6⟩:=QpC s
 have C3:Byt s.l:=hB.take _
 obtain⟨se,H9⟩:∃x,s.enc=x:=⟨_,rfl⟩
 have i6:ZB w ((w.alloc (.cells #[.int .i64 s.enc,.slice A n c,.int .i64 s.native,.int .i64 s.depth,.int .i64 s.room] 49)).alloc (.cells #[.int .i64 f0,.int .i64 t0,.int .i64 k0] 29)):=Qa (Qa (Below.refl _ _))
 have a5:=(Blk.new w 49 #[.int .i64 s.enc,.slice A n c,.int .i64 s.native,.int .i64 s.depth,.int .i64 s.room]).alloc (.cells #[.int .i64 f0,.int .i64 t0,.int .i64 k0] 29)
 have l6:Blk ((w.alloc (.cells #[.int .i64 s.enc,.slice A n c,.int .i64 s.native,.int .i64 s.depth,.int .i64 s.room] 49)).alloc (.cells #[.int .i64 f0,.int .i64 t0,.int .i64 k0] 29)) (w.heap.size+1) 29 #[.int .i64 f0,.int .i64 t0,.int .i64 k0]:=Blk.new' (by simp)
 have E3:=QX i7 1 (by decide)
 have u9:=Zh (fun w'=>Qbh i7 1 w' h6 (by decide) (by decide))
 obtain⟨kd,D4⟩:=ZN (QQ i7 1)
 rw[D4] at u9 E3
 have G9:kd=0\/kd=1:=by omega
 clear D4 E3 h6 H9
 go_enter Tryz.func4,Tryz.ntmps4
 go_upto_region 1 with fail
 obtain⟨w1,b9⟩:∃x,((w.alloc (.cells #[.int .i64 s.enc,.slice A n c,.int .i64 s.native,.int .i64 s.depth,.int .i64 s.room] 49)).alloc (.cells #[.int .i64 f0,.int .i64 t0,.int .i64 k0] 29))=x:=⟨_,rfl⟩
 rw[b9] at a5 i6 l6 ⊢
 have k5:w.heap.size<=w.heap.size+1:=Nat.le_succ _
 obtain⟨b4,r8⟩:∃x,w.heap.size+1=x:=⟨_,rfl⟩
 rw[r8] at l6 k5 ⊢
 clear b9 r8
 obtain⟨g0,g1,g2,g3,g4⟩:=Qqf a5
 have g5:=Qir s A n c w1 (Reads.below hl i6) hB h1 h2 h3
 have n3:w.heap.size<=w1.heap.size:=i6.size
 have y6:=Zh l6
 have j7:=Zh g5
 clear g5 a5 l6
 go_wp2_with fail
 refine(j7.out).mono ?_
 rintro e w2 ⟨F,gb,gt,m,V,mk,j2,K8,K3,K7,ld,rfl,j1,t6⟩
 have hd:=j1.D.is (by omega) i4 ⟨h9,z6⟩
 have b7:=BankIs.of_new j1.D.bank j1.D.ge.2.2.2.2.1 j1.D.ge.2.2.2.2.2.1
 obtain⟨B,t4⟩:=ZN (w1.heap.size)
 have J9:b4<B:=by rw[<-t4];exact y6.out.lt
 rw[t4] at hd n3 b7
 have f6:=QlF (depth:=s.dep) (mk:=mk) hE C3
 have r6:szS (Qb s.E (Qhn s.E s.dep s.l mk).ats)=(s.l.length:Int):=by rw[f6];exact Qrq
 have d3:szS (Qb s.E (Qhn s.E s.dep s.l mk).ats)<=s.lim:=by rw[r6];exact p1
 have i5:(Qhn s.E s.dep s.l mk).now=none:=rfl
 have j5:(Qhn s.E s.dep s.l mk).undo=[]:=rfl
 have j8:(Qhn s.E s.dep s.l mk).last=0:=rfl
 have l4:(Qhn s.E s.dep s.l mk).depth=s.dep:=rfl
 have G5:mk=(Qhn s.E s.dep s.l mk).mb:=rfl
 have k7:=QqO ((dec s.E s.l).map Prod.fst) (fb:=s.nat) (by have:=QX s.native 2 (by decide);unfold Start.nat;omega)
 obtain⟨nv,o5⟩:=ZN (Qhq ((dec s.E s.l).map Prod.fst) s.nat)
 rw[o5] at hd k7
 obtain⟨E,y8⟩:∃x,s.E=x:=⟨_,rfl⟩
 obtain⟨lim,u6⟩:∃x,s.lim=x:=⟨_,rfl⟩
 rw[G5] at b7
 obtain⟨st,F3⟩:∃x,Qhn s.E s.dep s.l mk=x:=⟨_,rfl⟩
 have s8:(QhZ gb V nv).size=10:=rfl
 have y7:(QhZ gb V nv)[1]? = some (.pointer (some ⟨V,0,none⟩)):=rfl
 have x9:(QhZ gb V nv)[2]? = some (.int .i64 0):=rfl
 have s7:(QhZ gb V nv)[9]? = some (.int .i64 nv):=rfl
 obtain⟨dc,B4⟩:∃x,QhZ gb V nv=x:=⟨_,rfl⟩
 rw[F3] at hd d3 i5 j5 j8 l4 b7
 rw[B4] at hd s8 y7 x9 s7
 rw[y8,u6] at hd
 rw[y8] at d3
 rw[u6] at d3
 have y3:(1:Int)<=st.depth:=by rw[l4];exact h9
 have z4:=Zh (And.intro hd b7)
 have d5:=Zh (And.intro i5 (And.intro (show (st.undo.length:Int)<=st.depth by rw[j5];simp;omega) (And.intro j8 d3)))
 have HZ:=Zh (And.intro s8 (And.intro y7 (And.intro x9 (And.intro s7 k7))))
 have p8:=Zh (y6.out.below t6)
 clear t4 hd b7 f6 r6 d3 i5 j5 j8 l4 F3 B4 y8 u6 s8 y7 x9 s7 y3 j1 j7 hl hB C3 hE I5 p1 i4 h9 z6 h1 h2 h3 g0 g1 g2 g3 g4 o5 G5 y6 k7
 go_upto_region 2 with fail
 have A2:=Qf i6 t6
 have j9:Blk (w2.alloc (.cells #[.pointer (some ⟨F,0,none⟩),.pointer (some ⟨j2,0,none⟩)] 52)) w2.heap.size 52 #[.pointer (some ⟨F,0,none⟩),.pointer (some ⟨j2,0,none⟩)]:=Blk.new w2 _ _
 have Z:ZB w2 (w2.alloc (.cells #[.pointer (some ⟨F,0,none⟩),.pointer (some ⟨j2,0,none⟩)] 52)):=Qa (Below.refl _ _)
 obtain⟨bo,D6⟩:∃x,w2.heap.size=x:=⟨_,rfl⟩
 obtain⟨w3,o3⟩:∃x,w2.alloc (.cells #[.pointer (some ⟨F,0,none⟩),.pointer (some ⟨j2,0,none⟩)] 52)=x:=⟨_,rfl⟩
 rw[o3] at j9 Z ⊢
 rw[D6] at j9 ⊢
 have a6:=z4.out.1.below Z
 have e9:=z4.out.2.below Z
 have i2:=p8.out.below Z
 have k3:=Qf A2 Z
 clear o3 D6 t6 A2 z4 i6 p8 Z
 have K2:B<=F:=a6.low
 have K6:bo≠F:=Blk.ne_ j9 a6.desk (by decide)
 have C7:=Zh (Qk3 w3 bo)
 have l8:=Zh (And.intro a6 (And.intro e9 i2))
 have E2:=Zh j9
 clear a6 j9 e9 i2
 go_wp2_with fail
 refine(C7.out).mono ?_
 rintro e w4 ⟨rfl,a2⟩
 clear C7
 have K:=l8.out.1.below a2
 have f7:=E2.out.below a2
 have h7:=Qf k3 a2
 obtain⟨c0,-⟩:=Qcl f7
 have D2:=Zh (QbE K f7)
 have t1:st.ats.length<=65536:=K.len
 have c4:=Zh (And.intro K (And.intro (l8.out.2.1.below a2) (l8.out.2.2.below a2)))
 have E1:=Zh f7
 clear K f7 l8 E2 a2 k3
 go_wp2_with fail
 refine(D2.out).mono ?_
 rintro e w5 ⟨v5,rfl,m7,H⟩
 rw[List.length_map] at m7
 obtain⟨A5,c5,rfl,t2⟩:=Qj m7
 have y9:=IntsI.of_own m7
 clear D2 m7
 obtain⟨N,hN⟩:=ZN (st.ats.length)
 rw[hN] at t1 t2 y9 ⊢
 have HN:=Zh hN
 have C0:=Zh y9
 have G7:=c4.out.1.below H
 have B6:=c4.out.2.1.below H
 have n0:=c4.out.2.2.below H
 have p2:=E1.out.below H
 have y5:=Qf h7 H
 have m1:=QX f0 (N:Int) (by omega)
 have t7:=Zh (fun w'=>Qbh f0 (N:Int) w' h4 (by omega) (by omega))
 obtain⟨O,n9⟩:∃O:Nat,QQ f0 (N:Int)=(O:Int):=⟨(QQ f0 (N:Int)).toNat,by omega⟩
 rw[n9] at m1 t7
 have F8:=QX t0 ((N:Int)-(O:Int)) (by omega)
 have u4:=Zh (fun w'=>Qbh t0 ((N:Int)-(O:Int)) w' h5 (by omega) (by omega))
 obtain⟨d0,n7⟩:∃d0:Nat,QQ t0 ((N:Int)-(O:Int))=(d0:Int):=⟨(QQ t0 ((N:Int)-(O:Int))).toNat,by omega⟩
 rw[n7] at F8 u4
 obtain⟨X,G4⟩:=ZN (O+d0)
 have wN:IntKind.i64.wrap ((N:Int)-(O:Int))=(N:Int)-(O:Int):=IntWalk.i64_in _ (by omega)
 have wB:IntKind.i64.wrap ((O:Int)+(d0:Int))=(X:Int):=by rw[IntWalk.i64_in _ (by omega)];omega
 have G3:O<=X/\X<=N:=by omega
 obtain⟨u,S,t⟩:=QaR n0
 have J1:=n0.frozen 0
 have h8:=Zh (And.intro G7 (And.intro B6 (And.intro n0 p2)))
 clear G7 B6 n0 p2 n7 n9 G4 h4 h5 c4 E1 y9 H h7 hN m1 F8
 go_wp2_with fail
 refine(t7.out _).mono ?_
 rintro e w6 ⟨rfl,rfl⟩
 go_upto_region 6 with fail
 clear u S t J1 t7
 have n1:Fr (· = b4) w5 (w5.setCell ⟨b4,0,none⟩ (.int .i64 (O:Int))):=(Fr.refl _ _).set1 0 _
 have g8:=(h8.out.2.2.1.set_ 0 (.int .i64 (O:Int))).eq_ (show _ = #[.int .i64 (O:Int),.int .i64 t0,.int .i64 k0] by simp)
 have D7:ZB w (w5.setCell ⟨b4,0,none⟩ (.int .i64 (O:Int))):=bfr y5 n1 (fun i h=>by omega)
 obtain⟨w6,o6⟩:∃x,w5.setCell ⟨b4,0,none⟩ (.int .i64 (O:Int))=x:=⟨_,rfl⟩
 rw[o6] at n1 g8 D7 ⊢
 clear o6
 have F7 : ∀w',ZB w6 w'->w'.cell? ⟨b4,0,none⟩=some (.int .i64 (O:Int))/\w'.cell? ⟨b4,1,none⟩=some (.int .i64 t0)/\w'.frozen? ⟨b4,1,none⟩=false:=fun w' o=>⟨(g8.below o).cell 0,(g8.below o).cell 1,(g8.below o).frozen 1⟩
 have n5:=Zh F7
 have z9:=Zh g8
 clear F7 g8
 refine Qah (fun w'=>ZB w6 w') (fun k=>k==12) ([(9,fun v _=>v=.int .i64 (d0:Int))]) (fun _ _=>False) (by kernel_rfl) (by kernel_rfl) (Below.drew (Below.refl _ _)) (fun _ _ h o=>Qf h o) (⟨fun _ _ _ h _=>h,trivial⟩) (fun _ _ _ _ h=>h.elim) ?_
 repeat ((first
  |(refine QU (v:=?_) (by rfl) (by rfl) (by rfl) (fun w6 hSw=>?_) ?_;rotate_left;(·(obtain⟨Q,y1,y2⟩:=n5.out _ hSw.1;go_simp;try with_reducible rfl)))
  |refine Qak (by rfl) (by rfl) (by rfl) ?_);(try simp only[Act.put,pA,pB,pC]))
 refine QaP (f:=?_) (args:=?_) (.int .i64 (d0:Int)) (by rfl) (by rfl) (by rfl) (by rfl) (fun w6 hSw=>?_) (fun w6 hSw=>?_) ?_
 rotate_left 2
 ·(skip;go_simp;first|done|(constructor<;>with_reducible rfl)|with_reducible rfl)
 ·(refine(u4.out _).mono ?_;rintro e w' ⟨rfl,rfl⟩;exact⟨rfl,Below.refl _ _⟩)
 (try simp only[Act.put,pA,pB,pC])
 repeat ((first
  |(refine QU (v:=?_) (by rfl) (by rfl) (by rfl) (fun w6 hSw=>?_) ?_;rotate_left;(·(obtain⟨Q,y1,y2⟩:=n5.out _ hSw.1;go_simp;try with_reducible rfl)))
  |refine Qak (by rfl) (by rfl) (by rfl) ?_);(try simp only[Act.put,pA,pB,pC]))
 refine QbY (by rfl) ?_
 refine QfI (fun _ x7=>∃w',ZB w6 w'/\x7=w'.setCell ⟨b4,1,none⟩ (.int .i64 (X:Int))) (by rfl) (fun w6 hSw=>?_) (fun v6 hv6=>?_)
 ·(obtain⟨Q,y1,y2⟩:=n5.out _ hSw.1;go_simp;exact⟨w6,hSw.1,rfl⟩)
 skip
 (try simp only[Act.put,pA,pB,pC])
 refine QbW ?_
 rintro w8 ⟨w7,hb7,rfl⟩
 have u7:Fr (· = b4) w5 (w7.setCell ⟨b4,1,none⟩ (.int .i64 (X:Int))):=(n1.bel hb7).set1 1 _
 have j3:=((z9.out.below hb7).set_ 1 (.int .i64 (X:Int))).eq_ (show _ = #[.int .i64 (O:Int),.int .i64 (X:Int),.int .i64 k0] by simp)
 obtain⟨w8,o7⟩:∃x,w7.setCell ⟨b4,1,none⟩ (.int .i64 (X:Int))=x:=⟨_,rfl⟩
 rw[o7] at u7 j3 ⊢
 clear o7 hb7 n1 D7 n5 z9 u4 wN wB
 have t:=j3.cell 2
 have f2:=j3.frozen 2
 simp only[List.getElem?_toArray,List.getElem?_cons_succ,List.getElem?_cons_zero] at t
 have A0:=Zh j3
 have z5:=Zh u7
 clear j3 u7
 go_wp2_with fail
 refine(u9.out _).mono ?_
 rintro e w9 ⟨rfl,rfl⟩
 go_upto_region 8 with fail
 clear t f2 u9
 have x4:=(A0.out.set_ 2 (.int .i64 kd)).eq_ (show _ = #[.int .i64 (O:Int),.int .i64 (X:Int),.int .i64 kd] by simp)
 have u8:Fr (· = b4) w5 (w8.setCell ⟨b4,2,none⟩ (.int .i64 kd)):=z5.out.set1 2 _
 obtain⟨w9,r0⟩:∃x,w8.setCell ⟨b4,2,none⟩ (.int .i64 kd)=x:=⟨_,rfl⟩
 rw[r0] at u8 x4 ⊢
 clear r0 A0 z5
 have keep:=QdG k5 y5 h8.out.1 h8.out.2.1 h8.out.2.2.1 h8.out.2.2.2 C0.out u8
 have T:=Zh x4
 have g:=Zh keep
 clear x4 keep u8 h8 C0 y5
 obtain⟨Q,-⟩:=Qcl g.out.2.2.1
 have e0:=(g.out.1.desk.cell 0).trans g.out.1.c0
 have D3:=Zh (Qeo g.out.1)
 go_wp2_with fail
 refine(D3.out).mono ?_
 rintro e wz ⟨rfl,rfl⟩
 clear Q e0 D3
 obtain⟨u,S,t⟩:=QaR T.out
 go_upto_if 60 with fail
 have z8:(Qb E st.ats).length=N:=by rw[Qr];exact HN.out
 have d7:=Zh z8
 clear z8
 go_cut [] (fun wx=>∃a b:Nat,Hid (Blk wx b4 29 #[.int .i64 (a:Int),.int .i64 (b:Int),.int .i64 kd])/\Hid (Fr (· = b4) w9 wx)/\Hid (BackOk (Qb E st.ats) kd nv a b))
 case first=>
  as_aux_lemma=>
   rcases G9 with I4|J6
   ·subst I4
    have J:=Zh (show BackOk (Qb E st.ats) 0 nv O X from ⟨G3.1,by rw[d7.out];exact G3.2,.inl rfl⟩)
    go_wp2_with fail
    go_meet
    exact⟨O,X,Zh T.out,Zh (Fr.refl _ _),Zh J.out⟩
   ·subst J6
    have hp:=g.out.1.pos
    have t5:=Zh (fun(w':World) (o:ZB w9 w')=>QbD Any gt E (Qb E st.ats) w' (g.out.1.below o).at_)
    have J7 := @Qbf (Qb E st.ats)
    have I6:QaG (Qb E st.ats)<=65536:=Nat.le_trans (Qct _ _) (by rw[d7.out];exact t1)
    have n2:=Qfl (Qb E st.ats) (X:Int)
    have C5:=QX (O:Int) ((QL (Qb E st.ats):Int)-1) (by omega)
    obtain⟨i1,q6⟩:∃i1:Nat,QQ (O:Int) ((QL (Qb E st.ats):Int)-1)=(i1:Int):=⟨(QQ (O:Int) ((QL (Qb E st.ats):Int)-1)).toNat,by omega⟩
    have l9:=Zh (fun w'=>Qbh (O:Int) ((QL (Qb E st.ats):Int)-1) w' ⟨by omega,by omega⟩ (by omega) (by omega))
    rw[q6] at C5 l9
    have C4:i1<QL (Qb E st.ats):=by omega
    have m5:i1<=QaG (Qb E st.ats):=by omega
    have I0:=Zh (fun(w':World) (o:ZB w9 w') (hf:Fr (· = b4) w9 w')=>trivial)
    have b3:=Q3 hp m5
    have i0:=Q3 hp n2
    rw[d7.out] at b3 i0
    obtain⟨j,i3⟩:∃j:Nat,(Qo (Qb E st.ats) i1).from_=(j:Int):=⟨_,Qbd _ _⟩
    obtain⟨m0,r,B2,a5,a3⟩:∃(m0 r:Nat),m0<=QaG (Qb E st.ats)/\(Qo (Qb E st.ats) m0).next=(r:Int)/\(if (j:Int)<(Qo (Qb E st.ats) (ofF (Qb E st.ats) (X:Int))).next then (Qo (Qb E st.ats) (ofF (Qb E st.ats) (X:Int))).next else (Qo (Qb E st.ats) i1).next)=(r:Int):=by
     split
     ·exact⟨_,(Qo (Qb E st.ats) (ofF (Qb E st.ats) (X:Int))).next.toNat,n2,by omega,by omega⟩
     ·exact⟨_,(Qo (Qb E st.ats) i1).next.toNat,m5,by omega,by omega⟩
    have l5:=fun(h1:r<N) (h2:j<r) h3 h4=>QkQ (nv:=nv) hp C4 B2 i3 a5 (by rw[d7.out];exact h1) h2 h3 h4
    rw[Qaq] at l5
    have o9:=Zh l5
    have b6:=fun(w':World) (o:DeskIs w' B F gb gt E lim 0 st dc)=>Qc0 Any gt E (Qb E st.ats) i1 w' o.at_ m5
    have x5:=fun(w':World) (o:DeskIs w' B F gb gt E lim 0 st dc)=>Qfm Any gt E (Qb E st.ats) (X:Int) w' o.at_
    have c6:=fun(w':World) (o:DeskIs w' B F gb gt E lim 0 st dc)=>Qc0 Any gt E (Qb E st.ats) (ofF (Qb E st.ats) (X:Int)) w' o.at_ n2
    obtain⟨M,hM⟩:=ZN (QL (Qb E st.ats))
    obtain⟨iy,o4⟩:=ZN (ofF (Qb E st.ats) (X:Int))
    rw[o4] at x5 c6 a3 i0
    obtain⟨⟨x0,x1,x2,x3⟩,G1⟩:∃L,Qo (Qb E st.ats) i1=L:=⟨_,rfl⟩
    obtain⟨⟨z0,z1,z2,z3⟩,A4⟩:∃L,Qo (Qb E st.ats) iy=L:=⟨_,rfl⟩
    rw[G1] at b6 i3 a3 b3
    rw[A4] at c6 a3 i0
    simp only[Ln.cells] at b6 c6
    dsimp only at i3 a3 b3 i0
    rw[i3] at b6
    rw[hM] at t5 l9
    have wM:IntKind.i64.wrap ((M:Int)-1)=(M:Int)-1:=IntWalk.i64_in _ (by omega)
    have p5:=Zh b6
    have p6:=Zh c6
    have F0:=Zh x5
    have o1:=Zh a3
    have K0:=Zh (And.intro b3 i0)
    clear hp J7 I6 n2 C5 q6 C4 m5 b3 i0 B2 a5 a3 l5 b6 c6 x5 hM o4 G1 A4 i3 I0
    go_wp2_with fail
    refine(t5.out _ (Below.refl _ _)).mono ?_
    rintro e v1 ⟨rfl,Y⟩
    have D9:=(T.out.below Y).cell 0
    simp only[List.getElem?_toArray,List.getElem?_cons_zero] at D9
    clear u S t
    go_wp2_with fail
    refine(l9.out _).mono ?_
    rintro e v2 ⟨rfl,rfl⟩
    go_wp2_with fail
    refine(p5.out _ (g.out.1.below Y)).mono ?_
    rintro e v2 ⟨rfl,g9⟩
    clear D9 wM
    go_upto_region 12 with fail
    have kx:=Blk.new v2 59 #[.int .i64 (j:Int),.int .i64 x1,.int .i64 x2,.int .i64 x3]
    have U:ZB w9 (v2.alloc (.cells #[.int .i64 (j:Int),.int .i64 x1,.int .i64 x2,.int .i64 x3] 59)):=Qa (Qf Y g9)
    obtain⟨bx,p9⟩:∃x,v2.heap.size=x:=⟨_,rfl⟩
    obtain⟨v3,r9⟩:∃x,v2.alloc (.cells #[.int .i64 (j:Int),.int .i64 x1,.int .i64 x2,.int .i64 x3] 59)=x:=⟨_,rfl⟩
    rw[p9] at kx ⊢
    rw[r9] at kx U ⊢
    clear p9 r9 Y g9
    obtain⟨⟨c0,c1,c2,c3⟩,-⟩:=QK (l:=⟨j,x1,x2,x3⟩) kx
    dsimp only at c0 c1 c2 c3
    obtain⟨u,S,t⟩:=QaR (T.out.below U)
    have f0:=(T.out.below U).frozen 0
    go_upto_region 13 with fail
    have g6:Fr (· = b4) w9 (v3.setCell ⟨b4,0,none⟩ (.int .i64 (j:Int))):=(Fr.of_below U).set1 0 _
    have a7:=((T.out.below U).set_ 0 (.int .i64 (j:Int))).eq_ (show _ = #[.int .i64 (j:Int),.int .i64 (X:Int),.int .i64 1] by simp)
    have s9:=kx.far (p:=⟨b4,0,none⟩) (Blk.ne_ kx (T.out.below U) (by decide)) (.int .i64 (j:Int))
    obtain⟨v4,o0⟩:∃x,v3.setCell ⟨b4,0,none⟩ (.int .i64 (j:Int))=x:=⟨_,rfl⟩
    rw[o0] at g6 a7 s9 ⊢
    clear o0 c0 c1 c2 c3 u S t f0 kx U
    have K:=QdG (w0:=w) k5 g.out.2.2.2.2 g.out.1 g.out.2.1 T.out g.out.2.2.1 g.out.2.2.2.1 g6
    obtain⟨u,S,t⟩:=QaR a7
    have c4:=Zh K
    have m4:=Zh a7
    have E4:=Zh s9
    have b8:=Zh g6
    clear K a7 s9 g6
    go_wp2_with fail
    refine(F0.out _ c4.out.1).mono ?_
    rintro e v5 ⟨rfl,u1⟩
    go_wp2_with fail
    refine(p6.out _ (c4.out.1.below u1)).mono ?_
    rintro e v6 ⟨rfl,hv6⟩
    clear u S t
    go_upto_region 14 with fail
    have kz:=Blk.new v6 59 #[.int .i64 z0,.int .i64 z1,.int .i64 z2,.int .i64 z3]
    have W:ZB v4 (v6.alloc (.cells #[.int .i64 z0,.int .i64 z1,.int .i64 z2,.int .i64 z3] 59)):=Qa (Qf u1 hv6)
    obtain⟨bz,p3⟩:∃x,v6.heap.size=x:=⟨_,rfl⟩
    obtain⟨v7,s4⟩:∃x,v6.alloc (.cells #[.int .i64 z0,.int .i64 z1,.int .i64 z2,.int .i64 z3] 59)=x:=⟨_,rfl⟩
    rw[p3] at kz ⊢
    rw[s4] at kz W ⊢
    clear p3 s4 u1 hv6 F0 p6 t5 l9 p5
    obtain⟨⟨c0,c1,c2,c3⟩,-⟩:=QK (l:=⟨z0,z1,z2,z3⟩) kz
    obtain⟨⟨g0,g1,g2,g3⟩,-⟩:=QK (l:=⟨j,x1,x2,x3⟩) (E4.out.below W)
    dsimp only at c0 c1 c2 c3 g0 g1 g2 g3
    obtain⟨u,S,t⟩:=QaR (m4.out.below W)
    have f1:=(m4.out.below W).frozen 1
    have G0:=((m4.out.below W).set_ 1 (.int .i64 (r:Int))).eq_ (show _ = #[.int .i64 (j:Int),.int .i64 (r:Int),.int .i64 1] by simp)
    have A3:Fr (· = b4) w9 (v7.setCell ⟨b4,1,none⟩ (.int .i64 (r:Int))):=(b8.out.bel W).set1 1 _
    have k8:=Zh (And.intro G0 A3)
    clear G0 A3 kz
    go_upto_if 89 with fail
    go_cut [] (fun wx=>Hid (Blk wx b4 29 #[.int .i64 (j:Int),.int .i64 (r:Int),.int .i64 1])/\Hid (Fr (· = b4) w9 wx))
    case first=>
     have hc:=o1.out
     by_cases hzz:(j:Int)<z2
     ·rw[if_pos hzz] at hc
      have q:((j:Int)<z2)=True:=by simp;exact hzz
      subst hc
      have q2:(j<r)=True:=by simp;omega
      go_wp2_with fail
      all_goals first|(exfalso;omega)|(go_meet;exact⟨Zh k8.out.1,Zh k8.out.2⟩)
     ·rw[if_neg hzz] at hc
      have q:((j:Int)<z2)=False:=by simp;omega
      subst hc
      go_wp2_with fail
      all_goals first|(exfalso;omega)|(go_meet;exact⟨Zh k8.out.1,Zh k8.out.2⟩)
    case rest=>
     obtain⟨d4,b5⟩:=hcut
     clear c0 c1 c2 c3 g0 g1 g2 g3 u S t f1 k8 E4 b8 m4 c4 o1
     obtain⟨u,S,t⟩:=QaR d4.out
     have j6:ZB w wc:=bfr g.out.2.2.2.2 b5.out (fun i e=>by omega)
     have k6:=Zh j6
     have k4:=(QdG (w0:=w) k5 g.out.2.2.2.2 g.out.1 g.out.2.1 T.out g.out.2.2.1 g.out.2.2.2.1 b5.out).2.2.2.1
     have H7:=fun(k:Nat) (hk:k<N)=>Ints.at_ k4.any hk
     have l7:=Zh H7
     clear j6 k4 H7
     as_aux_lemma=>
      by_cases c1:N<=r
      ·have q1:((N:Int)<=(r:Int))=True:=by simp;omega
       have q2:(N<=r)=True:=by simp;omega
       go_wp2_with fail
       go_ret
       exact⟨rfl,k6.out⟩
      ·have q1:((N:Int)<=(r:Int))=False:=by simp;omega
       have q2:(N<=r)=False:=by simp;omega
       by_cases c2:r<=j
       ·have q3:((r:Int)<=(j:Int))=True:=by simp;omega
        have q4:(r<=j)=True:=by simp;omega
        go_wp2_with fail
        go_ret
        exact⟨rfl,k6.out⟩
       ·have q3:((r:Int)<=(j:Int))=False:=by simp;omega
        have q4:(r<=j)=False:=by simp;omega
        obtain⟨x,hx⟩:=ZN ((st.ats.map Prod.fst).getD (r-1) 0)
        obtain⟨y,hy⟩:=ZN ((st.ats.map Prod.fst).getD r 0)
        obtain⟨z,hz⟩:=ZN ((st.ats.map Prod.fst).getD (j-1) 0)
        have K4:IntKind.i64.wrap ((r:Int)-1)=((r-1:Nat):Int):=by rw[IntWalk.i64_in _ (by omega)];omega
        have r1:(0:Int)<=((r-1:Nat):Int):=by omega
        have r2:((r-1:Nat):Int)<(N:Int):=by omega
        have r3:r-1<N:=by omega
        have r4:(r:Int)<(N:Int):=by omega
        have r5:r<N:=by omega
        have p7:=fun(hh:x=10\/x=13) (hn : ¬(0<j/\z=13/\y=10))=>o9.out (by omega) (by omega) (by rw[hx];exact hh) (by rw[hz,hy];exact hn)
        have J:=Zh (fun(hh:x=10\/x=13) (hn : ¬(0<j/\z=13/\y=10))=>show BackOk (Qb E st.ats) 1 nv j r from ⟨by omega,by rw[d7.out];omega,.inr ⟨rfl,by omega,by rw[d7.out];omega,by have:=p7 hh hn;rw[Qaq];exact this⟩⟩)
        obtain⟨ad,rfl,_,cx⟩:=l7.out (r-1) (by omega)
        obtain⟨J0,e',_,cy⟩:=l7.out r (by omega)
        injection e' with e'
        subst e'
        rw[hx] at cx
        rw[hy] at cy
        clear p7 hx hy o9
        have p0:((0:Int)<(r:Int))=True:=by simp;omega
        by_cases d:x=10\/x=13
        ·have f3:=Zh (J.out d)
         clear J
         by_cases m1:0<j
         ·have k1:((0:Int)<(j:Int))=True:=by simp;omega
          have k2:(0<j)=True:=by simp;omega
          have K9:IntKind.i64.wrap ((j:Int)-1)=((j-1:Nat):Int):=by rw[IntWalk.i64_in _ (by omega)];omega
          have l1:(0:Int)<=((j-1:Nat):Int):=by omega
          have l2:((j-1:Nat):Int)<(N:Int):=by omega
          have l3:j-1<N:=by omega
          obtain⟨J0,e',_,cz⟩:=l7.out (j-1) (by omega)
          injection e' with e'
          subst e'
          rw[hz] at cz
          clear hz l7
          have i8:=Zh d
          clear d
          by_cases hz3:z=13
          ·subst hz3
           by_cases hy0:y=10
           ·subst hy0
            rcases i8.out with d|d
            ·subst d
             go_wp2_with fail
             go_ret
             exact⟨rfl,k6.out⟩
            ·subst d
             go_wp2_with fail
             go_ret
             exact⟨rfl,k6.out⟩
           ·have v1:(y==10)=false:=by rw[beq_eq_false_iff_ne];exact hy0
            have HG:=Zh (f3.out (fun h=>hy0 h.2.2))
            rcases i8.out with d|d
            ·subst d
             go_wp2_with fail
             go_meet
             exact⟨j,r,d4,b5,HG⟩
            ·subst d
             go_wp2_with fail
             go_meet
             exact⟨j,r,d4,b5,HG⟩
          ·have v1:(z==13)=false:=by rw[beq_eq_false_iff_ne];exact hz3
           have HG:=Zh (f3.out (fun h=>hz3 h.2.1))
           rcases i8.out with d|d
           ·subst d
            go_wp2_with fail
            go_meet
            exact⟨j,r,d4,b5,HG⟩
           ·subst d
            go_wp2_with fail
            go_meet
            exact⟨j,r,d4,b5,HG⟩
         ·have k1:((0:Int)<(j:Int))=False:=by simp;omega
          have k2:(0<j)=False:=by simp;omega
          have HG:=Zh (f3.out (fun h=>m1 h.1))
          have i8:=Zh d
          clear d
          rcases i8.out with d|d
          ·subst d
           go_wp2_with fail
           go_meet
           exact⟨j,r,d4,b5,HG⟩
          ·subst d
           go_wp2_with fail
           go_meet
           exact⟨j,r,d4,b5,HG⟩
        ·have v1:(x != 10)=true:=by rw[bne_iff_ne];exact fun h=>d (.inl h)
         have v2:(x != 13)=true:=by rw[bne_iff_ne];exact fun h=>d (.inr h)
         clear d
         go_wp2_with fail
         go_ret
         exact⟨rfl,k6.out⟩
 case rest=>
  obtain⟨a,b,HS,HF,d6⟩:=hcut
  clear u S t
  have keep:=QdG (w0:=w) k5 g.out.2.2.2.2 g.out.1 g.out.2.1 T.out g.out.2.2.1 g.out.2.2.2.1 HF.out
  have I:=Zh keep
  clear keep
  have p4:=d6.out.kinds
  have f8:a<=b/\b<=N:=⟨d6.out.1,by have:=d6.out.2.1;rw[d7.out] at this;exact this⟩
  obtain⟨Q,-⟩:=Qcl I.out.2.2.1
  obtain⟨u,S,t⟩:=QaR HS.out
  by_cases hE:a=b
  ·as_aux_lemma=>
    have E9:kd=0:=by
     rcases d6.out.2.2 with h|h
     ·exact h
     ·have:=h.2.1
      omega
    subst E9
    subst hE
    have C9:=Zh (Qk4 I.out.1 97 (a:Int) ⟨by omega,by rw[HN.out];omega⟩)
    go_wp2_with fail
    refine(C9.out).mono ?_
    rintro e v1 ⟨rfl,Y⟩
    clear C9 u S t Q
    have Q:=(I.out.2.2.1.below Y).cell 0
    simp only[List.getElem?_toArray,List.getElem?_cons_zero] at Q
    obtain⟨u,S,t⟩:=QaR (HS.out.below Y)
    have J4:=Zh (QhA (I.out.1.below Y) d5.out.1 HZ.out.1 0 0 (a:Int) HZ.out.2.2.1 ⟨by omega,by rw[HN.out];omega⟩ d5.out.2.1)
    have J3:=Zh (Qf I.out.2.2.2.2 Y)
    clear Y
    go_wp2_with fail
    refine(J4.out).mono ?_
    rintro e v2 ⟨rfl,-,I7⟩
    have J := Zh (bfr J3.out I7 (fun i e=>by
     rcases e with ⟨e,_⟩|e
     ·omega
     ·exact e.elim))
    go_wp2_with fail
    go_ret
    exact⟨rfl,J.out⟩
  ·have m8:a<b:=by omega
   have E8:=Zh (Qmc I.out.1 I.out.2.1 HZ.out.2.1 HZ.out.2.2.1 HZ.out.2.2.2.1 HZ.out.2.2.2.2 d6.out m8)
   go_wp2_with fail
   refine(E8.out).mono ?_
   rintro e v1 ⟨rfl,y1,h9,a5,F1⟩
   clear E8 u S t Q
   have keep:=Qg2 n3 I.out.2.2.2.2 I.out.1 I.out.2.1 HS.out I.out.2.2.1 I.out.2.2.2.1 F1
   obtain⟨v0,H2,B3,D1⟩:=keep
   obtain⟨u,S,t⟩:=QaR v0
   have H1:=Zh (And.intro h9 (And.intro a5 (And.intro v0 (And.intro H2 (And.intro B3 D1)))))
   clear h9 a5 v0 H2 B3 D1 F1 I g HF T
   go_upto_region 20 with fail
   go_cut [161] (fun s wx=>s=.bool false/\wx=v1)
   case first=>
    as_aux_lemma=>
     rcases p4 with h|h
     ·subst h
      have q1:((a:Int)=(b:Int))=False:=by simp;omega
      have q2:(a=b)=False:=by simp;omega
      go_wp2_with fail
      go_meet
      exact⟨by simp;omega,rfl⟩
     ·subst h
      go_wp2_with fail
      go_meet
      exact⟨rfl,rfl⟩
   case rest=>
    obtain⟨rfl,rfl⟩:=hcut
    have H5:=Zh (QbE H1.out.1 H1.out.2.2.2.1)
    go_wp2_with fail
    refine(H5.out).mono ?_
    rintro e v2 ⟨vv,rfl,C,g9⟩
    rw[List.length_map,HN.out] at C
    obtain⟨A7,c7,rfl,-⟩:=Qj C
    have j4:=Zh (Qca (c:=c7) (c':=c5) (IntsI.of_own C).any (H1.out.2.2.2.2.1.bel g9).any (by omega))
    have C6:=Zh g9
    clear C g9 H5
    go_wp2_with fail
    refine(j4.out).mono ?_
    rintro e v3 ⟨rfl,U⟩
    clear j4 u S t
    go_upto_region 24 with fail
    have d9:=Qf C6.out U
    have a6:=H1.out.1.below d9
    have e9:=H1.out.2.1.below d9
    have i2:=H1.out.2.2.1.below d9
    have C1:=H1.out.2.2.2.1.below d9
    have A1:=H1.out.2.2.2.2.1.bel d9
    have k3:=Qf H1.out.2.2.2.2.2 d9
    clear d9 U C6 H1
    obtain⟨L,hL⟩:=ZN (st.ats.map Prod.fst)
    obtain⟨P,hP⟩:=ZN (seg (a:Int) (b:Int) L)
    have s5:L.length=N:=by rw[<-hL,List.length_map];exact HN.out
    have s3:DcOk (dc.setIfInBounds 2 (.int .i64 y1)) V nv y1:=(show DcOk dc V nv 0 from ⟨HZ.out.1,HZ.out.2.1,HZ.out.2.2.1,HZ.out.2.2.2.1⟩).to y1
    have m9:=fun(w':World) (o:ZB v3 w')=>QnP (a6.below o) d5.out.1 s3 (e9.below o) HZ.out.2.2.2.2 d5.out.2.2.2 (by decide) d5.out.2.1 d5.out.2.2.1 d6.out m8
    rw[hL,hP] at m9
    obtain⟨k9,i9⟩:=Qmb (R:=fun _=>none) (kd:=kd) (ys:=P) (by rw[<-hP];exact Ql2 m8 (by rw[s5];exact f8.2))
    rw[hL,hP] at e9
    obtain⟨R2,n4⟩:∃x,(Qea (Qc7 (fun _=>none) (ykF 97) kd P) 34 kd P).1=x:=⟨_,rfl⟩
    obtain⟨u2,x8⟩:∃x,(Qea (Qc7 (fun _=>none) (ykF 97) kd P) 34 kd P).2=x:=⟨_,rfl⟩
    rw[n4,x8] at m9
    rw[n4] at i9
    rw[n4,x8] at k9
    obtain⟨G,hG⟩:=ZN (QbP L a b)
    obtain⟨M,hM⟩:=ZN (G.length)
    have K5:M<=1000000:=by rw[<-hM,<-hG,QeO f8.1 (by rw[s5];exact f8.2),s5];omega
    have f5:=fun(w':World) (hf:DFr B (DKs F V st.mb) v3 w')=>Qg2 n3 k3 a6 e9 i2 C1 A1 hf
    rw[hL] at f5
    have o2 : ∀w',DFr B (DKs F V st.mb) v3 w'->w'.cell? ⟨bo,0,none⟩=some (.pointer (some ⟨F,0,none⟩))/\w'.cell? ⟨b4,0,none⟩=some (.int .i64 (a:Int))/\w'.cell? ⟨b4,1,none⟩=some (.int .i64 (b:Int))/\w'.cell? ⟨b4,2,none⟩=some (.int .i64 kd):=fun w' hf=>by
     obtain⟨h1,h2,_,_⟩:=f5 w' hf
     exact⟨h2.cell 0,h1.cell 0,h1.cell 1,h1.cell 2⟩
    have u5:=fun(A':Option Addr) (w':World) (hI:IntsI w' A' N L)=>Qox A' N c5 a b L w' hI (by omega) t2 f8
    have o8:=fun(w':World) (hg:GoneD B F gb gt V E lim kd nv u2 (0+131072) st a b R2 w') (ho:Blk w' bo 52 #[.pointer (some ⟨F,0,none⟩),.pointer (some ⟨j2,0,none⟩)])=>show Calls Tryz.prog 16 #[.pointer (some ⟨bo,0,none⟩)] w' fun e w2=>NewInts G w' e w2 from by
     obtain⟨u3,I3,x,g1,_,_,_,_,_,_,g2,_⟩:=hg
     have:=QbE g1 ho
     rw[g2,hL,hG] at this
     exact this
    rw[hG] at u5
    have g7:=Zh o2
    have f4:=Zh f5
    have E0:=Zh m9
    have E7:=Zh u5
    have B9:=Zh o8
    have HQ:=Zh (And.intro k9 i9)
    have J5:=Zh a6.pos
    clear o2 f5 m9 u5 o8 k9 i9 a6 e9 i2 C1 A1 k3 n4 x8 s3
    refine Qg (fun w'=>w'.cell? ⟨bo,0,none⟩=some (.pointer (some ⟨F,0,none⟩))/\w'.cell? ⟨b4,0,none⟩=some (.int .i64 (a:Int))/\w'.cell? ⟨b4,1,none⟩=some (.int .i64 (b:Int))/\w'.cell? ⟨b4,2,none⟩=some (.int .i64 kd)) (fun w'=>ZB v3 w') (fun k=>k==3 || k==6 || k==12 || k==13) (fun _=>false) (fun _=>false) (by kernel_rfl) (by kernel_rfl) (Below.drew (Below.refl _ _)) (fun w' h=>g7.out w' (DFr.of_below h)) ?_
    repeat ((first
     |(refine Qc (v:=?_) (by rfl) (by rfl) (fun w6 hSw=>?_) ?_;rotate_left;(·(obtain⟨Q,u,S,t⟩:=hSw;go_simp;try with_reducible rfl)))
     |(refine Qd (v:=?_) (by rfl) (fun w6=>?_) ?_;rotate_left;(·(go_simp;try with_reducible rfl)))
     |refine Qe (by rfl) ?_);(try simp only[Act.put,pA,pB,pC]))
    refine Qn (f:=?_) (args:=?_) (fun v w'=>v=.int .i64 0/\GoneD B F gb gt V E lim kd nv u2 (0+131072) st a b R2 w'/\DFr B (DKs F V st.mb) v3 w') (by rfl) (by rfl) (fun w6 hSw=>?_) (fun w6 hSw=>?_) (.inr (fun v6 w6 hT6=>?_)) (fun v6 hv6=>?_)
    rotate_left 2
    ·(skip;go_simp;first|done|(constructor<;>with_reducible rfl)|with_reducible rfl)
    ·(refine(E0.out _ hSw).mono ?_;rintro e w' ⟨rfl,h,hf⟩;exact⟨_,rfl,rfl,h,DFr.call' hSw hf (fun _ _ h=>h)⟩)
    ·(exact g7.out _ hT6.2.2)
    obtain⟨wz,rfl,-⟩:=hv6
    (try simp only[Act.put,pA,pB,pC])
    repeat ((first
     |(refine Qc (v:=?_) (by rfl) (by rfl) (fun w6 hSw=>?_) ?_;rotate_left;(·(obtain⟨Q,u,S,t⟩:=hSw;go_simp;try with_reducible rfl)))
     |(refine Qd (v:=?_) (by rfl) (fun w6=>?_) ?_;rotate_left;(·(go_simp;try with_reducible rfl)))
     |refine Qe (by rfl) ?_);(try simp only[Act.put,pA,pB,pC]))
    refine Qn (f:=?_) (args:=?_) (fun v w'=>IntsW w' v M G/\GoneD B F gb gt V E lim kd nv u2 (0+131072) st a b R2 w'/\DFr B (DKs F V st.mb) v3 w') (by rfl) (by rfl) (fun w6 hSw=>?_) (fun w6 hSw=>?_) (.inr (fun v6 w6 hT6=>?_)) (fun v6 hv6=>?_)
    rotate_left 2
    ·(skip;go_simp;first|done|(constructor<;>with_reducible rfl)|with_reducible rfl)
    ·(refine(B9.out _ hSw.2.1 (f4.out _ hSw.2.2).2.1).mono ?_;rintro e w' ⟨v,rfl,ho,a9⟩;rw[hM] at ho;obtain⟨A7,c7,rfl,_⟩:=Qj ho;exact⟨_,rfl,⟨A7,c7,rfl,IntsI.of_own ho⟩,hSw.2.1.below a9,hSw.2.2.trans (DFr.of_below a9)⟩)
    ·(exact g7.out _ hT6.2.2)
    obtain⟨wz,t8,-⟩:=hv6;obtain⟨A8,c8,rfl⟩:=t8.form
    (try simp only[Act.put,pA,pB,pC])
    repeat ((first
     |(refine Qc (v:=?_) (by rfl) (by rfl) (fun w6 hSw=>?_) ?_;rotate_left;(·(obtain⟨Q,u,S,t⟩:=hSw;go_simp;try with_reducible rfl)))
     |(refine Qd (v:=?_) (by rfl) (fun w6=>?_) ?_;rotate_left;(·(go_simp;try with_reducible rfl)))
     |refine Qe (by rfl) ?_);(try simp only[Act.put,pA,pB,pC]))
    refine Qn (f:=?_) (args:=?_) (fun v w'=>IntsW w' v M G/\IntsI w' A8 M G/\GoneD B F gb gt V E lim kd nv u2 (0+131072) st a b R2 w'/\DFr B (DKs F V st.mb) v3 w') (by rfl) (by rfl) (fun w6 hSw=>?_) (fun w6 hSw=>?_) (.inr (fun v6 w6 hT6=>?_)) (fun v6 hv6=>?_)
    rotate_left 2
    ·(skip;go_simp;first|done|(constructor<;>with_reducible rfl)|with_reducible rfl)
    ·(refine(E7.out _ _ (f4.out _ hSw.2.2).2.2.1).mono ?_;rintro e w' ⟨v,rfl,ho,a9⟩;rw[hM] at ho;obtain⟨A7,c7,rfl,_⟩:=Qj ho;exact⟨_,rfl,⟨A7,c7,rfl,IntsI.of_own ho⟩,hSw.1.at_.2.bel a9,hSw.2.1.below a9,hSw.2.2.trans (DFr.of_below a9)⟩)
    ·(exact g7.out _ hT6.2.2.2)
    obtain⟨wz,t8,-⟩:=hv6;obtain⟨A9,c9,rfl⟩:=t8.form
    (try simp only[Act.put,pA,pB,pC])
    repeat ((first
     |(refine Qc (v:=?_) (by rfl) (by rfl) (fun w6 hSw=>?_) ?_;rotate_left;(·(obtain⟨Q,u,S,t⟩:=hSw;go_simp;try with_reducible rfl)))
     |(refine Qd (v:=?_) (by rfl) (fun w6=>?_) ?_;rotate_left;(·(go_simp;try with_reducible rfl)))
     |refine Qe (by rfl) ?_);(try simp only[Act.put,pA,pB,pC]))
    refine Qn (f:=?_) (args:=?_) (fun v w'=>v=.bool true/\GoneD B F gb gt V E lim kd nv u2 (0+131072) st a b R2 w'/\DFr B (DKs F V st.mb) v3 w') (by rfl) (by rfl) (fun w6 hSw=>?_) (fun w6 hSw=>?_) (.inr (fun v6 w6 hT6=>?_)) (fun v6 hv6=>?_)
    rotate_left 2
    ·(skip;go_simp;first|done|(constructor<;>with_reducible rfl)|with_reducible rfl)
    ·(refine(Qca (c:=c8) (c':=c9) hSw.2.1.any hSw.1.at_.2.any (by omega)).mono ?_;rintro e w' ⟨rfl,a9⟩;exact⟨_,rfl,rfl,hSw.2.2.1.below a9,hSw.2.2.2.trans (DFr.of_below a9)⟩)
    ·(exact g7.out _ hT6.2.2)
    obtain⟨wz,rfl,-⟩:=hv6
    (try simp only[Act.put,pA,pB,pC])
    repeat ((first
     |(refine Qc (v:=?_) (by rfl) (by rfl) (fun w6 hSw=>?_) ?_;rotate_left;(·(obtain⟨Q,u,S,t⟩:=hSw;go_simp;try with_reducible rfl)))
     |(refine Qd (v:=?_) (by rfl) (fun w6=>?_) ?_;rotate_left;(·(go_simp;try with_reducible rfl)))
     |refine Qe (by rfl) ?_);(try simp only[Act.put,pA,pB,pC]))
    refine Qu ?_
    rintro v4 ⟨-,I2,g6⟩
    obtain⟨a7,y4,G8,h7⟩:=f4.out _ g6
    obtain⟨u3,I3,x,K,u0,J8,F5,B8,z7,b2,H0,q0⟩:=I2
    go_upto_region 26 with fail
    have B7 : ∀w',ZB v4 w'->w'.cell? ⟨bo,0,none⟩=some (.pointer (some ⟨F,0,none⟩))/\w'.cell? ⟨b4,0,none⟩=some (.int .i64 (a:Int))/\w'.cell? ⟨b4,2,none⟩=some (.int .i64 kd)/\w'.cell? ⟨F,2,none⟩=some (.int .i64 x):=fun w' o=>⟨(y4.below o).cell 0,(a7.below o).cell 0,(a7.below o).cell 2,((K.below o).desk.cell 2).trans b2.2.2.1⟩
    have b8:=Zh B7
    have E6:=Zh (fun(w':World) (o:ZB v4 w') (m6:kd=0->x=(a:Int))=>Qo7 (ats0:=st.ats) (K.below o) F5 b2.1 (u0.below o) b2.2.1 b2.2.2.1 (by decide) B8 z7 J5.out d5.out.2.2.2 (by rw[HN.out];exact t1) H0 d6.out m8 m6 q0 (by rw[hL,hP];exact HQ.out.1))
    have H4:=Zh (fun(w':World) (o:ZB v4 w') (x7:World) (hf:DFr B (· = F) w' x7)=>Qg2 n3 (Qf h7 o) (K.below o) (u0.below o) (a7.below o) (y4.below o) (G8.bel o) (hf.wide (X':=DKs F V u3.mb) (Nat.le_refl _) (fun _ _ h=>.inl h)))
    have I8:=Zh h7
    obtain⟨q,hq⟩:=ZN (decide (kd=0/\x≠(a:Int)))
    have m2:=Zh hq
    clear B7 a7 y4 G8 h7 K u0 F5 B8 z7 b2 H0 q0 hq f4 E0 E7 B9 g7
    go_cut [207] (fun s wx=>s=.bool q/\ZB v4 wx)
    case first=>
     as_aux_lemma=>
      rcases p4 with h|h
      ·subst h
       by_cases hx:x=(a:Int)
       ·have q1:(x != (a:Int))=false:=by simp[hx]
        refine Qv (fun w'=>ZB v4 w') (by kernel_rfl) (by kernel_rfl) (Below.drew (Below.refl _ _)) ?_
        repeat ((first
         |(refine Q9 (v:=?_) (by rfl) (fun w6 hSw=>?_) ?_;rotate_left;(·(obtain⟨Q,u,t,d2⟩:=b8.out _ hSw;go_simp;try with_reducible rfl)))
         |refine Qaw (by rfl) ?_);(try simp only[Act.put,pA,pB,pC]))
        refine Qav ?_
        intro w6 d8
        go_wp2_with fail
        go_meet
        exact⟨by rw[<-m2.out];simp[hx],d8⟩
       ·have q1:(x != (a:Int))=true:=by simp[hx]
        refine Qv (fun w'=>ZB v4 w') (by kernel_rfl) (by kernel_rfl) (Below.drew (Below.refl _ _)) ?_
        repeat ((first
         |(refine Q9 (v:=?_) (by rfl) (fun w6 hSw=>?_) ?_;rotate_left;(·(obtain⟨Q,u,t,d2⟩:=b8.out _ hSw;go_simp;try with_reducible rfl)))
         |refine Qaw (by rfl) ?_);(try simp only[Act.put,pA,pB,pC]))
        refine Qav ?_
        intro w6 d8
        go_wp2_with fail
        go_meet
        exact⟨by rw[<-m2.out];simp[hx],d8⟩
      ·subst h
       refine Qv (fun w'=>ZB v4 w') (by kernel_rfl) (by kernel_rfl) (Below.drew (Below.refl _ _)) ?_
       repeat ((first
        |(refine Q9 (v:=?_) (by rfl) (fun w6 hSw=>?_) ?_;rotate_left;(·(obtain⟨Q,u,t,d2⟩:=b8.out _ hSw;go_simp;try with_reducible rfl)))
        |refine Qaw (by rfl) ?_);(try simp only[Act.put,pA,pB,pC]))
       refine Qav ?_
       intro w6 d8
       go_wp2_with fail
       go_meet
       exact⟨by rw[<-m2.out];simp,d8⟩
    case rest=>
     obtain⟨rfl,H⟩:=hcut
     cases q with
     |true=>
      have J:=Zh (Qf I8.out H)
      go_wp2_with fail
      go_ret
      exact⟨rfl,J.out⟩
     |false=>
      have m6:kd=0->x=(a:Int):=fun h=>by
       have:=of_decide_eq_false m2.out
       rcases Decidable.em (x=(a:Int)) with h1|h1
       ·exact h1
       ·exact absurd ⟨h,h1⟩ this
      obtain⟨Q,u,t,d2⟩:=b8.out _ H
      have B0:=Zh (E6.out _ H m6)
      clear E6 m6
      go_wp2_with fail
      refine(B0.out).mono ?_
      rintro e v6 ⟨rfl,n6,L0,K1,t3,H3,q8,E5,F6⟩
      clear Q u t d2 B0
      obtain⟨C8,m3,D0,H8⟩:=H4.out _ H _ F6
      obtain⟨Q,-⟩:=Qcl m3
      have s6:=QbE t3 m3
      rw[H3] at s6
      have G2:=Zh s6
      have H6:=Zh (And.intro t3 (And.intro E5 (And.intro C8 (And.intro m3 (And.intro D0 H8)))))
      have I1:=Zh q8
      clear t3 E5 C8 m3 D0 H8 F6 s6 H3 q8 H4 b8
      go_wp2_with fail
      refine(G2.out).mono ?_
      rintro e v7 ⟨vv,rfl,C,W⟩
      rw[List.length_map,HN.out] at C
      obtain⟨A7,c7,rfl,-⟩:=Qj C
      have t9:=H6.out.2.2.2.2.1.bel W
      rw[<-hL] at t9
      have j4:=Zh (Qca (c:=c7) (c':=c5) (IntsI.of_own C).any t9.any (by omega))
      have D5:=Zh W
      clear C W G2 t9
      go_wp2_with fail
      refine(j4.out).mono ?_
      rintro e v8 ⟨rfl,G6⟩
      clear j4 Q
      have j0:=Qf D5.out G6
      have Q:=(H6.out.2.2.2.1.below j0).cell 0
      simp only[List.getElem?_toArray,List.getElem?_cons_zero] at Q
      have d1:=((H6.out.1.below j0).desk.cell 1).trans I1.out
      have g5:=QjY B V u3.mb R2 u2 97 97 false v8 (H6.out.2.1.below j0) rfl
      rw[show gkF 97 u2=97 from rfl,HQ.out.2] at g5
      have j7:=Zh g5
      have C2:=Zh j0
      clear g5 G6 j0 D5
      go_wp2_with fail
      refine(j7.out).mono ?_
      rintro e v9 ⟨v,rfl,C,B5⟩
      dsimp only at C
      obtain⟨A9,c9,rfl,-⟩:=Qj C
      have x6:=Qf C2.out B5
      have F2:=H6.out.2.2.1.below x6
      have k4:=H6.out.2.2.2.2.1.bel x6
      have j6:=Qf H6.out.2.2.2.2.2 x6
      have D8:=IntsI.of_own C
      clear Q d1 C B5 j7 C2 H6
      go_upto_region 31 with fail
      obtain⟨bx,b3⟩:∃x,v9.heap.size=x:=⟨_,rfl⟩
      have l0:=Blk.new v9 66 #[.int .i64 kd,.slice A9 P.length c9]
      have a4:ZB v9 (v9.alloc (.cells #[.int .i64 kd,.slice A9 P.length c9] 66)):=Qa (Below.refl _ _)
      obtain⟨a8,A6⟩:∃x,v9.alloc (.cells #[.int .i64 kd,.slice A9 P.length c9] 66)=x:=⟨_,rfl⟩
      rw[A6] at l0 a4 ⊢
      rw[b3] at l0 ⊢
      clear A6 b3
      have f9:=F2.below a4
      have q7:=D8.bel a4
      have q5:=k4.bel a4
      have b9:=Qf j6 a4
      have q9 : ∀w',ZB a8 w'->w'.cell? ⟨b4,0,none⟩=some (.int .i64 (a:Int))/\w'.cell? ⟨b4,1,none⟩=some (.int .i64 (b:Int))/\w'.cell? ⟨b4,2,none⟩=some (.int .i64 kd)/\w'.cell? ⟨bx,0,none⟩=some (.int .i64 kd)/\w'.cell? ⟨bx,1,none⟩=some (.slice A9 P.length c9):=fun w' o=>⟨(f9.below o).cell 0,(f9.below o).cell 1,(f9.below o).cell 2,(l0.below o).cell 0,(l0.below o).cell 1⟩
      have r7:=Zh q9
      have n8:=Zh q5
      have B1:=Zh q7
      have F4:=Zh b9
      clear q9 q5 q7 b9 f9 l0 a4 F2 k4 D8 j6
      obtain⟨ad,rfl,_⟩:=Ints.at_ n8.out.any (show a<N by omega)
      have F9:IntsI a8 (some (ad.add a)) (b-a) P:=by
       have h0:Reads a8 (fun b=>∃cs,Blk a8 b 3 cs) 1 (some ad) N (L.map (Value.int .i64)):=n8.out
       have h1:=(h0.cut (k:=a) (cap:=c5) (by omega) t2).take (k:=b-a) (by omega)
       rw[if_neg (by omega),Nat.mul_one,Nat.mul_one,Option.map_some,<-List.map_drop,<-List.map_take] at h1
       have h2:(L.drop a).take (b-a)=P:=by
        rw[<-hP]
        unfold seg
        rw[Int.toNat_natCast,Int.toNat_natCast]
       rw[h2] at h1
       exact h1
      have J2:P.length=b-a:=by rw[<-hP,QeU (by omega) (by omega)]
      have I9:=Zh (fun(w':World) (o:ZB a8 w')=>Qca (c:=c9) (c':=c5-a) (B1.out.bel o).any (F9.bel o).any (by omega))
      clear F9 hP J2
      have e1:(a:Int)<=(b:Int):=by omega
      have e2:(b:Int)<=(N:Int):=by omega
      have e3:(b:Int)<=(c5:Int):=by omega
      have e4:(a:Int)<=(c5:Int):=by omega
      have e5:(0:Int)<=(a:Int):=by omega
      have e6:a<=b:=by omega
      have e7:b<=c5:=by omega
      have e8:(c5=a)=False:=by simp;omega
      refine Qv (fun w'=>ZB a8 w') (by kernel_rfl) (by kernel_rfl) (Below.drew (Below.refl _ _)) ?_
      repeat ((first
       |(refine Q9 (v:=?_) (by rfl) (fun w6 hSw=>?_) ?_;rotate_left;(·(obtain⟨u,S,t,x0,x1⟩:=r7.out _ hSw;go_simp;try with_reducible rfl)))
       |refine Qaw (by rfl) ?_
       |(refine QO (f:=?_) (args:=?_) (v:=.bool true) (by rfl) (fun w6 hSw=>?_) (fun w6 hSw=>?_) ?_;rotate_left 2;(·(obtain⟨u,S,t,x0,x1⟩:=r7.out _ hSw;go_simp;first|done|(constructor<;>with_reducible rfl)|with_reducible rfl));(·(refine(I9.out _ hSw).mono ?_;rintro e w5 ⟨rfl,H⟩;exact⟨rfl,Qf hSw H⟩))));(try simp only[Act.put,pA,pB,pC]))
      refine Qav ?_
      intro w6 d8
      go_wp2_with fail
      go_ret
      exact⟨rfl,Qf F4.out d8⟩
end Go.Proofs.YtgiihhikdoikgaaGreat
