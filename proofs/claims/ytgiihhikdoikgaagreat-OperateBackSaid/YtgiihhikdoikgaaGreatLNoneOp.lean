/-
  Yank and Delete of no characters.
-/
import Derived.Test.YtgiihhikdoikgaaGreatLPut3
set_option linter.unusedSimpArgs false
set_option linter.unusedVariables false
set_option maxRecDepth 100000
set_option maxHeartbeats 32000000
namespace Go.Proofs.YtgiihhikdoikgaaGreat
open Go.RowKit
def Qgm (a:List (Int × Int))(f l:Nat):Int:=
 if (Qo a l).brk=0/\0<f/\(Qo a (f-1)).from_<(Qo a (f-1)).to_ then (Qo a (f-1)).to_ else (Qo a f).from_
theorem Qm4 {w w1:World}{b:Nat}{x y:Int}(c:ZB w w1)(k:Blk w1 b 29 #[.int .i64 0,.int .i64 0,.int .i64 0])(a:w.heap.size<=b) :
  (∀i,(((w1.setCell ⟨b,0,none⟩ (.int .i64 x)).setCell ⟨b,1,none⟩ (.int .i64 y)).setCell ⟨b,2,none⟩ (.int .i64 1)).cell? ⟨b,i,none⟩=(#[.int .i64 x,.int .i64 y,.int .i64 1]:Array Value)[i]?)/\ZB w (((w1.setCell ⟨b,0,none⟩ (.int .i64 x)).setCell ⟨b,1,none⟩ (.int .i64 y)).setCell ⟨b,2,none⟩ (.int .i64 1)):=by
 have d:=(((k.set_ 0 (.int .i64 x)).set_ 1 (.int .i64 y)).set_ 2 (.int .i64 1)).eq_ (show _ = #[.int .i64 x,.int .i64 y,.int .i64 1] by simp)
 exact⟨d.cell,((c.setCell (p:=⟨b,0,none⟩) a _).setCell (p:=⟨b,1,none⟩) a _).setCell (p:=⟨b,2,none⟩) a _⟩
theorem QlM (D:Nat->Prop)(g:Nat)(enc:Int)(k:List (Int × Int))(f l:Nat)(w:World)(h:TextAt w D g enc k)(d5:f<=l)(hl:l<QL k) :
    Calls Tryz.prog 68 #[.pointer (some ⟨g,0,none⟩),.int .i64 (f:Int),.int .i64 (l:Int)] w fun e w'=>e=.returned (.tuple #[.agg #[.int .i64 (Qgm k f l),.int .i64 (Qo k l).next,.int .i64 1],.int .i64 0])/\ZB w w':=by
  have b7:l<=QaG k:=by
    unfold QL at hl
    split at hl<;>omega
  have a4:=fun(w':World) (c:ZB w w')=>QbD D g enc k w' (h.below c)
  have hf:=fun(w':World) (c:ZB w w')=>Qc0 D g enc k f w' (h.below c) (by omega)
  have H:=fun(w':World) (c:ZB w w')=>Qc0 D g enc k l w' (h.below c) b7
  have F:=fun(w':World) (c:ZB w w')=>Qc0 D g enc k (f-1) w' (h.below c) (by omega)
  have c7:QaG k<=k.length:=Qct _ _
  have b6:=h.len
  have d6:f<=1073741824:=by omega
  unfold Qgm
  obtain⟨M,hM⟩:=ZN (QL k)
  obtain⟨⟨x0,x1,x2,x3⟩,b1⟩:∃L,Qo k f=L:=⟨_,rfl⟩
  obtain⟨⟨W,V,a,o⟩,a9⟩:∃L,Qo k l=L:=⟨_,rfl⟩
  obtain⟨⟨u,b,z2,z3⟩,b4⟩:∃L,Qo k (f-1)=L:=⟨_,rfl⟩
  rw[hM] at a4 hl
  rw[b1] at hf ⊢
  rw[a9] at H ⊢
  rw[b4] at F ⊢
  simp only[Ln.cells] at hf H F
  dsimp only
  obtain⟨X,hX⟩:=ZN ((if o=0/\0<f/\u<b then b else x0))
  rw[hX]
  have HX:=Zh hX
  have c9:=Zh a4
  have HF:=Zh hf
  have HL:=Zh H
  have HP:=Zh F
  have q1:((f:Int)<0)=False:=by simp
  have q2:((l:Int)<(f:Int))=False:=by simp;omega
  have q3:((M:Int)<=(l:Int))=False:=by simp;omega
  have k0:=Blk.new w 29 #[.int .i64 0,.int .i64 0,.int .i64 0]
  have A:ZB w (w.alloc (.cells #[.int .i64 0,.int .i64 0,.int .i64 0] 29)):=Qa (Below.refl _ _)
  clear hX a4 hf H F h b7 c7 b6 hM b1 a9 b4 hl
  go_enter Tryz.func68,Tryz.ntmps68
  go_upto_region 1 with fail
  obtain⟨w0,P⟩:∃x,w.alloc (.cells #[.int .i64 0,.int .i64 0,.int .i64 0] 29)=x:=⟨_,rfl⟩
  obtain⟨m,a7⟩:∃x,w.heap.size=x:=⟨_,rfl⟩
  rw[P] at A k0 ⊢
  have a5:w.heap.size<=m:=by omega
  rw[a7] at k0 ⊢
  have j:=Zh k0
  clear P k0 a7
  go_wp2_with fail
  refine(c9.out _ A).mono ?_
  rintro e w1 ⟨rfl,a0⟩
  have Y:=Qf A a0
  go_wp2_with fail
  refine(HF.out _ Y).mono ?_
  rintro e w2 ⟨rfl,T⟩
  have b2:=Qf Y T
  go_upto_region 4 with fail
  have kf:=Blk.new w2 59 #[.int .i64 x0,.int .i64 x1,.int .i64 x2,.int .i64 x3]
  have B:ZB w (w2.alloc (.cells #[.int .i64 x0,.int .i64 x1,.int .i64 x2,.int .i64 x3] 59)):=Qa b2
  have r:ZB w0 (w2.alloc (.cells #[.int .i64 x0,.int .i64 x1,.int .i64 x2,.int .i64 x3] 59)):=Qa (Qf a0 T)
  obtain⟨bf,b8⟩:∃x,w2.heap.size=x:=⟨_,rfl⟩
  obtain⟨w3,J⟩:∃x,w2.alloc (.cells #[.int .i64 x0,.int .i64 x1,.int .i64 x2,.int .i64 x3] 59)=x:=⟨_,rfl⟩
  rw[b8] at kf ⊢
  rw[J] at kf B r ⊢
  clear b8 J a0 T Y b2
  have a8:=Zh kf
  clear kf
  go_wp2_with fail
  refine(HL.out _ B).mono ?_
  rintro e w4 ⟨rfl,E⟩
  have a6:=Qf B E
  go_upto_region 5 with fail
  have kl:=Blk.new w4 59 #[.int .i64 W,.int .i64 V,.int .i64 a,.int .i64 o]
  have a3:=(a8.out.below E).alloc (.cells #[.int .i64 W,.int .i64 V,.int .i64 a,.int .i64 o] 59)
  have G:ZB w (w4.alloc (.cells #[.int .i64 W,.int .i64 V,.int .i64 a,.int .i64 o] 59)):=Qa a6
  have n:ZB w0 (w4.alloc (.cells #[.int .i64 W,.int .i64 V,.int .i64 a,.int .i64 o] 59)):=Qa (Qf r E)
  obtain⟨bl,c6⟩:∃x,w4.heap.size=x:=⟨_,rfl⟩
  obtain⟨w5,Q⟩:∃x,w4.alloc (.cells #[.int .i64 W,.int .i64 V,.int .i64 a,.int .i64 o] 59)=x:=⟨_,rfl⟩
  rw[c6] at kl ⊢
  rw[Q] at kl a3 G n ⊢
  clear c6 Q E a6 B r a8 q1 q2 q3
  obtain⟨⟨c0,c1,c2,c3⟩,-⟩:=QK (l:=⟨x0,x1,x2,x3⟩) a3
  obtain⟨⟨d0,d1,d2,d3⟩,-⟩:=QK (l:=⟨W,V,a,o⟩) kl
  dsimp only at c0 c1 c2 c3 d0 d1 d2 d3
  go_upto_region 6 with fail
  have ks:=Blk.new w5 29 #[.int .i64 x0,.int .i64 a,.int .i64 1]
  have b9:ZB w (w5.alloc (.cells #[.int .i64 x0,.int .i64 a,.int .i64 1] 29)):=Qa G
  have s:ZB w0 (w5.alloc (.cells #[.int .i64 x0,.int .i64 a,.int .i64 1] 29)):=Qa n
  have Z:=kl.alloc (.cells #[.int .i64 x0,.int .i64 a,.int .i64 1] 29)
  have d4:=G.size
  obtain⟨bs,a2⟩:∃x,w5.heap.size=x:=⟨_,rfl⟩
  obtain⟨w6,K⟩:∃x,w5.alloc (.cells #[.int .i64 x0,.int .i64 a,.int .i64 1] 29)=x:=⟨_,rfl⟩
  rw[a2] at ks d4 ⊢
  have c8:w0.heap.size<=bs:=by rw[<-a2];exact n.size
  rw[K] at ks Z b9 s ⊢
  clear a2 K c0 c1 c2 c3 d0 d1 d2 d3 G n kl a3
  have c5:=Zh ks
  obtain⟨⟨d0,d1,d2,d3⟩,-⟩:=QK (l:=⟨W,V,a,o⟩) Z
  dsimp only at d0 d1 d2 d3
  clear ks Z
  have O : ∀(w7:World),Blk w7 bs 29 #[.int .i64 X,.int .i64 a,.int .i64 1]->ZB w0 w7->w7.cell? ⟨bs,0,none⟩=some (.int .i64 X)/\w7.cell? ⟨bs,1,none⟩=some (.int .i64 a)/\w7.cell? ⟨bs,2,none⟩=some (.int .i64 1)/\w7.cell? ⟨m,0,none⟩=some (.int .i64 0)/\w7.cell? ⟨m,1,none⟩=some (.int .i64 0)/\w7.cell? ⟨m,2,none⟩=some (.int .i64 0)/\w7.frozen? ⟨m,0,none⟩=false/\w7.frozen? ⟨m,1,none⟩=false/\w7.frozen? ⟨m,2,none⟩=false /\
      ((∀i,(((w7.setCell ⟨m,0,none⟩ (.int .i64 X)).setCell ⟨m,1,none⟩ (.int .i64 a)).setCell ⟨m,2,none⟩ (.int .i64 1)).cell? ⟨m,i,none⟩=(#[.int .i64 X,.int .i64 a,.int .i64 1]:Array Value)[i]?)/\ZB w (((w7.setCell ⟨m,0,none⟩ (.int .i64 X)).setCell ⟨m,1,none⟩ (.int .i64 a)).setCell ⟨m,2,none⟩ (.int .i64 1))):=fun w7 hk c=>
    ⟨hk.cell 0,hk.cell 1,hk.cell 2,(j.out.below c).cell 0,(j.out.below c).cell 1,(j.out.below c).cell 2,(j.out.below c).frozen 0,(j.out.below c).frozen 1,(j.out.below c).frozen 2,Qm4 (Qf A c) (j.out.below c) a5⟩
  have t:=Zh O
  clear O
  have U:(o=0/\0<f)\/¬(o=0/\0<f):=Classical.em _
  rcases U with ⟨h3,b3⟩|C
  · have c4:(u<b->b=X)/\(¬u<b->x0=X):=⟨fun S=>by rw[<-HX.out,if_pos ⟨h3,b3,S⟩],fun S=>by rw[<-HX.out,if_neg (fun hh=>S hh.2.2)]⟩
    have z:=Zh c4
    subst h3
    clear c4 HX
    have p1:(0<(f:Int))=True:=by simp;omega
    have wf:IntKind.i64.wrap ((f:Int)-1)=((f-1:Nat):Int):=by rw[IntWalk.i64_in _ (by omega)];omega
    go_wp2_with fail
    refine(HP.out _ b9).mono ?_
    rintro e w7 ⟨rfl,hb7⟩
    have kp:=Blk.new w7 59 #[.int .i64 u,.int .i64 b,.int .i64 z2,.int .i64 z3]
    have d:=(c5.out.below hb7).alloc (.cells #[.int .i64 u,.int .i64 b,.int .i64 z2,.int .i64 z3] 59)
    have a1:ZB w0 (w7.alloc (.cells #[.int .i64 u,.int .i64 b,.int .i64 z2,.int .i64 z3] 59)):=Qa (Qf s hb7)
    go_upto_region 8 with fail
    obtain⟨bp,b5⟩:∃x,w7.heap.size=x:=⟨_,rfl⟩
    obtain⟨w8,N⟩:∃x,w7.alloc (.cells #[.int .i64 u,.int .i64 b,.int .i64 z2,.int .i64 z3] 59)=x:=⟨_,rfl⟩
    rw[b5] at kp ⊢
    rw[N] at kp d a1 ⊢
    clear b5 N hb7 d0 d1 d2 d3 wf p1
    obtain⟨⟨c0,c1,c2,c3⟩,-⟩:=QK (l:=⟨u,b,z2,z3⟩) kp
    dsimp only at c0 c1 c2 c3
    clear kp
    by_cases S:u<b
    · have q:b=X:=z.out.1 S
      subst q
      have p2:(u<b)=True:=by simp;exact S
      have fs:=d.frozen 0
      have e0:=d.cell 0
      have I:=(d.set_ 0 (.int .i64 b)).eq_ (show _ = #[.int .i64 b,.int .i64 a,.int .i64 1] by simp)
      obtain⟨u0,u1,u2,u3,u4,u5,u6,u7,u8,R⟩:=t.out _ I (a1.setCell (p:=⟨bs,0,none⟩) c8 _)
      simp only[List.getElem?_toArray,List.getElem?_cons_zero] at e0
      have y:=Zh R
      clear R I d z S
      go_wp2_with fail
      exact bodyPost_ret (v:=.tuple #[.agg #[.int .i64 b,.int .i64 a,.int .i64 1],.int .i64 0]) (by simp[results,Tryz.results68,go_sem,y.out.1]) rfl ⟨rfl,y.out.2⟩
    · have q:x0=X:=z.out.2 (by omega)
      subst q
      have p2:(u<b)=False:=by simp;omega
      obtain⟨u0,u1,u2,u3,u4,u5,u6,u7,u8,R⟩:=t.out _ d a1
      have y:=Zh R
      clear R d z S
      go_wp2_with fail
      exact bodyPost_ret (v:=.tuple #[.agg #[.int .i64 x0,.int .i64 a,.int .i64 1],.int .i64 0]) (by simp[results,Tryz.results68,go_sem,y.out.1]) rfl ⟨rfl,y.out.2⟩
  · have q:x0=X:=by rw[<-HX.out,if_neg (fun hh=>C ⟨hh.1,hh.2.1⟩)]
    subst q
    obtain⟨u0,u1,u2,u3,u4,u5,u6,u7,u8,R⟩:=t.out _ c5.out s
    have y:=Zh R
    clear R HX
    by_cases h3:o=0
    · subst h3
      have b3 : ¬0<f:=fun hh=>C ⟨rfl,hh⟩
      have p1:(0<(f:Int))=False:=by simp;omega
      have p2:(0<f)=False:=by simp;omega
      clear C
      go_wp2_with fail
      exact bodyPost_ret (v:=.tuple #[.agg #[.int .i64 x0,.int .i64 a,.int .i64 1],.int .i64 0]) (by simp[results,Tryz.results68,go_sem,y.out.1]) rfl ⟨rfl,y.out.2⟩
    · have p1:(o==0)=false:=by rw[beq_eq_false_iff_ne];exact h3
      clear C h3
      go_wp2_with fail
      exact bodyPost_ret (v:=.tuple #[.agg #[.int .i64 x0,.int .i64 a,.int .i64 1],.int .i64 0]) (by simp[results,Tryz.results68,go_sem,y.out.1]) rfl ⟨rfl,y.out.2⟩
theorem QgW (a:List (Int × Int))(x:Int):Qs a x false<QL a:=by
 have := @Qbf a
 unfold Qs
 rw[if_neg (by decide)]
 omega
def LandX (kd:Int)(a:List (Int × Int))(X x:Int):Prop:=
 (kd=0/\∃j,ClampOk a X j/\j<=nC (Qbb a (Qs a X false))/\x=QY a X j)\/(kd=1/\∃i,HereAt a X i/\SignAt a i x)
def QkE (c:List (Int × Int))(kd a b nv X Y:Int)(xs:List Int):Prop:=
 (kd=0/\X=a/\Y=b/\xs=seg a b (c.map Prod.fst)) \/
 (kd=1/\X=Qgm c (Qs c a false) (Qs c (max a (b-1)) false)/\Y=(Qo c (Qs c (max a (b-1)) false)).next/\xs=QcM c a b nv)
theorem QqZ {enc lim:Int}{a:List (Int × Int)}{es:List Ed}{X Y:Int}(hp:PosD a)(g:es.map abE=[(X,Y,[])])(k:0<=X/\X<=Y/\Y<=(a.length:Int))(j:szS a<=lim):QbN enc lim a es=0/\Qf0 es=0:=by
 cases es with
 |nil=>cases g
 |cons e r=>
  rw[List.map_cons] at g
  injection g with h1 h2
  have:r=[]:=by simpa using h2
  subst this
  unfold abE at h1
  injection h1 with e1 h1
  injection h1 with e2 e3
  have h:=Qce hp a.length
  rw[List.take_length] at h
  have i:0<=QnB a e:=by
   unfold QnB
   split
   ·rw[Qce hp,Qce hp]
    have:=Qe2 hp e.f.toNat e.t.toNat (by omega)
    omega
   ·exact Int.le_refl 0
  have c:Qdw 0 (a.length:Int) [e]=true:=by
   unfold Qdw
   rw[e1,e2,if_neg (by omega)]
   rfl
  have d:QjE enc [e]=true:=by
   unfold QjE Qqc
   simp[e3]
  have b:QcK enc [e]=0:=by
   unfold QcK Qcc
   simp[e3]
  refine⟨?_,by unfold Qf0;simp[e3]⟩
  unfold QbN
  rw[if_neg (by simp),c,if_neg (by decide),d,if_neg (by decide),b,h,if_neg ?_]
  unfold Qgs
  simp only[List.map_cons,List.map_nil,List.sum_cons,List.sum_nil]
  omega
theorem BankD.bkf {D : Nat -> Prop}{w w' : World}{B k d mk : Nat}{R : Int -> Option (Int × List Int)}{f : Int}(h : BankD D w B d mk R f)(g : BkFr k w w') : BankD D w' B d mk R f := h.fr g (fun b _ j=>by
 obtain⟨_,T,i,a,c⟩:=j
 exact⟨Blk.ne_ a h.blk (fun e=>by subst e;revert c;decide),T,i,a,fun e=>by subst e;revert c;decide⟩)
def QrK (B f h g a:Nat)(enc lim:Int)(n:Nat)(D:Nat->Prop)(st:BkS)(o:OpS)(d:Array Value)(R:Int->Option (Int × List Int))(c kd X Y:Int)(w:World)(e:Ending)(w':World):Prop:=
 ∃(es:List Ed) (x:Int),es.map abE=[(X,Y,[])]/\e=.returned (.int .i64 x)/\QbN enc lim (Qb enc st.ats) es=0/\LandX kd (Qb enc (edA es st.ats)) X x /\
  DeskIs w' B f h g enc lim (n+131072) { st with ats:=edA es st.ats,now:=some { o with moves:=o.moves++[es.map QiD],changed:=o.changed || es.any chg } } d/\BankD D w' B a st.mb R c/\DFr B (fun b=>b=st.mb\/b=a) w w'
theorem Qov (B gd gb g H n b0 b1 b2:Nat)(D:Nat->Prop)(enc lim a b kd nm k tu nv X Y:Int)(xs:List Int)(st:BkS)(o:OpS)(dc:Array Value)(R:Int->Option (Int × List Int))(w:World)(h:DeskIs w B gd gb g enc lim n st dc)(hn:st.now=some o)(e9:o.moves.length<1048576)(hk:BankD D w B H st.mb R tu)(f9 : ∀b,w.heap.size<=b->D b)
  (h1:dc[1]? = some (.pointer (some ⟨H,0,none⟩))) (h9:dc[9]? = some (.int .i64 nv)) (f7:1<=nv/\nv<=3)
  (k0:Blk w b0 23 #[.pointer (some ⟨gd,0,none⟩)]) (k1:Blk w b1 29 #[.int .i64 a,.int .i64 b,.int .i64 kd]) (k2:Blk w b2 3 #[.int .i64 nm])
  (b9:kd=0\/kd=1) (ha:0<=a/\a<=b/\b<=(st.ats.length:Int)) (hG:QkE (Qb enc st.ats) kd a b nv X Y xs) (g9:0<=X/\X<Y/\Y<=(st.ats.length:Int)) (g1:xs≠[]) (c3:QaC nm=((k,false),true)) (d4:k≠46/\k≠58/\k≠47/\k≠95) (c5:szS (Qb enc st.ats)<=lim) (e8:n+131072<=1073741824) :
  Calls Tryz.prog 67 #[.pointer (some ⟨b0,0,none⟩),.pointer (some ⟨b1,0,none⟩),.pointer (some ⟨b2,0,none⟩)] w fun e w'=>QrK B gd gb g H enc lim n D st o dc (Qea R k kd (wrF kd xs)).1 (Qea R k kd (wrF kd xs)).2 kd X Y w e w':=by
 have d8:=h.len
 have hp:=h.pos
 have b3:(Qb enc st.ats).length=st.ats.length:=Qr _ _
 have g2:xs.length<=65538:=by
  rcases hG with ⟨_,_,_,rfl⟩|⟨_,_,_,rfl⟩
  ·have:=Qkv ((Qb enc st.ats).map Prod.fst) a b
   rw[List.length_map,b3] at this
   omega
  ·have := @Qgv (Qb enc st.ats) a b nv
   omega
 have g5:0<xs.length:=List.length_pos_iff.2 g1
 have g4 := Zh (fun(w':World) (d:ZB w w')=>(by
  rcases hG with ⟨rfl,_,_,rfl⟩|⟨rfl,_,_,rfl⟩
  ·have:=QfV (h.below d) a b ha
   rw[<-Qaq enc] at this
   exact this
  ·exact Qfc (h.below d) a b nv ha h9 f7:Calls Tryz.prog 30 #[.pointer (some ⟨gd,0,none⟩),.agg #[.int .i64 a,.int .i64 b,.int .i64 kd]] w' fun e r=>Qd6 kd xs w' e r))
 have g0:=Zh (Qco h a b kd b9 ha)
 have Q:=Zh (fun(w':World) (d:ZB w w')=>Qfx (h.below d) a b kd ha)
 have L:=Zh (fun(w':World) (d:ZB w w')=>QlM Any g enc (Qb enc st.ats) (Qs (Qb enc st.ats) a false) (Qs (Qb enc st.ats) (max a (b-1)) false) w' (h.below d).at_ (Qlv _ (by omega)) (QgW _ _))
 have HG:(kd=0/\X=a/\Y=b)\/(kd=1/\Qgm (Qb enc st.ats) (Qs (Qb enc st.ats) a false) (Qs (Qb enc st.ats) (max a (b-1)) false)=X/\(Qo (Qb enc st.ats) (Qs (Qb enc st.ats) (max a (b-1)) false)).next=Y):=by
  rcases hG with ⟨h1,h2,h3,_⟩|⟨h1,h2,h3,_⟩
  ·exact .inl ⟨h1,h2,h3⟩
  ·exact .inr ⟨h1,h2.symm,h3.symm⟩
 obtain⟨f,u⟩:=ZN (Qs (Qb enc st.ats) a false)
 obtain⟨l,hl⟩:=ZN (Qs (Qb enc st.ats) (max a (b-1)) false)
 rw[u] at Q L HG
 rw[hl] at Q L HG
 obtain⟨U,hU⟩:=ZN (Qgm (Qb enc st.ats) f l)
 obtain⟨V,hV⟩:=ZN ((Qo (Qb enc st.ats) l).next)
 rw[hU,hV] at L HG
 have HT:=Zh (fun(w':World) (d:ZB w w')=>Qae (h.below d))
 obtain⟨⟨R',c2⟩,c0⟩:∃p,Qea R k kd (wrF kd xs)=p:=⟨_,rfl⟩
 have d2 := Zh (fun(w':World) (d:ZB w w') (A:Option Addr) (m c:Nat) (hI:IntsI w' A m xs)=>(by
  have:=QiV B H st.mb R tu nm k kd A m c xs w' (hk.below d) hI (by have:=hI.any.len;omega) c3 d4 b9 (by have:=hI.any.len;omega) (fun b P=>f9 b (Nat.le_trans d.size P))
  rw[c0] at this
  exact this))
 rw[c0]
 dsimp only at d2 ⊢
 have HH:=Zh h
 have HK:=Zh hk
 have d5:=Zh hn
 have a6:=Zh (fun(es:List Ed) (he:es.map abE=[(X,Y,[])])=>QqZ (enc:=enc) hp he (by rw[b3];omega) c5)
 have f4:=Zh HG
 have hF : ∀w' r,ZB w w'->Fr (fun b=>b=st.mb\/b=H) w' r->r.cell? ⟨b0,0,none⟩=some (.pointer (some ⟨gd,0,none⟩))/\r.cell? ⟨gd,1,none⟩=some (.pointer (some ⟨H,0,none⟩))/\r.cell? ⟨b2,0,none⟩=some (.int .i64 nm)/\r.cell? ⟨b1,0,none⟩=some (.int .i64 a)/\r.cell? ⟨b1,1,none⟩=some (.int .i64 b)/\r.cell? ⟨b1,2,none⟩=some (.int .i64 kd):=fun w' r d u=>by
  have F:=HK.out.below d
  exact⟨(F.keep u (k0.below d) (by decide)).cell 0,((F.keep u (HH.out.below d).desk (by decide)).cell 1).trans h1,(F.keep u (k2.below d) (by decide)).cell 0,(F.keep u (k1.below d) (by decide)).cell 0,(F.keep u (k1.below d) (by decide)).cell 1,(F.keep u (k1.below d) (by decide)).cell 2⟩
 have HF:=Zh hF
 have HB:=Zh (And.intro k0 k1)
 obtain⟨y,W,y2,Z,y4,S⟩:=hF w w (Below.refl _ _) (Fr.refl _ _)
 clear h hk h1 h9 f7 k0 k1 k2 hF d8 hp b3 g2 g5 u hl hU hV c0 hn c5 c3 d4 f9 hG HG g1 ha
 go_enter Tryz.func67,Tryz.ntmps67
 go_wp2_with fail
 refine(g0.out).mono ?_
 rintro e w1 ⟨rfl,a2⟩
 clear y W y2 Z y4 S
 obtain⟨y,W,y2,Z,y4,S⟩:=HF.out w1 w1 a2 (Fr.refl _ _)
 go_upto_region 3 with fail
 have z:=Blk.new w1 29 #[.int .i64 a,.int .i64 b,.int .i64 kd]
 have s:ZB w1 (w1.alloc (.cells #[.int .i64 a,.int .i64 b,.int .i64 kd] 29)):=Qa (Below.refl _ _)
 obtain⟨r4,c1⟩:∃x,w1.heap.size=x:=⟨_,rfl⟩
 obtain⟨w2,a3⟩:∃x,w1.alloc (.cells #[.int .i64 a,.int .i64 b,.int .i64 kd] 29)=x:=⟨_,rfl⟩
 rw[a3] at z s ⊢
 have M:w1.heap.size<=r4:=by omega
 rw[c1] at z ⊢
 clear a3 c1 y W y2 Z y4 S
 obtain⟨y,W,y2,Z,y4,S⟩:=HF.out w2 w2 (Qf a2 s) (Fr.refl _ _)
 have a9:=Qf a2 s
 go_upto_if 15 with fail
 go_cut [] (fun wx=>Blk wx r4 29 #[.int .i64 X,.int .i64 Y,.int .i64 kd]/\ZB w1 wx)
 case first=>
  rcases f4.out with ⟨e1,e2,e3⟩|⟨e1,e2,e3⟩
  ·subst e1 e2 e3
   have HS:=Zh z
   clear z
   go_wp2_with fail
   go_meet
   exact⟨HS.out,s⟩
  ·subst e1 e2 e3
   have HS:=Zh z
   clear z
   go_wp2_with fail
   refine(Q.out _ a9).mono ?_
   rintro e w3 ⟨rfl,b6⟩
   have I:=Qf a9 b6
   have f8:=Qf s b6
   have g6:=y
   clear y W y2 Z y4 S g6
   obtain⟨y,W,y2,Z,y4,S⟩:=HF.out w3 w3 I (Fr.refl _ _)
   go_wp2_with fail
   refine(HT.out _ I).mono ?_
   rintro e w4 ⟨rfl,rfl⟩
   go_wp2_with fail
   refine(L.out _ I).mono ?_
   rintro e w5 ⟨rfl,e6⟩
   go_upto_region 6 with fail
   have e5:=Qf f8 e6
   have k7:=Blk.new w5 29 #[.int .i64 U,.int .i64 V,.int .i64 1]
   have a7:ZB w1 (w5.alloc (.cells #[.int .i64 U,.int .i64 V,.int .i64 1] 29)):=Qa e5
   have k4:=((HS.out.below b6).below e6).alloc (.cells #[.int .i64 U,.int .i64 V,.int .i64 1] 29)
   obtain⟨r7,c4⟩:∃x,w5.heap.size=x:=⟨_,rfl⟩
   obtain⟨w6,a5⟩:∃x,w5.alloc (.cells #[.int .i64 U,.int .i64 V,.int .i64 1] 29)=x:=⟨_,rfl⟩
   rw[c4] at k7 ⊢
   rw[a5] at k7 a7 k4 ⊢
   clear c4 a5
   go_wp2_with fail
   refine(Qb9 _).mono ?_
   rintro e w7 ⟨rfl,rfl⟩
   clear y W y2 Z y4 S
   obtain⟨z0,z1,z2⟩:=QaR k7
   obtain⟨u0,u1,u2⟩:=QaR k4
   have f0:=k4.frozen 0
   have f1:=k4.frozen 1
   have f2:=k4.frozen 2
   have a4:=((((k4.set_ 0 (.int .i64 U)).set_ 1 (.int .i64 V)).set_ 2 (.int .i64 1))).eq_ (show _ = #[.int .i64 U,.int .i64 V,.int .i64 1] by simp)
   have f3:ZB w1 (((w6.setCell ⟨r4,0,none⟩ (.int .i64 U)).setCell ⟨r4,1,none⟩ (.int .i64 V)).setCell ⟨r4,2,none⟩ (.int .i64 1)):=((a7.setCell (p:=⟨r4,0,none⟩) M _).setCell (p:=⟨r4,1,none⟩) M _).setCell (p:=⟨r4,2,none⟩) M _
   have q:=Zh (And.intro a4 f3)
   clear a4 f3 k4 k7
   go_wp2_with fail
   go_meet
   exact q.out
 case rest=>
  obtain⟨b8,g8⟩:=hcut
  have C:=Qf a2 g8
  clear y W y2 Z y4 S z s a9 Q L g0 HT f4
  obtain⟨s0,s1,s2⟩:=QaR b8
  have qXY:(X==Y)=false:=by rw[beq_eq_false_iff_ne];omega
  have g3:=Zh b8
  clear b8
  go_upto_region 10 with fail
  clear s0 s1 s2 qXY
  refine Qah (fun w'=>ZB wc w') (fun k=>k==8 || k==9) ([(7,fun v w'=>RegV w' kd v xs)]) (fun _ _=>False) (by kernel_rfl) (by kernel_rfl) (Below.drew (Below.refl _ _)) (fun _ _ h d=>Qf h d) (⟨RegV.st _ _,trivial⟩) (fun _ _ _ _ h=>h.elim) ?_
  repeat ((first
   |(refine QU (v:=?_) (by rfl) (by rfl) (by rfl) (fun w6 hSw=>?_) ?_;rotate_left;(·(obtain⟨y,W,y2,Z,y4,S⟩:=HF.out _ _ (Qf C hSw.1) (Fr.refl _ _);go_simp;try with_reducible rfl)))
   |refine Qak (by rfl) (by rfl) (by rfl) ?_);(try simp only[Act.put,pA,pB,pC]))
  refine Qcq (f:=?_) (args:=?_) (fun v w'=>RegV w' kd v xs) (by rfl) (by rfl) (by rfl) (by rfl) (fun w6 hSw=>?_) (fun w6 hSw=>?_) (fun v6 hv6=>?_)
  rotate_left 2
  ·(skip;go_simp;first|done|(constructor<;>with_reducible rfl)|with_reducible rfl)
  ·(refine(g4.out _ (Qf C hSw.1)).mono ?_;rintro e w' ⟨A7,m7,c7,rfl,hI,-,P⟩;exact⟨_,rfl,⟨A7,m7,c7,rfl,hI⟩,P⟩)
  obtain⟨wz,⟨A7,m7,c7,rfl,-⟩,-⟩:=hv6
  (try simp only[Act.put,pA,pB,pC])
  refine QbY (by rfl) ?_
  refine Qcj (f:=?_) (args:=?_) (fun v w'=>v=.int .i64 0/\∃wq,ZB wc wq/\BankD D w' B H st.mb R' c2/\Fr (fun b=>b=st.mb\/b=H) wq w') (by rfl) (fun w6 hSw=>?_) (fun w6 hSw=>?_) (fun v6 hv6=>?_)
  rotate_left 2
  ·(skip;go_simp;first|done|(constructor<;>with_reducible rfl)|with_reducible rfl)
  ·(have hI:=(hSw.2 _ List.mem_cons_self);dsimp only at hI;refine(d2.out _ (Qf C hSw.1) A7 m7 c7 hI.at_).mono ?_;rintro e w' ⟨rfl,P,g7⟩;exact .inl ⟨_,rfl,rfl,w6,hSw.1,P,g7⟩)
  obtain⟨wz,rfl,-⟩:=hv6
  (try simp only[Act.put,pA,pB,pC])
  refine Qcj (f:=?_) (args:=?_) (fun v w'=>v=.tuple #[]/\∃wq,ZB wc wq/\BankD D w' B H st.mb R' c2/\Fr (fun b=>b=st.mb\/b=H) wq w') (by rfl) (fun w6 hSw=>?_) (fun w6 hSw=>?_) (fun v6 hv6=>?_)
  rotate_left 2
  ·(skip;go_simp;first|done|(constructor<;>with_reducible rfl)|with_reducible rfl)
  ·(refine(Qb9 _).mono ?_;rintro e w' ⟨rfl,rfl⟩;exact .inl ⟨_,rfl,rfl,hSw.2⟩)
  obtain⟨wz,rfl,-⟩:=hv6
  (try simp only[Act.put,pA,pB,pC])
  refine QbW ?_
  rintro w4 ⟨-,wq,hq,d7,u⟩
  have t:=Qf C hq
  have c6:=(HH.out.below t).bank (HK.out.below t) u
  have b5:=(HK.out.below t).keep u (HB.out.1.below t) (by decide)
  have c8:=(HK.out.below t).keep u (HB.out.2.below t) (by decide)
  have s4:=(HK.out.below t).keep u (g3.out.below hq) (by decide)
  have d1:DFr B (fun b=>b=st.mb\/b=H) w w4:=DFr.of_x ((Fr.of_below t).call u (fun i _ hs=>hs))
  have e4:=Blk.new w4 89 #[.int .i64 X,.int .i64 Y,.slice none 0 0]
  have b7:ZB w4 (w4.alloc (.cells #[.int .i64 X,.int .i64 Y,.slice none 0 0] 89)):=Qa (Below.refl _ _)
  obtain⟨s0,s1,-⟩:=QaR s4
  have y:=b5.cell 0
  simp only[List.getElem?_toArray,List.getElem?_cons_zero] at y
  have f5:IntsI (w4.alloc (.cells #[.int .i64 X,.int .i64 Y,.slice none 0 0] 89)) none 0 []:=⟨rfl,fun h=>absurd h (by omega)⟩
  have e7 := QdA (c := 1) (c6.below b7) d5.out (Qi1 e4 f5) (fun b d _=>by
   rcases d with ⟨cs,d⟩|⟨cs,d⟩
   ·exact⟨_,cs,d,by decide⟩
   ·exact⟨_,cs,d,by decide⟩) (by simp[Qf0]) e8 e9
  have d3:=Zh e7
  have e0:=Zh d7
  have d9:=Zh d1
  have a1:=Zh (And.intro b5 (And.intro c8 s4))
  have G:=Zh b7
  clear e7 f5 e4 c6 b5 c8 s4 d1 d7 b7 u hq t
  go_wp2_with fail
  refine(d3.out).mono ?_
  rintro e w5 (⟨hz,rfl,d6,E⟩|⟨hz,-,-⟩)
  case inr=>exact absurd (a6.out _ rfl).1 hz
  have a8:=(e0.out.below G.out).bkf E
  have c9:=E.blk (a1.out.1.below G.out) (by decide)
  have d0:=E.blk (a1.out.2.1.below G.out) (by decide)
  have s5:=E.blk (a1.out.2.2.below G.out) (by decide)
  have f6:DFr B (fun b=>b=st.mb\/b=H) w w5:=(d9.out.trans (DFr.of_below G.out)).trans (DFr.of_bk E)
  obtain⟨-,-,u2⟩:=QaR d0
  obtain⟨v0,-,-⟩:=QaR s5
  clear s0 s1 y
  have y:=c9.cell 0
  simp only[List.getElem?_toArray,List.getElem?_cons_zero] at y
  have a0:=Zh d6
  have q:=Zh (And.intro hz (And.intro a8 f6))
  clear a8 f6 c9 d0 s5 d6 E hz d3 e0 d9 a1 G a6 e8 d5 e9
  rcases b9 with rfl|rfl
  ·have b4:=Zh (QbC a0.out X)
   go_wp2_with fail
   refine(b4.out).mono ?_
   rintro e w6 ⟨j,rfl,K,O,N⟩
   have J:=Zh (And.intro K (And.intro O N))
   clear K O N
   go_wp2_with fail
   go_ret
   exact⟨_,_,rfl,rfl,q.out.1,.inl ⟨rfl,j,J.out.1,J.out.2.1,rfl⟩,a0.out.below J.out.2.2,q.out.2.1.below J.out.2.2,q.out.2.2.trans (DFr.of_below J.out.2.2)⟩
  ·have b4:=Zh (Qiw a0.out X)
   go_wp2_with fail
   refine(b4.out).mono ?_
   rintro e w6 ⟨i,T,K,O,rfl,N⟩
   have J:=Zh (And.intro K (And.intro O N))
   clear K O N
   go_wp2_with fail
   go_ret
   exact⟨_,_,rfl,rfl,q.out.1,.inr ⟨rfl,i,J.out.1,J.out.2.1⟩,a0.out.below J.out.2.2,q.out.2.1.below J.out.2.2,q.out.2.2.trans (DFr.of_below J.out.2.2)⟩
def WkD (w:World)(a:Nat)(b:Nat):Prop:=(b<w.heap.size\/w.heap.size+5<=b)/\b≠a
theorem BankD.frN {D:Nat->Prop}{w w':World}{B d mk:Nat}{R:Int->Option (Int × List Int)}{j:Int}{S:Nat->Prop}(h:BankD D w B d mk R j)(f:Fr S w w')(g : ∀b,b<w.heap.size->S b->b≠d/\b≠mk/\(D b->∀i,¬Blk w b 3 i)):BankD D w' B d mk R j:=by
 obtain⟨l,h1,h2,r⟩:=h.map
 refine⟨h.blk.fr f (fun a=>(g _ h.blk.lt a).1 rfl),h.low,l,h1.fr f (fun a=>(g _ h1.lt a).2.1 rfl),h2,fun k=>?_⟩
 have o:=r k
 revert o
 cases R k with
 |none=>exact id
 |some p=>
  rintro⟨A,n,c,e,m,q⟩
  exact⟨A,n,c,e,m.frD f (fun b hb a hd ⟨i,hc⟩=>(g b hb a).2.2 hd i hc),q⟩
theorem QoU {w : World}{a f mk B : Nat}{R : Int -> Option (Int × List Int)}{m : Int}(h1 : a ≠ f /\ a ≠ mk)(h2 : f < w.heap.size /\ mk < w.heap.size) : StZ w a (fun _ w' => BankD (WkD w a) w' B f mk R m) := fun _ w1 p h n => h.frN n (fun b o j=>by
 rcases j with ⟨T,q,c,i⟩|rfl|j
 ·obtain⟨l,hm,_⟩:=h.map
  refine⟨Blk.ne_ c h.blk (fun e=>by subst e;revert i;decide),fun e=>hm.ne_blk c e.symm,fun _ k g=>?_⟩
  exact Blk.ne_ c g (fun e=>by subst e;revert i;decide) rfl
 ·exact⟨h1.1,h1.2,fun d=>absurd rfl d.2⟩
 ·refine⟨by omega,by omega,fun d=>?_⟩
  have:=d.1
  omega)
theorem BankIs.wk {w:World}{B g d mk:Nat}{R:Int->Option (Int × List Int)}{f:Int}{o:Array Value}(h:BankIs w B d mk R f)(j:Blk w g 42 o):BankD (WkD w g) w B d mk R f:=by
 obtain⟨l,h1,h2,t⟩:=h.map
 refine⟨h.blk,h.low,l,h1,h2,fun k=>?_⟩
 have m:=t k
 revert m
 cases R k with
 |none=>exact id
 |some p=>
  rintro⟨A,n,c,e,b,r⟩
  refine⟨A,n,c,e,⟨b.1,fun hn=>?_⟩,r⟩
  obtain⟨s,q,⟨⟨u,a⟩,_⟩,i⟩:=b.2 hn
  exact⟨s,q,⟨⟨u,a⟩,.inl a.lt,fun e=>Blk.ne_ a j (by decide) e⟩,i⟩
theorem Qc3 {w:World}{B a b mk:Nat}{R:Int->Option (Int × List Int)}{f:Int}{d:Array Value}(h:BankIs w B b mk R f)(c:Blk w a 42 d):(a≠b/\a≠mk)/\b<w.heap.size/\mk<w.heap.size:=
 ⟨⟨Blk.ne_ c h.blk (by decide),fun e=>(Q8 h).2 _ _ (e▸c)⟩,h.blk.lt,(Q8 h).1⟩
def Qgy (B d h g a:Nat)(enc lim:Int)(n:Nat)(st:BkS)(f:Array Value)(R:Int->Option (Int × List Int))(e kd X Y c:Int)(w w':World):Prop:=
 ∃(es:List Ed) (x:Int),es.map abE=[(X,Y,[])]/\LandX kd (Qb enc (edA es st.ats)) X x/\(0<=x/\x<=((edA es st.ats).length:Int)) /\
  DeskIs w' B d h g enc lim (n+131072) (Qdo st es c x) (f.setIfInBounds 2 (.int .i64 x))/\BankIs w' B a st.mb R e/\DFr B (fun b=>b=d\/b=st.mb\/b=a) w w'
theorem LandX.bd {kd:Int}{a:List (Int × Int)}{X x:Int}(hp:PosD a)(h:LandX kd a X x):0<=x/\x<=(a.length:Int):=by
 rcases h with ⟨_,j,_,h2,rfl⟩|⟨_,i,h1,h2⟩
 ·exact QbQ hp h2
 ·exact h2.bd hp h1.le
theorem QoZ (B j z g l n H S J:Nat)(enc lim a b kd nm k L nv X Y c:Int)(xs:List Int)(st:BkS)(o:Array Value)(R:Int->Option (Int × List Int))(w0 w:World)(G:ZB w0 w)(h:DeskIs w B j z g enc lim n st o)(hn:st.now=none)(a3:o.size=10)(hk:BankIs w B l st.mb R L)
  (h1:o[1]? = some (.pointer (some ⟨l,0,none⟩))) (h9:o[9]? = some (.int .i64 nv)) (a2:1<=nv/\nv<=3)
  (k0:Blk w H 23 #[.pointer (some ⟨j,0,none⟩)]) (k1:Blk w S 29 #[.int .i64 a,.int .i64 b,.int .i64 kd]) (k2:Blk w J 3 #[.int .i64 nm])
  (V:kd=0\/kd=1) (ha:0<=a/\a<=b/\b<=(st.ats.length:Int)) (hG:QkE (Qb enc st.ats) kd a b nv X Y xs) (U:0<=X/\X<Y/\Y<=(st.ats.length:Int)) (a4:xs≠[]) (E:QaC nm=((k,false),true)) (O:k≠46/\k≠58/\k≠47/\k≠95) (F:szS (Qb enc st.ats)<=lim) (Z:n+131072<=1073741824)
  (K:(st.undo.length:Int)<=st.depth) (N:st.last<1073741824) (C:0<=c/\c<=(st.ats.length:Int)) :
  Calls Tryz.prog 36 #[.pointer (some ⟨j,0,none⟩),.int .i64 c,.func (.func 67) #[] #[.pointer (some ⟨H,0,none⟩),.pointer (some ⟨S,0,none⟩),.pointer (some ⟨J,0,none⟩)]] w fun e w'=>e=.returned (.int .i64 0)/\Qgy B j z g l enc lim n st o (Qea R k kd (wrF kd xs)).1 (Qea R k kd (wrF kd xs)).2 kd X Y c w0 w':=by
 obtain⟨p,s⟩:=Qc3 hk h.desk
 have t:=hk.wk h.desk
 refine (QdJ B j z g n enc lim c st o _ _ (fun b=>b=st.mb\/b=l) (fun x f o' A=>∃es:List Ed,es.map abE=[(X,Y,[])]/\LandX kd (Qb enc (edA es st.ats)) X x/\(0<=x/\x<=((edA es st.ats).length:Int))/\f=edA es st.ats/\o'=QeC st es c/\A=n+131072)
  (fun _ _=>False) (fun _ w'=>BankD (WkD w j) w' B l st.mb (Qea R k kd (wrF kd xs)).1 (Qea R k kd (wrF kd xs)).2) (fun _ _=>True) w (QoU p s) (fun _ _ _ _ _=>trivial) h hn C a3 Tryz.call67 (fun q M=>?_) (fun w1 W i a5=>?_) (fun y f o' A Q=>?_) K).mono ?_
 ·rcases M with rfl|rfl
  ·exact⟨s.2,fun e=>p.2 e.symm⟩
  ·exact⟨s.1,fun e=>p.1 e.symm⟩
 ·have a1 : BankD (WkD w j) w1 B l st.mb R L := t.fr i (fun q _ I=>by
   rcases I with ⟨_,T,cs,C,hT⟩|I
   ·exact⟨Blk.ne_ C t.blk (fun e=>by subst e;revert hT;decide),T,cs,C,fun e=>by subst e;revert hT;decide⟩
   ·exact I.elim)
  refine(Qov B j z g l n H S J (WkD w j) enc lim a b kd nm k L nv X Y xs { st with now:=some ⟨st.ats,c,[],st.state,false⟩ } ⟨st.ats,c,[],st.state,false⟩ o R w1 W rfl (by simp) a1 (fun q M=>⟨.inr (by omega),fun e=>by have:=h.desk.lt;omega⟩) h1 h9 a2 (i.blk k0 (by decide) (fun d=>d)) (i.blk k1 (by decide) (fun d=>d)) (i.blk k2 (by decide) (fun d=>d)) V ha hG U a4 E O F Z).mono ?_
  rintro e w2 ⟨es,x,g1,rfl,g2,u,m,D,P⟩
  dsimp only at u m
  have d:=u.bd m.pos
  rw[Qr] at d
  exact .inl ⟨x,edA es st.ats,QeC st es c,n+131072,⟨es,g1,u,d,rfl,rfl,rfl⟩,rfl,m,P,D⟩
 ·obtain⟨es,_,_,d,rfl,rfl,rfl⟩:=Q
  exact⟨d,fun _=>N⟩
 ·rintro e w2 (⟨rfl,y,f,o',A,⟨es,g1,u,d,rfl,rfl,rfl⟩,hd,a0,hz⟩|⟨r,A,_,_,v,_⟩)
  ·exact ⟨rfl, es, y, g1, u, d, hd, hz.weak (fun _ _ _ => trivial), DFr.call' G a0 (fun q M d=>by
    rcases d with (d|d)|d
    ·exact .inr (.inl d)
    ·exact .inr (.inr d)
    ·exact .inl d)⟩
  ·exact v.elim
theorem Qju (B d K g z n:Nat)(enc lim at_ a b kd nm k W nv X Y:Int)(xs:List Int)(st:BkS)(o:Array Value)(R:Int->Option (Int × List Int))(w:World)(h:DeskIs w B d K g enc lim n st o)(hn:st.now=none)(H:o.size=10)(U:BankIs w B z st.mb R W)
  (h1:o[1]? = some (.pointer (some ⟨z,0,none⟩))) (h2:o[2]? = some (.int .i64 at_)) (h9:o[9]? = some (.int .i64 nv)) (G:1<=nv/\nv<=3)
  (P:kd=0\/kd=1) (ha:0<=a/\a<=b/\b<=(st.ats.length:Int)) (hG:QkE (Qb enc st.ats) kd a b nv X Y xs) (O:0<=X/\X<Y/\Y<=(st.ats.length:Int)) (I:xs≠[]) (u:QaC nm=((k,false),true)) (E:k≠46/\k≠58/\k≠47/\k≠95) (y:szS (Qb enc st.ats)<=lim) (S:n+131072<=1073741824)
  (C:(st.undo.length:Int)<=st.depth) (D:st.last<1073741824) :
  Calls Tryz.prog 20 #[.pointer (some ⟨d,0,none⟩),.int .i64 nm,.agg #[.int .i64 a,.int .i64 b,.int .i64 kd]] w fun e w'=>e=.returned (.int .i64 0)/\∃c,Qgy B d K g z enc lim n st o (Qea R k kd (wrF kd xs)).1 (Qea R k kd (wrF kd xs)).2 kd X Y c w w':=by
 have a1 : ∀(fn:Fn) (first cap:Array Value) (w:World),(Instr.makeFunc fn first cap).run Tryz.prog w=.ok (.func fn first cap) w:=fun _ _ _ _=>rfl
 obtain⟨j,a0,T,r⟩:=QdT h at_
 have s:=QbQ h.pos T
 rw[Qr] at s
 obtain⟨x,N⟩:=ZN (QY (Qb enc st.ats) at_ j)
 rw[N] at r s
 have l:ZB w (((w.alloc (.cells #[.pointer (some ⟨d,0,none⟩)] 23)).alloc (.cells #[.int .i64 nm] 3)).alloc (.cells #[.int .i64 a,.int .i64 b,.int .i64 kd] 29)):=Qa (Qa (Qa (Below.refl _ _)))
 have t:Blk (((w.alloc (.cells #[.pointer (some ⟨d,0,none⟩)] 23)).alloc (.cells #[.int .i64 nm] 3)).alloc (.cells #[.int .i64 a,.int .i64 b,.int .i64 kd] 29)) w.heap.size 23 #[.pointer (some ⟨d,0,none⟩)]:=((Blk.new w _ _).alloc _).alloc _
 have F:Blk (((w.alloc (.cells #[.pointer (some ⟨d,0,none⟩)] 23)).alloc (.cells #[.int .i64 nm] 3)).alloc (.cells #[.int .i64 a,.int .i64 b,.int .i64 kd] 29)) (w.heap.size+1) 3 #[.int .i64 nm]:=(Blk.new' (by simp)).alloc _
 have A:Blk (((w.alloc (.cells #[.pointer (some ⟨d,0,none⟩)] 23)).alloc (.cells #[.int .i64 nm] 3)).alloc (.cells #[.int .i64 a,.int .i64 b,.int .i64 kd] 29)) (w.heap.size+1+1) 29 #[.int .i64 a,.int .i64 b,.int .i64 kd]:=Blk.new' (by simp)
 have HH:=Zh h
 have a2:=Zh U
 have H2:=Zh h2
 have M:=Zh r
 have HX:=Zh N
 obtain⟨⟨R',L⟩,J⟩:∃p,Qea R k kd (wrF kd xs)=p:=⟨_,rfl⟩
 have m:=fun(w':World) (i:ZB w w') (t F A:Nat) k0 k1 k2=>QoZ B d K g z n t F A enc lim a b kd nm k W nv X Y x xs st o R w w' i (h.below i) hn H (U.below i) h1 h9 G k0 k1 k2 P ha hG O I u E y S C D s
 rw[J] at m ⊢
 dsimp only at m ⊢
 have V:=Zh m
 clear h U r N h2 m J h1 h9 G ha hG I u E y C D hn H
 go_enter Tryz.func20,Tryz.ntmps20
 go_upto_region 1 with fail
 obtain⟨w3,q⟩:∃x',(((w.alloc (.cells #[.pointer (some ⟨d,0,none⟩)] 23)).alloc (.cells #[.int .i64 nm] 3)).alloc (.cells #[.int .i64 a,.int .i64 b,.int .i64 kd] 29))=x':=⟨_,rfl⟩
 rw[q] at l t F A ⊢
 clear q
 have Z : ∀w',ZB w3 w'->w'.cell? ⟨w.heap.size,0,none⟩=some (.pointer (some ⟨d,0,none⟩))/\w'.cell? ⟨d,2,none⟩=some (.int .i64 at_):=fun w' i=>⟨(t.below i).cell 0,((HH.out.below (Qf l i)).desk.cell 2).trans H2.out⟩
 have HF:=Zh Z
 have Q:=Zh (And.intro t (And.intro F A))
 clear Z t F A
 refine Qah (fun w'=>ZB w3 w') (fun k=>k==8) ([(6,fun v _=>v=.int .i64 x)]) (fun _ _=>False) (by kernel_rfl) (by kernel_rfl) (Below.drew (Below.refl _ _)) (fun _ _ h i=>Qf h i) (⟨fun _ _ _ h _=>h,trivial⟩) (fun _ _ _ _ h=>h.elim) ?_
 repeat ((first
  |(refine QU (v:=?_) (by rfl) (by rfl) (by rfl) (fun w6 hSw=>?_) ?_;rotate_left;(·(obtain⟨y0,y1⟩:=HF.out _ hSw.1;go_simp;try with_reducible rfl)))
  |refine Qak (by rfl) (by rfl) (by rfl) ?_);(try simp only[Act.put,pA,pB,pC]))
 refine QaP (f:=?_) (args:=?_) (.int .i64 x) (by rfl) (by rfl) (by rfl) (by rfl) (fun w6 hSw=>?_) (fun w6 hSw=>?_) ?_
 rotate_left 2
 ·(skip;go_simp;first|done|(constructor<;>with_reducible rfl)|with_reducible rfl)
 ·(refine(M.out _ (HH.out.below (Qf l hSw.1))).mono ?_;rintro e w' ⟨rfl,i⟩;exact⟨rfl,i⟩)
 (try simp only[Act.put,pA,pB,pC])
 repeat ((first
  |(refine QU (v:=?_) (by rfl) (by rfl) (by rfl) (fun w6 hSw=>?_) ?_;rotate_left;(·(obtain⟨y0,y1⟩:=HF.out _ hSw.1;go_simp;try with_reducible rfl)))
  |refine Qak (by rfl) (by rfl) (by rfl) ?_);(try simp only[Act.put,pA,pB,pC]))
 refine QbY (by rfl) ?_
 refine Qcj (f:=?_) (args:=?_) (fun v w'=>v=.int .i64 0/\Qgy B d K g z enc lim n st o R' L kd X Y x w w') (by rfl) (fun w6 hSw=>?_) (fun w6 hSw=>?_) (fun v6 hv6=>?_)
 rotate_left 2
 ·(skip;go_simp;first|done|(constructor<;>with_reducible rfl)|with_reducible rfl)
 ·(refine(V.out _ (Qf l hSw.1) _ _ _ (Q.out.1.below hSw.1) (Q.out.2.2.below hSw.1) (Q.out.2.1.below hSw.1)).mono ?_;rintro e w' ⟨rfl,hp⟩;exact .inl ⟨_,rfl,rfl,hp⟩)
 obtain⟨wz,rfl,-⟩:=hv6
 (try simp only[Act.put,pA,pB,pC])
 repeat ((first
  |(refine Qfo (v:=?_) (by rfl) (fun w6 hSw=>?_) ?_;rotate_left;(·(skip;go_simp;try with_reducible rfl)))
  |refine Qhf (by rfl) ?_);(try simp only[Act.put,pA,pB,pC]))
 refine QbW ?_
 rintro w5 ⟨-,hp⟩
 have HP:=Zh hp
 clear hp
 go_wp2_with fail
 go_ret
 exact⟨rfl,x,HP.out⟩
theorem QdS {D : Nat -> Prop}{w : World}{a f mk B : Nat}{R : Int -> Option (Int × List Int)}{n : Int}(h1 : a ≠ f /\ a ≠ mk)(h2 : f < w.heap.size /\ mk < w.heap.size)(k : ∀ b, D b -> b ≠ a /\ ¬ (w.heap.size <= b /\ b < w.heap.size + 5)) : StZ w a (fun _ w' => BankD D w' B f mk R n) := fun _ w1 q h o => h.frN o (fun b p i=>by
 rcases i with ⟨T,r,c,j⟩|rfl|i
 ·obtain⟨l,hm,_⟩:=h.map
  refine⟨Blk.ne_ c h.blk (fun e=>by subst e;revert j;decide),fun e=>hm.ne_blk c e.symm,fun _ m g=>?_⟩
  exact Blk.ne_ c g (fun e=>by subst e;revert j;decide) rfl
 ·exact⟨h1.1,h1.2,fun d=>absurd rfl (k _ d).1⟩
 ·exact⟨by omega,by omega,fun d=>absurd i (k _ d).2⟩)
theorem BankD.nogd {D:Nat->Prop}{w:World}{B i f mk:Nat}{R:Int->Option (Int × List Int)}{g:Int}{r:Array Value}(h:BankD D w B f mk R g)(m:Blk w i 42 r):BankD (fun b=>D b/\b≠i) w B f mk R g:=by
 obtain⟨l,h1,h2,v⟩:=h.map
 refine⟨h.blk,h.low,l,h1,h2,fun k=>?_⟩
 have o:=v k
 revert o
 cases R k with
 |none=>exact id
 |some p=>
  rintro⟨A,n,c,e,d,t⟩
  refine⟨A,n,c,e,⟨d.1,fun hn=>?_⟩,t⟩
  obtain⟨u,s,⟨⟨x,a⟩,q⟩,j⟩:=d.2 hn
  exact⟨u,s,⟨⟨x,a⟩,q,fun e=>Blk.ne_ a m (by decide) e⟩,j⟩
theorem BankD.dfrN {D X : Nat -> Prop}{w w' : World}{B p c mk : Nat}{R : Int -> Option (Int × List Int)}{i : Int}(h : BankD D w B c mk R i)(n : DFr p X w w')(j : ∀ b, X b -> b ≠ c /\ b ≠ mk /\ ¬ D b) : BankD D w' B c mk R i := h.frN n (fun b q f=>by
 rcases f with ⟨_,T,r,a,g⟩|f
 ·obtain⟨l,hm,_⟩:=h.map
  refine⟨Blk.ne_ a h.blk (fun e=>by subst e;revert g;decide),fun e=>hm.ne_blk a e.symm,fun _ m d=>?_⟩
  exact Blk.ne_ a d (fun e=>by subst e;revert g;decide) rfl
 ·obtain⟨h1,h2,o⟩:=j b f
  exact⟨h1,h2,fun k=>absurd k o⟩)
theorem Qmd (B s L g I n O br bc ba bu:Nat)(enc lim c cnt:Int)(up:Bool)(st:BkS)(E:Array Value)(A:Option Addr)(N cc K:Nat)(l:List Int)(w0 w:World)(o:ZB w0 w)(a5:w0.heap.size<=ba)(h:DeskIs w B s L g enc lim n st E)(R:Int->Option (Int × List Int))(J:Int)(u:BankD (fun b=>b<w0.heap.size) w B I st.mb R J)(hn:st.now=none)(a4:E.size=10)
  (k0:Blk w O 23 #[.pointer (some ⟨s,0,none⟩)]) (kr:Blk w br 66 #[.int .i64 0,.slice A N cc]) (kc:Blk w bc 3 #[.int .i64 cnt]) (ka:Blk w ba 3 #[.int .i64 c]) (ku:Blk w bu 4 #[.bool up])
  (hl:IntsI w A N l) (hN:N<=140000) (hK:min cnt 9999=(K:Int)) (S:1<=K) (a1:n+131072<=1073741824) (U:(st.undo.length:Int)<=st.depth) (W:st.last<1073741824) (hc:0<=c/\c<=(st.ats.length:Int)) :
  Calls Tryz.prog 36 #[.pointer (some ⟨s,0,none⟩),.int .i64 c,.func (.func 37) #[] #[.pointer (some ⟨O,0,none⟩),.pointer (some ⟨br,0,none⟩),.pointer (some ⟨bc,0,none⟩),.pointer (some ⟨ba,0,none⟩),.pointer (some ⟨bu,0,none⟩)]] w fun e w'=>∃r,e=.returned (.int .i64 r)/\QgP B s L g enc lim n st E l (QP l K) K (QkC (Qb enc st.ats) up c) c w0 r w'/\BankIs w' B I st.mb R J:=by
 obtain⟨X,hX⟩:=ZN (QkC (Qb enc st.ats) up c)
 obtain⟨P,hP⟩:=ZN (QP l K)
 rw[hX,hP]
 obtain⟨F,G⟩:=Qc3 (u.weak (fun _ _ _=>trivial)) h.desk
 have V:=u.nogd h.desk
 refine (QdJ B s L g n enc lim c st E _ _ (· = ba) (fun x f o' y=>∃(A:Option Addr) (k j:Nat) (T:Int),T=(if QcF P=true then X else X+P.length-1)/\QbN enc lim (Qb enc st.ats) [QA X P A k]=0/\ClampOk (Qb enc (edA [QA X P A k] st.ats)) T j/\j<=nC (Qbb (Qb enc (edA [QA X P A k] st.ats)) (Qs (Qb enc (edA [QA X P A k] st.ats)) T false))/\x=QY (Qb enc (edA [QA X P A k] st.ats)) T j/\(0<=x/\x<=((edA [QA X P A k] st.ats).length:Int))/\f=edA [QA X P A k] st.ats/\o'=QeC st [QA X P A k] c/\y=n+131072)
  (fun r y=>y=n/\(r=QfY enc l K\/∃A k,r=QbN enc lim (Qb enc st.ats) [QA X P A k])) (fun _ w'=>BankD (fun b=>b<w0.heap.size/\b≠s) w' B I st.mb R J) (fun _ w'=>BankD (fun b=>b<w0.heap.size/\b≠s) w' B I st.mb R J) w (QdS F G (fun b C=>⟨C.2,fun hh=>by have:=o.size;have:=C.1;omega⟩)) (QdS F G (fun b C=>⟨C.2,fun hh=>by have:=o.size;have:=C.1;omega⟩)) h hn hc a4 Tryz.call37 (fun q v=>⟨v▸ka.lt,fun e=>Blk.ne_ ka h.desk (by decide) (v.symm.trans e)⟩) (fun w1 a0 d _=>?_) (fun Z f o' y Y=>?_) U).mono ?_
 ·have a2:=hl.bk d (fun _ _ a=>a.elim)
  have H:=V.dfrN d (fun q a=>a.elim)
  refine(Qlk B s L g n O br bc ba bu enc lim c cnt up { st with now:=some ⟨st.ats,c,[],st.state,false⟩ } ⟨st.ats,c,[],st.state,false⟩ E A N cc K l w1 a0 rfl (by simp) (d.blk k0 (by decide) (fun a=>a)) (d.blk kr (by decide) (fun a=>a)) (d.blk kc (by decide) (fun a=>a)) (d.blk ka (by decide) (fun a=>a)) (d.blk ku (by decide) (fun a=>a)) a2.any hN hK S hc a1).mono ?_
  dsimp only
  rw[hX,hP]
  rintro e w2 (⟨z,k,j,T,h1,rfl,h2,Q,M,m,i⟩|⟨r,h1,h2,rfl,m,i⟩)
  ·have a:=QbQ m.pos M
   rw[Qr] at a
   exact .inl ⟨_,edA [QA X P z k] st.ats,QeC st [QA X P z k] c,n+131072,⟨z,k,j,T,h1,h2,Q,M,rfl,a,rfl,rfl,rfl⟩,rfl,m,i,H.dfrN i (fun q a=>by subst a;exact⟨by have:=ka.lt;have:=u.blk.lt;intro e;subst e;exact Blk.ne_ ka u.blk (by decide) rfl,fun e=>(Q8 (u.weak (D':=fun _=>True) (fun _ _ _=>trivial))).2 _ _ (e▸ka),fun D=>by omega⟩)⟩
  ·exact .inr ⟨r,rfl,⟨st.ats,⟨st.ats,c,[],st.state,false⟩,n,⟨rfl,h2⟩,h1,rfl,m,i⟩,H.dfrN i (fun q a=>by subst a;exact⟨by intro e;subst e;exact Blk.ne_ ka u.blk (by decide) rfl,fun e=>(Q8 (u.weak (D':=fun _=>True) (fun _ _ _=>trivial))).2 _ _ (e▸ka),fun D=>by omega⟩)⟩
 ·obtain⟨z,k,j,T,_,_,_,_,_,a,rfl,rfl,rfl⟩:=Y
  exact⟨a,fun _=>W⟩
 ·have p : ∀q,q<w0.heap.size->q=ba->False:=fun q h1 h2=>by omega
  rintro e w2 (⟨rfl,Z,f,o',y,⟨z,k,j,T,h1,h2,Q,M,rfl,a,rfl,rfl,rfl⟩,D,t,hz⟩|⟨r,y,rfl,a3,⟨rfl,h2⟩,D,t,hz⟩)
  ·exact⟨0,rfl,.inl ⟨rfl,z,k,j,T,h1,h2,Q,M,D,DFr.call' o t (fun q v a=>a.resolve_left (fun e=>p q v e))⟩,hz.weak (fun _ _ _=>trivial)⟩
  ·exact⟨r,rfl,.inr ⟨a3,h2,D,DFr.call' o t (fun q v a=>p q v a)⟩,hz.weak (fun _ _ _=>trivial)⟩
theorem Qj1 (B b gb g V n:Nat)(enc lim at_ nm k tu cnt kd:Int)(F up:Bool)(Q:Nat->Int->World->Prop)(st:BkS)(Y:Array Value)(R:Int->Option (Int × List Int))(l:List Int)(w:World)(h:DeskIs w B b gb g enc lim n st Y)(S:BankIs w B V st.mb R tu)
  (h1:Y[1]? = some (.pointer (some ⟨V,0,none⟩))) (h2:Y[2]? = some (.int .i64 at_)) (J:QaC nm=((k,F),true)) (hR:R (gkF k tu)=some (kd,l)) (a3:1<=cnt)
  (N : ∀(j:Nat) (w6:World) (t br bc ba bu i:Nat) (c:Option Addr),ClampOk (Qb enc st.ats) at_ j->j<=nC (Qbb (Qb enc st.ats) (Qs (Qb enc st.ats) at_ false))->ZB w w6->w.heap.size<=ba->Blk w6 t 23 #[.pointer (some ⟨b,0,none⟩)]->Blk w6 br 66 #[.int .i64 kd,.slice c l.length i]->Blk w6 bc 3 #[.int .i64 cnt]->Blk w6 ba 3 #[.int .i64 (QY (Qb enc st.ats) at_ j)]->Blk w6 bu 4 #[.bool up]->IntsI w6 c l.length l ->
   Calls Tryz.prog 36 #[.pointer (some ⟨b,0,none⟩),.int .i64 (QY (Qb enc st.ats) at_ j),.func (.func 37) #[] #[.pointer (some ⟨t,0,none⟩),.pointer (some ⟨br,0,none⟩),.pointer (some ⟨bc,0,none⟩),.pointer (some ⟨ba,0,none⟩),.pointer (some ⟨bu,0,none⟩)]] w6 fun e w'=>∃r,e=.returned (.int .i64 r)/\Q j r w') :
  Calls Tryz.prog 8 #[.pointer (some ⟨b,0,none⟩),.int .i64 nm,.bool up,.int .i64 cnt] w fun e w'=>∃(r:Int) (j:Nat),e=.returned (.int .i64 r)/\ClampOk (Qb enc st.ats) at_ j/\j<=nC (Qbb (Qb enc st.ats) (Qs (Qb enc st.ats) at_ false))/\Q j r w':=by
 have a5 : ∀(fn:Fn) (first cap:Array Value) (w:World),(Instr.makeFunc fn first cap).run Tryz.prog w=.ok (.func fn first cap) w:=fun _ _ _ _=>rfl
 obtain⟨j,P,I,G⟩:=QdT h at_
 have U:=QbQ h.pos I
 rw[Qr] at U
 obtain⟨x,X⟩:=ZN (QY (Qb enc st.ats) at_ j)
 rw[X] at G U
 have u:ZB w (((w.alloc (.cells #[.pointer (some ⟨b,0,none⟩)] 23)).alloc (.cells #[.bool up] 4)).alloc (.cells #[.int .i64 cnt] 3)):=Qa (Qa (Qa (Below.refl _ _)))
 have t:Blk (((w.alloc (.cells #[.pointer (some ⟨b,0,none⟩)] 23)).alloc (.cells #[.bool up] 4)).alloc (.cells #[.int .i64 cnt] 3)) w.heap.size 23 #[.pointer (some ⟨b,0,none⟩)]:=((Blk.new w _ _).alloc _).alloc _
 have b1:Blk (((w.alloc (.cells #[.pointer (some ⟨b,0,none⟩)] 23)).alloc (.cells #[.bool up] 4)).alloc (.cells #[.int .i64 cnt] 3)) (w.heap.size+1) 4 #[.bool up]:=(Blk.new' (by simp)).alloc _
 have W:Blk (((w.alloc (.cells #[.pointer (some ⟨b,0,none⟩)] 23)).alloc (.cells #[.bool up] 4)).alloc (.cells #[.int .i64 cnt] 3)) (w.heap.size+1+1) 3 #[.int .i64 cnt]:=Blk.new' (by simp)
 have HH:=Zh h
 have H1:=Zh h1
 have H2:=Zh h2
 have Z:=Zh G
 have hg : ∀(w':World),ZB w w'->Calls Tryz.prog 23 #[.pointer (some ⟨V,0,none⟩),.int .i64 nm] w' fun e L=>∃v,e=.returned (.tuple #[.agg #[.int .i64 kd,v],.int .i64 0])/\L.ownsRow w'.heap.size 3 1 v l.length (l.map (Value.int .i64))/\ZB w' L:=fun w' s=>by
  have:=QjY B V st.mb R tu nm k F w' (S.below s) J
  rw[hR] at this
  exact this
 have HG:=Zh hg
 have q0:(cnt<1)=False:=by simp;omega
 have HX:=Zh X
 have d:=fun w6 t br bc ba bu i c=>N j w6 t br bc ba bu i c P I
 rw[X] at d
 have E:=Zh d
 clear h h1 hg G S J hR X h2 N d
 go_enter Tryz.func8,Tryz.ntmps8
 go_upto_region 1 with fail
 obtain⟨w3,A⟩:∃x',(((w.alloc (.cells #[.pointer (some ⟨b,0,none⟩)] 23)).alloc (.cells #[.bool up] 4)).alloc (.cells #[.int .i64 cnt] 3))=x':=⟨_,rfl⟩
 rw[A] at u t b1 W ⊢
 clear A
 have c0:=t.cell 0
 have c2:=W.cell 0
 have d1:=((HH.out.below u).desk.cell 1).trans H1.out
 simp only[List.getElem?_toArray,List.getElem?_cons_zero] at c0 c2
 go_wp2_with fail
 refine(HG.out _ u).mono ?_
 rintro e w4 ⟨v,rfl,ho,O⟩
 obtain⟨c,i,rfl,a4⟩:=Qj ho
 have HO:=Zh (IntsI.of_own (QN ho (Qa (o:=.cells #[.int .i64 kd,.slice c l.length i] 66) (Below.refl _ _))))
 have m:ZB w (w4.alloc (.cells #[.int .i64 kd,.slice c l.length i] 66)):=Qa (Qf u O)
 have br:Blk (w4.alloc (.cells #[.int .i64 kd,.slice c l.length i] 66)) w4.heap.size 66 #[.int .i64 kd,.slice c l.length i]:=Blk.new _ _ _
 have q:ZB w3 (w4.alloc (.cells #[.int .i64 kd,.slice c l.length i] 66)):=Qa O
 clear c0 c2 d1 ho
 go_upto_region 6 with fail
 obtain⟨C,D⟩:∃x',w4.alloc (.cells #[.int .i64 kd,.slice c l.length i] 66)=x':=⟨_,rfl⟩
 rw[D] at HO m br q ⊢
 obtain⟨rb,K⟩:=ZN (w4.heap.size)
 rw[K] at br ⊢
 clear D K
 have M : ∀w',ZB C w'->w'.cell? ⟨w.heap.size,0,none⟩=some (.pointer (some ⟨b,0,none⟩))/\w'.cell? ⟨b,2,none⟩=some (.int .i64 at_):=fun w' s=>
  ⟨(t.below (Qf q s)).cell 0,((HH.out.below (Qf m s)).desk.cell 2).trans H2.out⟩
 have y:=Zh M
 have T:=Zh (And.intro (t.below q) (And.intro (b1.below q) (And.intro (W.below q) br)))
 clear M t b1 W br
 refine Qb7 (fun w'=>ZB C w') (fun w'=>ZB C w') (fun k=>k==6 || k==7) (fun k=>k==7) (fun _=>false) (fun k=>k==5) (fun _=>.int .i64 x) (by kernel_rfl) (by kernel_rfl) (by kernel_rfl) (Below.drew (Below.refl _ _)) (fun _ h=>h) (fun _ _ h s=>Qf h s) ?_
 repeat ((first
  |(refine Qbm (v:=?_) (by rfl) (by rfl) (by rfl) (fun w6 hSw=>?_) ?_;rotate_left;(·(obtain⟨y0,y2⟩:=y.out _ hSw;go_simp;try with_reducible rfl)))
  |(refine Qbp (v:=?_) (by rfl) (by rfl) (fun w6=>?_) ?_;rotate_left;(·(go_simp;try with_reducible rfl)))
  |refine Qb1 (by rfl) (by rfl) ?_);(try simp only[Act.put,pA,pB,pC]))
 refine QbL (f:=?_) (args:=?_) (v:=.int .i64 x) (by rfl) (by rfl) (by rfl) (fun w6 hSw=>?_) (fun w6 hSw=>?_) ?_
 rotate_left 2
 ·(skip;go_simp;first|done|(constructor<;>with_reducible rfl)|with_reducible rfl)
 ·(exact Z.out _ (HH.out.below (Qf m hSw)))
 (try simp only[Act.put,pA,pB,pC])
 refine QbF (NewB C 3 #[.int .i64 0]) (by rfl) (by rfl) (fun w6 hSw=>?_) (.inr ⟨fun v6 w6 hT6=>?_,fun v6 w6 w7 hT6 hb7=>?_⟩) (fun v6 hv6=>?_)
 ·(go_simp;exact NewB.new _ _ hSw)
 ·(exact hT6.bel)
 ·(exact hT6.keep hb7)
 obtain⟨wz,r,rfl,-⟩:=hv6
 (try simp only[Act.put,pA,pB,pC])
 refine QbF (fun _ w'=>NewB C 3 #[.int .i64 x] (.pointer (some ⟨r,0,none⟩)) w') (by rfl) (by rfl) (fun w6 hSw=>?_) (.inl (by rfl)) (fun v6 hv6=>?_)
 ·(obtain⟨z,s,a2⟩:=hSw.at_;have e0:=s.cell 0;have f0:=s.frozen 0;simp at e0;go_simp;exact⟨r,rfl,z,(s.set_ 0 _).eq_ (by simp),a2.setCell (p:=⟨r,0,none⟩) z _⟩)
 skip
 (try simp only[Act.put,pA,pB,pC])
 repeat ((first
  |(refine Qbm (v:=?_) (by rfl) (by rfl) (by rfl) (fun w6 hSw=>?_) ?_;rotate_left;(·(obtain⟨y0,y2⟩:=y.out _ hSw;go_simp;try with_reducible rfl)))
  |(refine Qbp (v:=?_) (by rfl) (by rfl) (fun w6=>?_) ?_;rotate_left;(·(go_simp;try with_reducible rfl)))
  |refine Qb1 (by rfl) (by rfl) ?_);(try simp only[Act.put,pA,pB,pC]))
 refine QgC ?_
 rintro w6 hN
 obtain⟨z,H,a⟩:=hN.at_
 have a1:=Qf m a
 obtain⟨y0,y2⟩:=y.out w6 a
 have y3:=H.cell 0
 simp only[List.getElem?_toArray,List.getElem?_cons_zero] at y3
 have a0:=Zh (E.out w6 w.heap.size rb (w.heap.size+1+1) r (w.heap.size+1) i c a1 (Nat.le_trans m.size z) (T.out.1.below a) (T.out.2.2.2.below a) (T.out.2.2.1.below a) H (T.out.2.1.below a) (HO.out.bel a))
 clear hN H hv6 y T HO E
 go_wp2_with fail
 refine(a0.out).mono ?_
 rintro e w7 ⟨r',rfl,hp⟩
 have HP:=Zh hp
 clear hp
 go_wp2_with fail
 go_ret
 exact⟨r',j,rfl,P,I,HP.out⟩
def Qkn (B gd gb g:Nat)(enc lim:Int)(n:Nat)(st:BkS)(o:OpS)(dc:Array Value)(P:List Int)(X:Int)(w:World)(e:Ending)(w':World):Prop:=
 (∃(A:Option Addr) (c:Nat) (T:Int),e=.returned (.int .i64 T)/\QbN enc lim (Qb enc st.ats) [QA X P A c]=0/\LandX 1 (Qb enc (edA [QA X P A c] st.ats)) X T /\
  DeskIs w' B gd gb g enc lim (n+131072) { st with ats:=edA [QA X P A c] st.ats,now:=some { o with moves:=o.moves++[[QA X P A c].map QiD],changed:=o.changed || [QA X P A c].any chg } } dc/\DFr B (fun _=>False) w w') \/
 (∃r A c,r≠0/\r=QbN enc lim (Qb enc st.ats) [QA X P A c]/\e=.panicked [Qal r]/\DeskIs w' B gd gb g enc lim n st dc/\DFr B (fun _=>False) w w')
theorem Qi7 (B gd gb g n:Nat)(enc lim x0 I E L:Int)(st:BkS)(o:OpS)(dc:Array Value)(A:Option Addr)(c:Nat)(P:List Int)(w:World)(h:DeskIs w B gd gb g enc lim n st dc)(hn:st.now=some o)(V:o.moves.length<1048576)(W:IntsI w A P.length P)(hP:P.length<=2000000)(hnn:n+131072<=1073741824) :
  Calls Tryz.prog 40 #[.pointer (some ⟨gd,0,none⟩),.agg #[.int .i64 x0,.int .i64 I,.int .i64 E,.int .i64 L],.bool true,.slice A P.length c] w fun e w'=>Qkn B gd gb g enc lim n st o dc P x0 w e w':=by
 have D:ZB w (w.alloc (.cells #[.int .i64 x0,.int .i64 I,.int .i64 E,.int .i64 L] 59)):=Qa (Below.refl _ _)
 have y:=Blk.new w 59 #[.int .i64 x0,.int .i64 I,.int .i64 E,.int .i64 L]
 have HH:=Zh h
 have HI:=Zh W
 have HN:=Zh hn
 clear h W hn
 go_enter Tryz.func40,Tryz.ntmps40
 go_upto_region 1 with fail
 obtain⟨b5,a⟩:∃x,w.heap.size=x:=⟨_,rfl⟩
 obtain⟨w1,p⟩:∃x,w.alloc (.cells #[.int .i64 x0,.int .i64 I,.int .i64 E,.int .i64 L] 59)=x:=⟨_,rfl⟩
 rw[p] at D y ⊢
 rw[a] at y ⊢
 clear p a
 have Q : ∀w',ZB w1 w'->w'.cell? ⟨b5,0,none⟩=some (.int .i64 x0)/\w'.cell? ⟨b5,2,none⟩=some (.int .i64 E):=fun w' m=>⟨(y.below m).cell 0,(y.below m).cell 2⟩
 have Z:=Zh Q
 obtain⟨Y,y2⟩:=Q w1 (Below.refl _ _)
 clear Q y
 go_upto_region 4 with fail
 refine Qv (fun w'=>ZB w1 w') (by kernel_rfl) (by kernel_rfl) (Below.drew (Below.refl _ _)) ?_
 repeat ((first
  |(refine Q9 (v:=?_) (by rfl) (fun w6 hSw=>?_) ?_;rotate_left;(·(obtain⟨Y,y2⟩:=Z.out _ hSw;go_simp;try with_reducible rfl)))
  |refine Qaw (by rfl) ?_);(try simp only[Act.put,pA,pB,pC]))
 refine Qav ?_
 intro t N
 have q:=Qf D N
 clear Y y2 Z
 have j:ZB t (t.alloc (.cells #[.int .i64 x0,.int .i64 x0,.slice A P.length c] 89)):=Qa (Below.refl _ _)
 have C:Blk (t.alloc (.cells #[.int .i64 x0,.int .i64 x0,.slice A P.length c] 89)) t.heap.size 89 #[.int .i64 x0,.int .i64 x0,.slice A P.length c]:=Blk.new t _ _
 have H:=HI.out.bel (Qf q j)
 have u := QdA (c := 1) (HH.out.below (Qf q j)) HN.out (Qi1 C H) (fun b m _=>by
  rcases m with ⟨U,m⟩|⟨U,m⟩
  ·exact⟨_,U,m,by decide⟩
  ·exact⟨_,U,m,by decide⟩) (by simp[Qf0];omega) hnn V
 have S:=Zh u
 have s:=Zh (Qf q j)
 clear u H C j
 go_wp2_with fail
 refine(S.out).mono ?_
 rintro e w4 (⟨J,rfl,r,d⟩|⟨J,rfl,d⟩)
 ·have O:=Zh (Qiw r x0)
  have f:=Zh (And.intro J (And.intro r ((DFr.of_below s.out).trans (DFr.of_bk (X:=fun _=>False) d))))
  clear J r d
  go_wp2_with fail
  refine(O.out).mono ?_
  rintro e w5 ⟨i,T,G,z,rfl,a⟩
  have M:=Zh (And.intro G (And.intro z a))
  clear G z a
  go_wp2_with fail
  go_ret
  exact .inl ⟨A,c,T,rfl,f.out.1,.inr ⟨rfl,i,M.out.1,M.out.2.1⟩,f.out.2.1.below M.out.2.2,f.out.2.2.trans (DFr.of_below M.out.2.2)⟩
 ·go_wp2_with fail
  exact⟨rfl,.inr ⟨_,A,c,J,rfl,rfl,(HH.out.below s.out).below d,DFr.of_below (Qf s.out d)⟩⟩
theorem QlP (B gd gb g n b0 br bc ba bu:Nat)(enc lim x cnt:Int)(st:BkS)(o:OpS)(dc:Array Value)(A:Option Addr)(N c K:Nat)(l:List Int)(w:World)(h:DeskIs w B gd gb g enc lim n st dc)(hn:st.now=some o)(b2:o.moves.length<1048576)
  (k0:Blk w b0 23 #[.pointer (some ⟨gd,0,none⟩)]) (kr:Blk w br 66 #[.int .i64 1,.slice A N c]) (kc:Blk w bc 3 #[.int .i64 cnt]) (ka:Blk w ba 3 #[.int .i64 x]) (ku:Blk w bu 4 #[.bool true])
  (hl:Ints w Any A N l) (hN:N<=140000) (hK:min cnt 9999=(K:Int)) (a7:1<=K) (hx:0<=x/\x<=(st.ats.length:Int)) (hnn:n+131072<=1073741824) :
  Calls Tryz.prog 37 #[.pointer (some ⟨b0,0,none⟩),.pointer (some ⟨br,0,none⟩),.pointer (some ⟨bc,0,none⟩),.pointer (some ⟨ba,0,none⟩),.pointer (some ⟨bu,0,none⟩)] w fun e w'=>
   Qkn B gd gb g enc lim n st o dc (QP l K) (Qo (Qb enc st.ats) (ofF (Qb enc st.ats) x)).from_ w e w'\/(QfY enc l K≠0/\e=.panicked [Qal (QfY enc l K)]/\DeskIs w' B gd gb g enc lim n st dc/\DFr B (fun _=>False) w w'):=by
 have hp:=h.pos
 have b5:=h.len
 have D:=Qfl (Qb enc st.ats) x
 have a4:=QlR hp hx.1 (by rw[Qr];exact hx.2)
 have O:=Q3 hp D
 have J:=QaE hp D
 have C:=hl.len
 rw[Qr] at O
 have y := Zh (fun(z:Int) (hz:z=(K:Int))=>by
  have:=Qik h Any A N c K l hl hN ⟨a7,by omega⟩
  rw[<-hz] at this
  exact this)
 have H:=Zh (fun(w':World) (a:ZB w w')=>QdU (h.below a) (ofF (Qb enc st.ats) x) D)
 have a2:=Zh (fun(w':World) (a:ZB w w')=>Qfm Any g enc (Qb enc st.ats) x w' (h.below a).at_)
 have HT:=Zh (fun(w':World) (a:ZB w w')=>Qae (h.below a))
 obtain⟨⟨x0,W,x2,x3⟩,hL⟩:∃L,Qo (Qb enc st.ats) (ofF (Qb enc st.ats) x)=L:=⟨_,rfl⟩
 obtain⟨i,hi⟩:=ZN (ofF (Qb enc st.ats) x)
 rw[hL] at J O a4 ⊢
 rw[hi] at H a2 hL J
 rw[hL] at H
 dsimp only at J O a4 ⊢
 simp only[Ln.cells] at H
 obtain⟨P,u⟩:=ZN (QP l K)
 have a5:P.length=K*N:=by rw[<-u,QbG,C]
 rw[u] at ⊢
 have a1:=Zh u
 have a3:QfY enc l K=0->Fit enc l->P.length<=2000000:=fun t hf=>by
  rw[a5]
  have:=QnO t hf (by omega)
  rwa [C] at this
 have a8:=Zh a3
 have HH:=Zh h
 have a9:=Zh hn
 have hF : ∀w',ZB w w'->w'.cell? ⟨b0,0,none⟩=some (.pointer (some ⟨gd,0,none⟩))/\w'.cell? ⟨br,0,none⟩=some (.int .i64 1)/\w'.cell? ⟨br,1,none⟩=some (.slice A N c)/\w'.cell? ⟨bc,0,none⟩=some (.int .i64 cnt)/\w'.cell? ⟨ba,0,none⟩=some (.int .i64 x)/\w'.frozen? ⟨ba,0,none⟩=false/\w'.cell? ⟨bu,0,none⟩=some (.bool true):=fun w' a=>
  ⟨(k0.below a).cell 0,(kr.below a).cell 0,(kr.below a).cell 1,(kc.below a).cell 0,(ka.below a).cell 0,(ka.below a).frozen 0,(ku.below a).cell 0⟩
 have HF:=Zh hF
 have b7:=Zh ka
 have b6:=Zh k0
 obtain⟨y0,y1,y2,y3,y4,X,Y⟩:=hF w (Below.refl _ _)
 clear hF h hn k0 kr kc ka ku hl hL hi u J a3 D hp a5 C
 go_enter Tryz.func37,Tryz.ntmps37
 go_upto_region 1 with fail
 go_cut [6] (fun s wx=>∃M E,s=.slice M P.length E/\P.length<=E/\Hid (wx.ownsRow w.heap.size 3 1 (.slice M P.length E) P.length (P.map (Value.int .i64)))/\Hid (QfY enc l K=0/\Fit enc l)/\ZB w wx)
 case first=>
  rcases Qd9 9999 cnt with h9|h9
  ·have p1:(9999<cnt)=True:=by simp;omega
   have HO:=Zh (y.out 9999 (by omega))
   clear hK y h9
   go_wp2_with fail
   refine(HO.out).mono ?_
   intro e w1 u
   unfold Qcf at u
   rw[a1.out] at u
   rcases u with ⟨t,j,v,rfl,Q,d⟩|⟨t,rfl,d⟩
   ·obtain⟨M,E,rfl,I⟩:=Qj Q
    have HR:=Zh (And.intro Q (And.intro t j))
    clear Q t j
    go_wp2_with fail
    go_meet
    exact⟨M,E,rfl,I,Zh HR.out.1,Zh HR.out.2,d⟩
   ·go_wp2_with fail
    exact⟨rfl,.inr ⟨t,rfl,HH.out.below d,DFr.of_below d⟩⟩
  ·have p1:(9999<cnt)=False:=by simp;omega
   have HO:=Zh (y.out cnt (by omega))
   clear hK y h9
   go_wp2_with fail
   refine(HO.out).mono ?_
   intro e w1 u
   unfold Qcf at u
   rw[a1.out] at u
   rcases u with ⟨t,j,v,rfl,Q,d⟩|⟨t,rfl,d⟩
   ·obtain⟨M,E,rfl,I⟩:=Qj Q
    have HR:=Zh (And.intro Q (And.intro t j))
    clear Q t j
    go_wp2_with fail
    go_meet
    exact⟨M,E,rfl,I,Zh HR.out.1,Zh HR.out.2,d⟩
   ·go_wp2_with fail
    exact⟨rfl,.inr ⟨t,rfl,HH.out.below d,DFr.of_below d⟩⟩
 case rest=>
  obtain⟨M,E,rfl,I,a0,U,m⟩:=hcut
  clear y0 y1 y2 y3 y4 X Y hK y
  go_upto_region 2 with fail
  refine Qb7 (fun w'=>ZB wc w') (fun w'=>ZB wc w') (fun k=>k==6 || k==7) (fun k=>k==7) (fun _=>false) (fun k=>k==2 || k==4 || k==5) (fun k=>if k==2 then .pointer (some ⟨g,0,none⟩) else if k==4 then .int .i64 (i:Int) else .agg #[.int .i64 x0,.int .i64 W,.int .i64 x2,.int .i64 x3]) (by kernel_rfl) (by kernel_rfl) (by kernel_rfl) (Below.drew (Below.refl _ _)) (fun _ h=>h) (fun _ _ h a=>Qf h a) ?_
  repeat ((first
   |(refine Qbm (v:=?_) (by rfl) (by rfl) (by rfl) (fun w6 hSw=>?_) ?_;rotate_left;(·(obtain⟨y0,y1,y2,y3,y4,X,Y⟩:=HF.out _ (Qf m hSw);go_simp;try with_reducible rfl)))
   |(refine Qbp (v:=?_) (by rfl) (by rfl) (fun w6=>?_) ?_;rotate_left;(·(go_simp;try with_reducible rfl)))
   |refine Qb1 (by rfl) (by rfl) ?_);(try simp only[Act.put,pA,pB,pC]))
  refine QbL (f:=?_) (args:=?_) (v:=.pointer (some ⟨g,0,none⟩)) (by rfl) (by rfl) (by rfl) (fun w6 hSw=>?_) (fun w6 hSw=>?_) ?_
  rotate_left 2
  ·(skip;go_simp;first|done|(constructor<;>with_reducible rfl)|with_reducible rfl)
  ·(refine(HT.out _ (Qf m hSw)).mono ?_;rintro e w' ⟨rfl,rfl⟩;exact⟨rfl,Below.refl _ _⟩)
  (try simp only[Act.put,pA,pB,pC])
  repeat ((first
   |(refine Qbm (v:=?_) (by rfl) (by rfl) (by rfl) (fun w6 hSw=>?_) ?_;rotate_left;(·(obtain⟨y0,y1,y2,y3,y4,X,Y⟩:=HF.out _ (Qf m hSw);go_simp;try with_reducible rfl)))
   |(refine Qbp (v:=?_) (by rfl) (by rfl) (fun w6=>?_) ?_;rotate_left;(·(go_simp;try with_reducible rfl)))
   |refine Qb1 (by rfl) (by rfl) ?_);(try simp only[Act.put,pA,pB,pC]))
  refine QbL (f:=?_) (args:=?_) (v:=.int .i64 (i:Int)) (by rfl) (by rfl) (by rfl) (fun w6 hSw=>?_) (fun w6 hSw=>?_) ?_
  rotate_left 2
  ·(skip;go_simp;first|done|(constructor<;>with_reducible rfl)|with_reducible rfl)
  ·(refine(a2.out _ (Qf m hSw)).mono ?_;rintro e w' ⟨rfl,a⟩;exact⟨rfl,a⟩)
  (try simp only[Act.put,pA,pB,pC])
  refine QbL (f:=?_) (args:=?_) (v:=.agg #[.int .i64 x0,.int .i64 W,.int .i64 x2,.int .i64 x3]) (by rfl) (by rfl) (by rfl) (fun w6 hSw=>?_) (fun w6 hSw=>?_) ?_
  rotate_left 2
  ·(skip;go_simp;first|done|(constructor<;>with_reducible rfl)|with_reducible rfl)
  ·(refine(H.out _ (Qf m hSw)).mono ?_;rintro e w' ⟨rfl,a⟩;exact⟨rfl,a⟩)
  (try simp only[Act.put,pA,pB,pC])
  refine QbF (NewB wc 59 #[.int .i64 0,.int .i64 0,.int .i64 0,.int .i64 0]) (by rfl) (by rfl) (fun w6 hSw=>?_) (.inr ⟨fun v6 w6 hT6=>?_,fun v6 w6 w7 hT6 hb7=>?_⟩) (fun v6 hv6=>?_)
  ·(go_simp;exact NewB.new _ _ hSw)
  ·(exact hT6.bel)
  ·(exact hT6.keep hb7)
  obtain⟨wz,r,rfl,-⟩:=hv6
  (try simp only[Act.put,pA,pB,pC])
  refine QbF (fun _ w'=>NewB wc 59 #[.int .i64 x0,.int .i64 W,.int .i64 x2,.int .i64 x3] (.pointer (some ⟨r,0,none⟩)) w') (by rfl) (by rfl) (fun w6 hSw=>?_) (.inl (by rfl)) (fun v6 hv6=>?_)
  ·(obtain⟨q,a,b4⟩:=hSw.at_;have e0:=a.cell 0;have e1:=a.cell 1;have e2:=a.cell 2;have e3:=a.cell 3;have f0:=a.frozen 0;have f1:=a.frozen 1;have f2:=a.frozen 2;have f3:=a.frozen 3;simp at e0 e1 e2 e3;go_simp;exact⟨r,rfl,q,((((a.set_ 0 _).set_ 1 _).set_ 2 _).set_ 3 _).eq_ (by simp),(((b4.setCell (p:=⟨r,0,none⟩) q _).setCell (p:=⟨r,1,none⟩) q _).setCell (p:=⟨r,2,none⟩) q _).setCell (p:=⟨r,3,none⟩) q _⟩)
  skip
  (try simp only[Act.put,pA,pB,pC])
  repeat ((first
   |(refine Qbm (v:=?_) (by rfl) (by rfl) (by rfl) (fun w6 hSw=>?_) ?_;rotate_left;(·(obtain⟨y0,y1,y2,y3,y4,X,Y⟩:=HF.out _ (Qf m hSw);go_simp;try with_reducible rfl)))
   |(refine Qbp (v:=?_) (by rfl) (by rfl) (fun w6=>?_) ?_;rotate_left;(·(go_simp;try with_reducible rfl)))
   |refine Qb1 (by rfl) (by rfl) ?_);(try simp only[Act.put,pA,pB,pC]))
  refine QgC ?_
  rintro w2 hN
  obtain⟨q,S,V⟩:=hN.at_
  have G:=Qf m V
  obtain⟨y0,y1,y2,y3,y4,X,Y⟩:=HF.out w2 G
  obtain⟨⟨z0,z1,z2,z3⟩,_⟩:=QK (l:=⟨x0,W,x2,x3⟩) S
  dsimp only at z0 z1 z2 z3
  have b8:=Zh S
  clear hN S hv6 q
  have b3:=Zh (IntsI.of_own (QN a0.out V))
  have a6:=a8.out U.out.1 U.out.2
  have b1:=Zh (Qi7 B gd gb g n enc lim x0 W x2 x3 st o dc M E P w2 (HH.out.below G) a9.out b2 b3.out a6 hnn)
  clear a0 U a6
  go_wp2_with fail
  refine(b1.out).mono ?_
  rintro e w3 (⟨A8,c8,T,rfl,h1,h2,Z,h4⟩|⟨r,A8,c8,t,h1,rfl,Z,h4⟩)
  ·have b:=Zh (And.intro h1 (And.intro h2 (And.intro Z ((DFr.of_below G).trans h4))))
   clear h1 h2 Z h4
   go_wp2_with fail
   go_ret
   exact .inl (.inl ⟨A8,c8,T,rfl,b.out.1,b.out.2.1,b.out.2.2.1,b.out.2.2.2⟩)
  ·have b:=Zh (And.intro h1 (And.intro Z ((DFr.of_below G).trans h4)))
   clear h1 Z h4
   go_wp2_with fail
   exact⟨rfl,.inl (.inr ⟨r,A8,c8,t,b.out.1,rfl,b.out.2.1,b.out.2.2⟩)⟩
def Qe9 (B gd gb g:Nat)(enc lim:Int)(n:Nat)(st:BkS)(dc:Array Value)(l P:List Int)(K:Nat)(X c:Int)(w:World)(r:Int)(w':World):Prop:=
 (r=0/\∃(A:Option Addr) (k:Nat) (T:Int),QbN enc lim (Qb enc st.ats) [QA X P A k]=0/\LandX 1 (Qb enc (edA [QA X P A k] st.ats)) X T/\(0<=T/\T<=((edA [QA X P A k] st.ats).length:Int)) /\
  DeskIs w' B gd gb g enc lim (n+131072) (Qdo st [QA X P A k] c T) (dc.setIfInBounds 2 (.int .i64 T))/\DFr B (· = gd) w w') \/
 (r≠0/\(r=QfY enc l K\/∃A k,r=QbN enc lim (Qb enc st.ats) [QA X P A k])/\DeskIs w' B gd gb g enc lim n st dc/\DFr B (fun _=>False) w w')
theorem QkA (B gd gb g gk n E br bc ba bu:Nat)(enc lim c cnt:Int)(st:BkS)(dc:Array Value)(A:Option Addr)(N cc K:Nat)(l:List Int)(w0 w:World)(m:ZB w0 w)(Z:w0.heap.size<=ba)(h:DeskIs w B gd gb g enc lim n st dc)(R:Int->Option (Int × List Int))(tu:Int)(W:BankD (fun b=>b<w0.heap.size) w B gk st.mb R tu)(hn:st.now=none)(hdz:dc.size=10)
  (k0:Blk w E 23 #[.pointer (some ⟨gd,0,none⟩)]) (kr:Blk w br 66 #[.int .i64 1,.slice A N cc]) (kc:Blk w bc 3 #[.int .i64 cnt]) (ka:Blk w ba 3 #[.int .i64 c]) (ku:Blk w bu 4 #[.bool true])
  (hl:IntsI w A N l) (Y:N<=140000) (hK:min cnt 9999=(K:Int)) (G:1<=K) (hnn:n+131072<=1073741824) (hud:(st.undo.length:Int)<=st.depth) (hla:st.last<1073741824) (V:0<=c/\c<=(st.ats.length:Int)) :
  Calls Tryz.prog 36 #[.pointer (some ⟨gd,0,none⟩),.int .i64 c,.func (.func 37) #[] #[.pointer (some ⟨E,0,none⟩),.pointer (some ⟨br,0,none⟩),.pointer (some ⟨bc,0,none⟩),.pointer (some ⟨ba,0,none⟩),.pointer (some ⟨bu,0,none⟩)]] w fun e w'=>∃r,e=.returned (.int .i64 r)/\Qe9 B gd gb g enc lim n st dc l (QP l K) K (Qo (Qb enc st.ats) (ofF (Qb enc st.ats) c)).from_ c w0 r w'/\BankIs w' B gk st.mb R tu:=by
 obtain⟨X,U⟩:=ZN ((Qo (Qb enc st.ats) (ofF (Qb enc st.ats) c)).from_)
 obtain⟨P,S⟩:=ZN (QP l K)
 rw[U,S]
 obtain⟨v,z⟩:=Qc3 (W.weak (fun _ _ _=>trivial)) h.desk
 have H:=W.nogd h.desk
 refine (QdJ B gd gb g n enc lim c st dc _ _ (fun _=>False) (fun x j o' t=>∃(A:Option Addr) (k:Nat),QbN enc lim (Qb enc st.ats) [QA X P A k]=0/\LandX 1 (Qb enc (edA [QA X P A k] st.ats)) X x/\(0<=x/\x<=((edA [QA X P A k] st.ats).length:Int))/\j=edA [QA X P A k] st.ats/\o'=QeC st [QA X P A k] c/\t=n+131072)
  (fun r t=>t=n/\(r=QfY enc l K\/∃A k,r=QbN enc lim (Qb enc st.ats) [QA X P A k])) (fun _ w'=>BankD (fun b=>b<w0.heap.size/\b≠gd) w' B gk st.mb R tu) (fun _ w'=>BankD (fun b=>b<w0.heap.size/\b≠gd) w' B gk st.mb R tu) w (QdS v z (fun b u=>⟨u.2,fun hh=>by have:=m.size;have:=u.1;omega⟩)) (QdS v z (fun b u=>⟨u.2,fun hh=>by have:=m.size;have:=u.1;omega⟩)) h hn V hdz Tryz.call37 (fun q I=>I.elim) (fun w1 L f _=>?_) (fun y j o' t J=>?_) hud).mono ?_
 ·have M:=hl.bk f (fun _ _ a=>a.elim)
  have s:=H.dfrN f (fun q a=>a.elim)
  refine(QlP B gd gb g n E br bc ba bu enc lim c cnt { st with now:=some ⟨st.ats,c,[],st.state,false⟩ } ⟨st.ats,c,[],st.state,false⟩ dc A N cc K l w1 L rfl (by simp) (f.blk k0 (by decide) (fun a=>a)) (f.blk kr (by decide) (fun a=>a)) (f.blk kc (by decide) (fun a=>a)) (f.blk ka (by decide) (fun a=>a)) (f.blk ku (by decide) (fun a=>a)) M.any Y hK G V hnn).mono ?_
  dsimp only
  rw[U,S]
  rintro e w2 ((⟨o,k,T,rfl,h2,C,i,d⟩|⟨r,o,k,h1,h2,rfl,i,d⟩)|⟨h1,rfl,i,d⟩)
  ·have a:=C.bd i.pos
   rw[Qr] at a
   exact .inl ⟨_,edA [QA X P o k] st.ats,QeC st [QA X P o k] c,n+131072,⟨o,k,h2,C,a,rfl,rfl,rfl⟩,rfl,i,d,s.dfrN d (fun q a=>a.elim)⟩
  ·exact .inr ⟨r,rfl,⟨st.ats,⟨st.ats,c,[],st.state,false⟩,n,⟨rfl,.inr ⟨o,k,h2⟩⟩,h1,rfl,i,d⟩,s.dfrN d (fun q a=>a.elim)⟩
  ·exact .inr ⟨_,rfl,⟨st.ats,⟨st.ats,c,[],st.state,false⟩,n,⟨rfl,.inl rfl⟩,h1,rfl,i,d⟩,s.dfrN d (fun q a=>a.elim)⟩
 ·obtain⟨o,k,_,_,a,rfl,rfl,rfl⟩:=J
  exact⟨a,fun _=>hla⟩
 ·rintro e w2 (⟨rfl,y,j,o',t,⟨o,k,h2,C,a,rfl,rfl,rfl⟩,D,p,Q⟩|⟨r,t,rfl,O,⟨rfl,h2⟩,D,p,Q⟩)
  ·exact⟨0,rfl,.inl ⟨rfl,o,k,y,h2,C,a,D,DFr.call' m p (fun q I a=>a.resolve_left (fun e=>e))⟩,Q.weak (fun _ _ _=>trivial)⟩
  ·exact⟨r,rfl,.inr ⟨O,h2,D,DFr.call' m p (fun q I a=>a)⟩,Q.weak (fun _ _ _=>trivial)⟩
section
variable (B gd gb g gk n K:Nat) (enc lim at_ nm k tu cnt:Int) (F up:Bool) (st:BkS) (dc:Array Value) (R:Int->Option (Int × List Int)) (l:List Int) (w:World) (h:DeskIs w B gd gb g enc lim n st dc) (hbk:BankIs w B gk st.mb R tu) (hn:st.now=none) (hdz:dc.size=10)
  (h1:dc[1]? = some (.pointer (some ⟨gk,0,none⟩))) (h2:dc[2]? = some (.int .i64 at_)) (hnm:QaC nm=((k,F),true)) (hll:l.length<=140000) (hcnt:1<=cnt) (hK:min cnt 9999=(K:Int)) (hnn:n+131072<=1073741824) (hud:(st.undo.length:Int)<=st.depth) (hla:st.last<1073741824)
include h hbk hn hdz h1 h2 hnm hll hcnt hK hnn hud hla
theorem Qjr (m:R (gkF k tu)=some (0,l)) :
  Calls Tryz.prog 8 #[.pointer (some ⟨gd,0,none⟩),.int .i64 nm,.bool up,.int .i64 cnt] w fun e w'=>∃(r:Int) (j:Nat),e=.returned (.int .i64 r)/\ClampOk (Qb enc st.ats) at_ j/\j<=nC (Qbb (Qb enc st.ats) (Qs (Qb enc st.ats) at_ false)) /\
   (QgP B gd gb g enc lim n st dc l (QP l K) K (QkC (Qb enc st.ats) up (QY (Qb enc st.ats) at_ j)) (QY (Qb enc st.ats) at_ j) w r w'/\BankIs w' B gk st.mb R tu):=by
 have a:=h.pos
 refine Qj1 B gd gb g gk n enc lim at_ nm k tu cnt 0 F up (fun j r w'=>QgP B gd gb g enc lim n st dc l (QP l K) K (QkC (Qb enc st.ats) up (QY (Qb enc st.ats) at_ j)) (QY (Qb enc st.ats) at_ j) w r w'/\BankIs w' B gk st.mb R tu) st dc R l w h hbk h1 h2 hnm m hcnt (fun j w6 o br bc ba bu s t q f c d p kr kc ka ku i=>?_)
 have b:=QbQ a f
 rw[Qr] at b
 exact Qmd B gd gb g gk n o br bc ba bu enc lim _ cnt up st dc t l.length s K l w w6 c d (h.below c) R tu (hbk.low_.below c) hn hdz p kr kc ka ku i hll hK (by omega) hnn hud hla b
theorem QjK (m:R (gkF k tu)=some (1,l)) :
  Calls Tryz.prog 8 #[.pointer (some ⟨gd,0,none⟩),.int .i64 nm,.bool true,.int .i64 cnt] w fun e w'=>∃(r:Int) (j:Nat),e=.returned (.int .i64 r)/\ClampOk (Qb enc st.ats) at_ j/\j<=nC (Qbb (Qb enc st.ats) (Qs (Qb enc st.ats) at_ false)) /\
   (Qe9 B gd gb g enc lim n st dc l (QP l K) K (Qo (Qb enc st.ats) (ofF (Qb enc st.ats) (QY (Qb enc st.ats) at_ j))).from_ (QY (Qb enc st.ats) at_ j) w r w'/\BankIs w' B gk st.mb R tu):=by
 have a:=h.pos
 refine Qj1 B gd gb g gk n enc lim at_ nm k tu cnt 1 F true (fun j r w'=>Qe9 B gd gb g enc lim n st dc l (QP l K) K (Qo (Qb enc st.ats) (ofF (Qb enc st.ats) (QY (Qb enc st.ats) at_ j))).from_ (QY (Qb enc st.ats) at_ j) w r w'/\BankIs w' B gk st.mb R tu) st dc R l w h hbk h1 h2 hnm m hcnt (fun j w6 o br bc ba bu s t q f c d p kr kc ka ku i=>?_)
 have b:=QbQ a f
 rw[Qr] at b
 exact QkA B gd gb g gk n o br bc ba bu enc lim _ cnt st dc t l.length s K l w w6 c d (h.below c) R tu (hbk.low_.below c) hn hdz p kr kc ka ku i hll hK (by omega) hnn hud hla b
end
section
variable {B gd gb g n:Nat} {enc lim:Int} {st:BkS} {dc:Array Value} {w:World}
theorem QlH (h:DeskIs w B gd gb g enc lim n st dc)(l b t:Nat)(a:Int)(r:Blk w l 23 #[.pointer (some ⟨gd,0,none⟩)])(f:Blk w b 29 #[.int .i64 a,.int .i64 a,.int .i64 0])(k:0<=a/\a<=(st.ats.length:Int)) :
  Calls Tryz.prog 26 #[.pointer (some ⟨l,0,none⟩),.pointer (some ⟨b,0,none⟩),.pointer (some ⟨t,0,none⟩)] w fun e w'=>e=.panicked [Qal 120]/\ZB w w':=by
 have j:=Zh (Qco h a a 0 (.inl rfl) ⟨k.1,by omega,k.2⟩)
 have i : ∀w',ZB w w'->w'.cell? ⟨l,0,none⟩=some (.pointer (some ⟨gd,0,none⟩))/\w'.cell? ⟨b,0,none⟩=some (.int .i64 a)/\w'.cell? ⟨b,1,none⟩=some (.int .i64 a)/\w'.cell? ⟨b,2,none⟩=some (.int .i64 0):=fun w' d=>⟨(r.below d).cell 0,(f.below d).cell 0,(f.below d).cell 1,(f.below d).cell 2⟩
 have s:=Zh i
 obtain⟨p,o,q,m⟩:=i w (Below.refl _ _)
 have u:(a==a)=true:=by simp
 clear i h r f k
 go_enter Tryz.func26,Tryz.ntmps26
 go_wp2_with fail
 refine(j.out).mono ?_
 rintro e w1 ⟨rfl,c⟩
 clear p o q m
 obtain⟨p,o,q,m⟩:=s.out w1 c
 go_wp2_with fail
 exact⟨rfl,rfl,c⟩
theorem Qm6 (h:DeskIs w B gd gb g enc lim n st dc)(v j C:Nat)(a:Int)(z:Blk w v 23 #[.pointer (some ⟨gd,0,none⟩)])(p:Blk w j 29 #[.int .i64 a,.int .i64 a,.int .i64 0])(u:0<=a/\a<=(st.ats.length:Int)) :
  Calls Tryz.prog 67 #[.pointer (some ⟨v,0,none⟩),.pointer (some ⟨j,0,none⟩),.pointer (some ⟨C,0,none⟩)] w fun e w'=>e=.panicked [Qal 120]/\ZB w w':=by
 have t:=Zh (Qco h a a 0 (.inl rfl) ⟨u.1,by omega,u.2⟩)
 have s : ∀w',ZB w w'->w'.cell? ⟨v,0,none⟩=some (.pointer (some ⟨gd,0,none⟩))/\w'.cell? ⟨j,0,none⟩=some (.int .i64 a)/\w'.cell? ⟨j,1,none⟩=some (.int .i64 a)/\w'.cell? ⟨j,2,none⟩=some (.int .i64 0):=fun w' l=>⟨(z.below l).cell 0,(p.below l).cell 0,(p.below l).cell 1,(p.below l).cell 2⟩
 have y:=Zh s
 obtain⟨q,o,r,m⟩:=s w (Below.refl _ _)
 have D:(a==a)=true:=by simp
 clear s h z p u
 go_enter Tryz.func67,Tryz.ntmps67
 go_wp2_with fail
 refine(t.out).mono ?_
 rintro e w1 ⟨rfl,k⟩
 clear q o r m
 obtain⟨q,o,r,m⟩:=y.out w1 k
 go_upto_region 3 with fail
 have b:=Blk.new w1 29 #[.int .i64 a,.int .i64 a,.int .i64 0]
 have d:ZB w1 (w1.alloc (.cells #[.int .i64 a,.int .i64 a,.int .i64 0] 29)):=Qa (Below.refl _ _)
 obtain⟨E,f⟩:∃x,w1.heap.size=x:=⟨_,rfl⟩
 obtain⟨A,c⟩:∃x,w1.alloc (.cells #[.int .i64 a,.int .i64 a,.int .i64 0] 29)=x:=⟨_,rfl⟩
 rw[c] at b d ⊢
 rw[f] at b ⊢
 clear c f q o r m
 have i:=Qf k d
 obtain⟨q,o,r,m⟩:=y.out A i
 obtain⟨H,G,F⟩:=QaR b
 clear b
 go_wp2_with fail
 exact⟨rfl,rfl,i⟩
theorem Qk4 (h:DeskIs w B gd gb g enc lim n st dc)(nm a:Int)(v:0<=a/\a<=(st.ats.length:Int)) :
  Calls Tryz.prog 7 #[.pointer (some ⟨gd,0,none⟩),.int .i64 nm,.agg #[.int .i64 a,.int .i64 a,.int .i64 0]] w fun e w'=>e=.returned (.int .i64 120)/\ZB w w':=by
 have t : ∀(fn:Fn) (first cap:Array Value) (w:World),(Instr.makeFunc fn first cap).run Tryz.prog w=.ok (.func fn first cap) w:=fun _ _ _ _=>rfl
 have d:ZB w (((w.alloc (.cells #[.pointer (some ⟨gd,0,none⟩)] 23)).alloc (.cells #[.int .i64 nm] 3)).alloc (.cells #[.int .i64 a,.int .i64 a,.int .i64 0] 29)):=Qa (Qa (Qa (Below.refl _ _)))
 have m:Blk (((w.alloc (.cells #[.pointer (some ⟨gd,0,none⟩)] 23)).alloc (.cells #[.int .i64 nm] 3)).alloc (.cells #[.int .i64 a,.int .i64 a,.int .i64 0] 29)) w.heap.size 23 #[.pointer (some ⟨gd,0,none⟩)]:=((Blk.new w _ _).alloc _).alloc _
 have o:Blk (((w.alloc (.cells #[.pointer (some ⟨gd,0,none⟩)] 23)).alloc (.cells #[.int .i64 nm] 3)).alloc (.cells #[.int .i64 a,.int .i64 a,.int .i64 0] 29)) (w.heap.size+1+1) 29 #[.int .i64 a,.int .i64 a,.int .i64 0]:=Blk.new' (by simp)
 have s:=Zh h
 clear h
 go_enter Tryz.func7,Tryz.ntmps7
 go_upto_region 1 with fail
 obtain⟨w3,i⟩:∃u,(((w.alloc (.cells #[.pointer (some ⟨gd,0,none⟩)] 23)).alloc (.cells #[.int .i64 nm] 3)).alloc (.cells #[.int .i64 a,.int .i64 a,.int .i64 0] 29))=u:=⟨_,rfl⟩
 rw[i] at d m o ⊢
 clear i
 have b:ZB w3 (w3.alloc (.cells #[.int .i64 0] 26)):=Qa (Below.refl _ _)
 have r:=Blk.new w3 26 #[.int .i64 0]
 have k := Zh (Qdc 26 #[.pointer (some ⟨w.heap.size,0,none⟩),.pointer (some ⟨w.heap.size+1+1,0,none⟩),.pointer (some ⟨w.heap.size+1,0,none⟩)] w3
  (fun _=>False) (fun c w'=>c=120/\Below (w3.alloc (.cells #[.int .i64 0] 26)).heap.size (w3.alloc (.cells #[.int .i64 0] 26)) w') Tryz.call26
  ((QlH (s.out.below (Qf d b)) _ _ _ a (m.below b) (o.below b) v).mono (fun _ _ hp=>.inr ⟨120,hp.1,rfl,hp.2⟩))
  (fun w' l=>l.elim) (fun c w' hp=>r.below hp.2))
 clear m o r s
 go_wp2_with fail
 refine(k.out).mono ?_
 rintro e x (⟨_,l⟩|⟨c,rfl,w1,⟨rfl,q⟩,rfl⟩)
 ·exact l.elim
 ·have f:ZB w (w1.setCell ⟨w3.heap.size,0,none⟩ (.int .i64 120)):=(Qf (Qf d b) q).setCell (p:=⟨w3.heap.size,0,none⟩) d.size _
  have j:=Zh f
  clear f q
  go_wp2_with fail
  go_ret
  exact⟨rfl,j.out⟩
theorem QhA (h:DeskIs w B gd gb g enc lim n st dc)(hn:st.now=none)(D:dc.size=10)(nm at_ a:Int)(h2:dc[2]? = some (.int .i64 at_))(X:0<=a/\a<=(st.ats.length:Int))(z:(st.undo.length:Int)<=st.depth) :
  Calls Tryz.prog 20 #[.pointer (some ⟨gd,0,none⟩),.int .i64 nm,.agg #[.int .i64 a,.int .i64 a,.int .i64 0]] w fun e w'=>e=.returned (.int .i64 120)/\DeskIs w' B gd gb g enc lim n st dc/\DFr B (fun _=>False) w w':=by
 have P : ∀(fn:Fn) (first cap:Array Value) (w:World),(Instr.makeFunc fn first cap).run Tryz.prog w=.ok (.func fn first cap) w:=fun _ _ _ _=>rfl
 obtain⟨j,J,A,o⟩:=QdT h at_
 have p:=QbQ h.pos A
 rw[Qr] at p
 obtain⟨x,s⟩:=ZN (QY (Qb enc st.ats) at_ j)
 rw[s] at o p
 have b:ZB w (((w.alloc (.cells #[.pointer (some ⟨gd,0,none⟩)] 23)).alloc (.cells #[.int .i64 nm] 3)).alloc (.cells #[.int .i64 a,.int .i64 a,.int .i64 0] 29)):=Qa (Qa (Qa (Below.refl _ _)))
 have i:Blk (((w.alloc (.cells #[.pointer (some ⟨gd,0,none⟩)] 23)).alloc (.cells #[.int .i64 nm] 3)).alloc (.cells #[.int .i64 a,.int .i64 a,.int .i64 0] 29)) w.heap.size 23 #[.pointer (some ⟨gd,0,none⟩)]:=((Blk.new w _ _).alloc _).alloc _
 have t:Blk (((w.alloc (.cells #[.pointer (some ⟨gd,0,none⟩)] 23)).alloc (.cells #[.int .i64 nm] 3)).alloc (.cells #[.int .i64 a,.int .i64 a,.int .i64 0] 29)) (w.heap.size+1+1) 29 #[.int .i64 a,.int .i64 a,.int .i64 0]:=Blk.new' (by simp)
 have y:=fun(w':World) (d:ZB w w') (i E t:Nat) (Y:Blk w' i 23 #[.pointer (some ⟨gd,0,none⟩)]) (R:Blk w' E 29 #[.int .i64 a,.int .i64 a,.int .i64 0])=>
  (QjM B gd gb g n enc lim x st dc 67 #[.pointer (some ⟨i,0,none⟩),.pointer (some ⟨E,0,none⟩),.pointer (some ⟨t,0,none⟩)] (fun _=>False) (fun _ _ _ _=>False) (fun r L=>r=120/\L=n) w' (h.below d) hn p D Tryz.call67 (fun q T=>T.elim)
   (fun w1 C u=>(Qm6 C i E t a (u.blk Y (by decide) (fun s=>s)) (u.blk R (by decide) (fun s=>s)) X).mono (fun e G hp=>.inr ⟨120,hp.1,st.ats,⟨st.ats,x,[],st.state,false⟩,n,⟨rfl,rfl⟩,by decide,rfl,C.below hp.2,DFr.of_below hp.2⟩)) (fun _ _ _ _ m=>m.elim) z).mono
   (fun e G hp=>(by
    rcases hp with ⟨_,_,_,_,_,m,_⟩|⟨c,L,rfl,_,⟨rfl,rfl⟩,F,m⟩
    ·exact m.elim
    ·exact⟨rfl,F,m⟩:e=.returned (.int .i64 120)/\DeskIs G B gd gb g enc lim n st dc/\DFr B (fun _=>False) w' G))
 have O:=Zh h
 have U:=Zh h2
 have I:=Zh o
 have H:=Zh y
 clear h o s h2 y z hn D J A
 go_enter Tryz.func20,Tryz.ntmps20
 go_upto_region 1 with fail
 obtain⟨w3,l⟩:∃W,(((w.alloc (.cells #[.pointer (some ⟨gd,0,none⟩)] 23)).alloc (.cells #[.int .i64 nm] 3)).alloc (.cells #[.int .i64 a,.int .i64 a,.int .i64 0] 29))=W:=⟨_,rfl⟩
 rw[l] at b i t ⊢
 clear l
 have M : ∀w',ZB w3 w'->w'.cell? ⟨w.heap.size,0,none⟩=some (.pointer (some ⟨gd,0,none⟩))/\w'.cell? ⟨gd,2,none⟩=some (.int .i64 at_):=fun w' d=>⟨(i.below d).cell 0,((O.out.below (Qf b d)).desk.cell 2).trans U.out⟩
 have K:=Zh M
 have N:=Zh (And.intro i t)
 clear M i t
 refine Qah (fun w'=>ZB w3 w') (fun k=>k==8) ([(6,fun v _=>v=.int .i64 x)]) (fun _ _=>False) (by kernel_rfl) (by kernel_rfl) (Below.drew (Below.refl _ _)) (fun _ _ h d=>Qf h d) (⟨fun _ _ _ h _=>h,trivial⟩) (fun _ _ _ _ h=>h.elim) ?_
 repeat ((first
  |(refine QU (v:=?_) (by rfl) (by rfl) (by rfl) (fun w6 hSw=>?_) ?_;rotate_left;(·(obtain⟨S,Q⟩:=K.out _ hSw.1;go_simp;try with_reducible rfl)))
  |refine Qak (by rfl) (by rfl) (by rfl) ?_);(try simp only[Act.put,pA,pB,pC]))
 refine QaP (f:=?_) (args:=?_) (.int .i64 x) (by rfl) (by rfl) (by rfl) (by rfl) (fun w6 hSw=>?_) (fun w6 hSw=>?_) ?_
 rotate_left 2
 ·(skip;go_simp;first|done|(constructor<;>with_reducible rfl)|with_reducible rfl)
 ·(refine(I.out _ (O.out.below (Qf b hSw.1))).mono ?_;rintro e w' ⟨rfl,d⟩;exact⟨rfl,d⟩)
 (try simp only[Act.put,pA,pB,pC])
 repeat ((first
  |(refine QU (v:=?_) (by rfl) (by rfl) (by rfl) (fun w6 hSw=>?_) ?_;rotate_left;(·(obtain⟨S,Q⟩:=K.out _ hSw.1;go_simp;try with_reducible rfl)))
  |refine Qak (by rfl) (by rfl) (by rfl) ?_);(try simp only[Act.put,pA,pB,pC]))
 refine QbY (by rfl) ?_
 refine Qcj (f:=?_) (args:=?_) (fun v w'=>v=.int .i64 120/\DeskIs w' B gd gb g enc lim n st dc/\DFr B (fun _=>False) w w') (by rfl) (fun w6 hSw=>?_) (fun w6 hSw=>?_) (fun v6 hv6=>?_)
 rotate_left 2
 ·(skip;go_simp;first|done|(constructor<;>with_reducible rfl)|with_reducible rfl)
 ·(refine(H.out _ (Qf b hSw.1) _ _ _ (N.out.1.below hSw.1) (N.out.2.below hSw.1)).mono ?_;rintro e w' ⟨rfl,F,m⟩;exact .inl ⟨_,rfl,rfl,F,DFr.call' (Qf b hSw.1) m (fun _ _ h=>h)⟩)
 obtain⟨wz,rfl,-⟩:=hv6
 (try simp only[Act.put,pA,pB,pC])
 repeat ((first
  |(refine Qfo (v:=?_) (by rfl) (fun w6 hSw=>?_) ?_;rotate_left;(·(skip;go_simp;try with_reducible rfl)))
  |refine Qhf (by rfl) ?_);(try simp only[Act.put,pA,pB,pC]))
 refine QbW ?_
 rintro Z ⟨-,hp⟩
 have V:=Zh hp
 clear hp
 go_wp2_with fail
 go_ret
 exact⟨rfl,V.out⟩
end
end Go.Proofs.YtgiihhikdoikgaaGreat
