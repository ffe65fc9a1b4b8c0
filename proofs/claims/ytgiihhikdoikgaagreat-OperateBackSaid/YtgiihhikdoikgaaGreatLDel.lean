/-
  caught where the act gives up with an error. Book.Drop: the open group is taken back. slices.Delete of the first group of a stack.
-/
import Derived.Test.YtgiihhikdoikgaaGreatLTyped
import Derived.Deep.RegionLaw
import Derived.Lib.SliceRun
import Derived.Lib.SlicesDelete
set_option linter.unusedSimpArgs false
set_option linter.unusedVariables false
set_option maxRecDepth 100000
set_option maxHeartbeats 32000000
namespace Go.Proofs.YtgiihhikdoikgaaGreat
open Go.RowKit
def Qal (c:Int):PanicEntry:={ v:=.iface 26 (.int .i64 c),recovered:=false }
theorem Qpk (c:Int)(a:c≠0)(w:World):Calls Tryz.prog 28 #[.int .i64 c] w fun e w'=>e=.panicked [Qal c]/\w'=w:=by
 have q:(c != 0)=true:=by rw[bne_iff_ne];exact a
 go_enter Tryz.func28,Tryz.ntmps28
 go_wp2_with fail
 exact⟨rfl,rfl,rfl⟩
theorem Qjw (c:Int)(w:World):(Instr.typeAssert (.iface 26 (.int .i64 c)) 20 26 true).run Tryz.prog w=.ok (.tuple #[.int .i64 c,.bool true]) w:=by
 simp[Instr.typeAssert,run_underlying Tryz.underlying26,go_sem]
theorem QhD (r:Nat)(c:Int)(older:List PanicEntry)(a:Value)(w:World)(g:w.cell? ⟨r,0,none⟩=some a)(f:w.frozen? ⟨r,0,none⟩=false) :
  CallsD Tryz.prog 76 #[.pointer (some ⟨r,0,none⟩)] (.panicking (Qal c::older)) w
   fun e b w'=>b=.panicking ({ Qal c with recovered:=true }::older)/\e=.returned (.tuple #[])/\w'=w.setCell ⟨r,0,none⟩ (.int .i64 c):=by
 have ta:=Qjw c w
 refine callsD_of_wpS Tryz.func76 rfl fun c₀ h d=>?_
 apply wpS_seq
 apply wpS_region
 simp[wpOpsS,go_sem,recoverD,d,Qal,Tryz.ntmps76,Exit.thenS]
 refine wpS_of_wp ?_
 go_wp2_with fail
 simp[bodyPostS,results,Tryz.results76,go_sem]
theorem Qdv {w:World}{p s m2:Nat}{vm:Value}{o:OpS}(h:Blk w p 196 #[.pointer (some ⟨s,0,none⟩),.pointer none,.int .i64 o.bgn,.int .i64 0,vm,.int .i64 o.old,.int .i64 0,.map (some m2),.slice none 0 0,.bool o.changed]) :
  w.cell? ⟨p,0,none⟩=some (.pointer (some ⟨s,0,none⟩))/\w.cell? ⟨p,2,none⟩=some (.int .i64 o.bgn)/\w.cell? ⟨p,7,none⟩=some (.map (some m2))/\w.cell? ⟨p,8,none⟩=some (.slice none 0 0):=⟨h.cell 0,h.cell 2,h.cell 7,h.cell 8⟩
theorem Qo8 (N B c g:Nat)(enc lim:Int)(n:Nat)(add:Value)(st:BkS)(t:Tr)(a:Option Addr)(xs:List Value)(m:Nat)(vu vr:Value)(now:Option Addr)(o:OpS)(w:World)(h:BkAt w N B c g enc lim n add st t a xs m vu vr now)(hn:st.now=some o) :
  Calls Tryz.prog 92 #[.pointer (some ⟨c,0,none⟩)] w fun e w'=>e=.returned (.tuple #[.int .i64 o.bgn,.int .i64 0])/\(∃t' a' m',BkAt w' N B c g enc lim n add { st with ats:=o.before,now:=none } t' a' xs m' vu vr none)/\BkFr B w w':=by
 have a5:=h.open_
 rw[hn] at a5
 obtain⟨p,rfl,s,m2,vm,vs,E,X,b2,b0,c3,c5⟩:=a5
 obtain⟨c8,t2,y,a1,W,V,a0⟩:=b2
 have d:=Zh h
 have HP:=Zh E
 have R:=Zh X
 have b4:=Zh a1
 have b9:=Zh W
 have b7:=Zh V
 have c4:=Zh a0
 have Z:c≠g:=fun e=>Blk.ne_ h.blk h.text.blk (by decide) e
 have b6:p≠g:=fun e=>Blk.ne_ E h.text.blk (by decide) e
 have c2:p≠c:=fun e=>Blk.ne_ E h.blk (by decide) e
 have a4 : ∀w',ZB w w'->w'.cell? ⟨c,0,none⟩=some (.pointer (some ⟨g,0,none⟩))/\w'.cell? ⟨c,6,none⟩=some (.pointer (some ⟨p,0,none⟩))/\w'.cell? ⟨p,0,none⟩=some (.pointer (some ⟨s,0,none⟩)):=fun w' K=>⟨(h.blk.below K).cell 0,(h.blk.below K).cell 6,(E.below K).cell 0⟩
 have c1:=Zh a4
 have c6:=h.blk.cell 6
 simp at c6
 clear h E X a1 W V a0 a4 b0 c3
 go_enter_defers Tryz.func92,Tryz.ntmps92
 go_wp2_with fail
 refine Qg (fun w'=>w'.cell? ⟨c,0,none⟩=some (.pointer (some ⟨g,0,none⟩))/\w'.cell? ⟨c,6,none⟩=some (.pointer (some ⟨p,0,none⟩))/\w'.cell? ⟨p,0,none⟩=some (.pointer (some ⟨s,0,none⟩))) (fun w'=>w'=w.drew) (fun k=>k==12) (fun k=>k==12) (fun _=>false) (by kernel_rfl) (by kernel_rfl) (rfl) (fun w' h=>by subst h;exact c1.out _ (Below.refl _ _).drew) ?_
 repeat ((first
  |(refine Qc (v:=?_) (by rfl) (by rfl) (fun w6 hSw=>?_) ?_;rotate_left;(·(obtain⟨y0,y1,U⟩:=hSw;go_simp;try with_reducible rfl)))
  |(refine Qd (v:=?_) (by rfl) (fun w6=>?_) ?_;rotate_left;(·(go_simp;try with_reducible rfl)))
  |refine Qe (by rfl) ?_);(try simp only[Act.put,pA,pB,pC]))
 refine Qn (f:=?_) (args:=?_) (fun v w'=>v=.int .i64 0/\w'=w.drew.setCell ⟨g,2,none⟩ (.pointer y)) (by rfl) (by rfl) (fun w6 hSw=>?_) (fun w6 hSw=>?_) (.inl (by rfl)) (fun v6 hv6=>?_)
 rotate_left 2
 ·(skip;go_simp;first|done|(constructor<;>with_reducible rfl)|with_reducible rfl)
 ·(subst hSw;refine(Qh6 g s _ y _ d.out.text.blk.drew ⟨_,rfl⟩ b4.out.drew).mono ?_;rintro e w' ⟨rfl,rfl⟩;exact⟨_,rfl,rfl,rfl⟩)
 obtain⟨wz,rfl,-⟩:=hv6
 (try simp only[Act.put,pA,pB,pC])
 refine Qu ?_
 rintro w1 ⟨-,rfl⟩
 have q:=d.out.blk.drew.far (p:=⟨g,2,none⟩) Z (.pointer y)
 have C:=HP.out.drew.far (p:=⟨g,2,none⟩) b6 (.pointer y)
 have P:=(d.out.text.blk.drew.set_ 2 (.pointer y)).eq_ (show _ = #[.int .i64 enc,.int .i64 lim,.pointer y,add] by simp)
 obtain⟨w1,O⟩:∃x,w.drew.setCell ⟨g,2,none⟩ (.pointer y)=x:=⟨_,rfl⟩
 have T:=Zh O
 rw[O] at q C P ⊢
 clear O
 have a6 : ∀w',ZB w1 w'->w'.cell? ⟨c,6,none⟩=some (.pointer (some ⟨p,0,none⟩))/\w'.cell? ⟨p,7,none⟩=some (.map (some m2))/\w'.cell? ⟨p,8,none⟩=some (.slice none 0 0):=fun w' K=>⟨(q.below K).cell 6,(Qdv (C.below K)).2.2.1,(Qdv (C.below K)).2.2.2⟩
 have a8:=Zh a6
 have j:=Zh q
 have a7:=Zh C
 have a9:=Zh P
 clear a6 q C P c6
 go_wp2_with fail
 refine Qg (fun w'=>w'.cell? ⟨c,6,none⟩=some (.pointer (some ⟨p,0,none⟩))/\w'.cell? ⟨p,7,none⟩=some (.map (some m2))/\w'.cell? ⟨p,8,none⟩=some (.slice none 0 0)) (fun w'=>w'=w1.drew) (fun k=>k==18 || k==21) (fun k=>k==18 || k==21) (fun k=>k==1 || k==19 || k==20 || k==21) (by kernel_rfl) (by kernel_rfl) (rfl) (fun w' h=>by subst h;exact a8.out _ (Below.refl _ _).drew) ?_
 repeat ((first
  |(refine Qc (v:=?_) (by rfl) (by rfl) (fun w6 hSw=>?_) ?_;rotate_left;(·(obtain⟨y0,y1,U⟩:=hSw;go_simp;try with_reducible rfl)))
  |(refine Qd (v:=?_) (by rfl) (fun w6=>?_) ?_;rotate_left;(·(go_simp;try with_reducible rfl)))
  |refine Qe (by rfl) ?_);(try simp only[Act.put,pA,pB,pC]))
 refine Ql (fun _ w'=>w'=w1.drew.setCell ⟨c,4,none⟩ (.map (some m2))) (by rfl) (by rfl) (fun w6 hSw=>?_) (.inl (by rfl)) (fun v6 hv6=>?_)
 ·(subst hSw;have U:=j.out.drew.cell 4;have y3:=j.out.drew.frozen 4;simp at U;go_simp;rfl)
 skip
 (try simp only[Act.put,pA,pB,pC])
 iterate 2 ((first
  |(refine Qc (v:=?_) (by rfl) (by rfl) (fun w6 hSw=>?_) ?_;rotate_left;(·(obtain⟨y0,y1,U⟩:=hSw;go_simp;try with_reducible rfl)))
  |(refine Qd (v:=?_) (by rfl) (fun w6=>?_) ?_;rotate_left;(·(go_simp;try with_reducible rfl)))
  |refine Qe (by rfl) ?_);(try simp only[Act.put,pA,pB,pC]))
 refine Ql (fun _ w'=>w'=(w1.drew.setCell ⟨c,4,none⟩ (.map (some m2))).setCell ⟨c,5,none⟩ (.slice none 0 0)) (by rfl) (by rfl) (fun w6 hSw=>?_) (.inl (by rfl)) (fun v6 hv6=>?_)
 ·(subst hSw;have U:=j.out.cell 5;have y3:=j.out.frozen 5;simp at U;go_simp;rfl)
 skip
 (try simp only[Act.put,pA,pB,pC])
 refine Qu ?_
 rintro S rfl
 have r:=((j.out.drew.set_ 4 (.map (some m2))).set_ 5 (.slice none 0 0)).eq_ (show _ = #[.pointer (some ⟨g,0,none⟩),.int .i64 st.depth,vu,vr,.map (some m2),.slice none 0 0,.pointer (some ⟨p,0,none⟩),.int .i64 st.state,.int .i64 st.saved,.int .i64 st.last] by simp)
 have G:Fr (· = c) w1 ((w1.drew.setCell ⟨c,4,none⟩ (.map (some m2))).setCell ⟨c,5,none⟩ (.slice none 0 0)):=(((Fr.refl _ _).drew).set1 4 _).set1 5 _
 have Q:=a7.out.fr G c2
 obtain⟨S,Y⟩:∃x,(w1.drew.setCell ⟨c,4,none⟩ (.map (some m2))).setCell ⟨c,5,none⟩ (.slice none 0 0)=x:=⟨_,rfl⟩
 rw[Y] at r G Q ⊢
 have q6:=r.cell 6
 obtain⟨-,q2,-⟩:=Qdv Q
 simp at q6
 have I:=Zh r
 have b3:=Zh G
 clear Y r G Q
 go_wp2_with fail
 refine leaves_cons (f:=126) (args := #[.pointer (some ⟨c,0,none⟩)]) (by simp) (by simp[go_sem]) ?_
 refine(QbA c _ (some ⟨p,0,none⟩) .returning _ I.out (by simp)).mono ?_
 rintro e u' c7 ⟨rfl,rfl,rfl⟩
 have a3:=(I.out.set_ 6 (.pointer none)).eq_ (show _ = #[.pointer (some ⟨g,0,none⟩),.int .i64 st.depth,vu,vr,.map (some m2),.slice none 0 0,.pointer none,.int .i64 st.state,.int .i64 st.saved,.int .i64 st.last] by simp)
 have F:Fr (· = c) w1 (S.setCell ⟨c,6,none⟩ (.pointer none)):=b3.out.set1 6 _
 have l:w.drew.ownsRow B 5 1 add n xs:=QN d.out.text.row (Below.refl _ _).drew
 have H:=TStep.set l d.out.text.blk.drew d.out.text.ne 2 (.pointer y)
 have z:=Qt (i:=2) (u:=.pointer y) l d.out.text.blk.drew (by decide)
 rw[T.out] at H
 have b5 : ∀M,GKeep M add add n n enc w w1:=fun M=>(GKeep.below d.out.text.row d.out.text.blk (Below.refl _ _).drew).trans (GKeep.step H l d.out.text.blk.drew)
 have L : ∀M,GKeep M add add n n enc w (S.setCell ⟨c,6,none⟩ (.pointer none)):=fun M=>(b5 M).trans (GKeep.far F (fun k _ hk=>hk▸Far2.blk j.out (by decide)))
 have D:Fr (fun b=>b=g\/b=c) w (S.setCell ⟨c,6,none⟩ (.pointer none)):=by
  have h1:Fr (fun b=>b=g\/b=c) w w1:=by
   have h2:=((Fr.refl (fun b=>b=g\/b=c) w).drew).setCell (p:=⟨g,2,none⟩) (.inl (.inl rfl)) (.pointer y)
   rw[T.out] at h2
   exact h2
  exact h1.call F (fun i _ h=>.inr h)
 rw[T.out] at z
 have J : ∀ v' k' ys, w.ownsRow B 177 1 v' k' ys -> (S.setCell ⟨c, 6, none⟩ (.pointer none)).ownsRow B 177 1 v' k' ys := fun v' k' ys ho => QaD ho D (fun b b1 A hc=>by
  rcases A with rfl|rfl
  ·exact Blk.ne_ hc d.out.text.blk (by decide) rfl
  ·exact Blk.ne_ hc d.out.blk (by decide) rfl)
 have c0:TextM (S.setCell ⟨c,6,none⟩ (.pointer none)) B g enc lim n add t2 y xs:=⟨a9.out.fr F (Ne.symm Z),QaD z F (fun b b1 A hc=>Blk.ne_ hc j.out (by decide) A),d.out.text.enc4,Nat.le_trans d.out.text.base D.size,(L N).tree t2 y b9.out⟩
 have b8 : MapE (S.setCell ⟨c, 6, none⟩ (.pointer none)) st.mb m2 := R.out.fr D (fun A=>by
  rcases A with A|A
  ·exact R.out.ne_blk d.out.text.blk A
  ·exact R.out.ne_blk d.out.blk A)
 refine⟨.tuple #[.int .i64 o.bgn,.int .i64 0],by simp[results,Tryz.results92,go_sem],rfl,⟨t2,y,m2,?_⟩,?_⟩
 ·exact⟨a3,c0,b7.out,c4.out,d.out.lim0,b8,d.out.undo.keep (L N) (Nat.le_refl _) (J _),d.out.redo.keep (L N) (Nat.le_refl _) (J _),d.out.sep,rfl,Nat.le_trans d.out.nle D.size,d.out.nums,⟨d.out.low.1,d.out.low.2.1,d.out.low.2.2.1,fun _ e=>by cases e⟩⟩
 ·refine BkFr.of_fr D (fun b _ A=>?_)
  rcases A with rfl|rfl
  ·exact⟨d.out.low.2.1,_,_,d.out.text.blk,.inl rfl⟩
  ·exact⟨d.out.low.1,_,_,d.out.blk,.inr (.inr (.inl rfl))⟩
theorem QcN {b:Nat}{T:TypeId} : ∀(vs:List Value) (o:Nat) {w:World} {a:Array Value},Blk w b T a->Blk (w.setCells b o vs) b T (Lib.lay a o vs)
 | [],_,_,_,h=>h
 |x::vs,o,_,_,h=>QcN vs (o+1) (h.set_ o x)
theorem Qdx {b:Nat} : ∀(vs:List Value) (o:Nat) {w w':World},Fr (· = b) w w'->Fr (· = b) w (w'.setCells b o vs)
 | [],_,_,_,h=>h
 |x::vs,o,_,_,h=>Qdx vs (o+1) (h.set1 o x)
theorem QiQ : ∀w,(zeroValue 177).run Tryz.prog w=.ok (.pointer none) w:=by
 intro w
 simp[go_sem,run_underlying Tryz.underlying177,zeroValue]
 rfl
theorem Qq6 (B r n c:Nat)(ys:List Value)(w:World)(h:w.ownsRow B 177 1 (.slice (some ⟨r,0,none⟩) n c) n ys)(hn:1<=n)(h1 : ∀u ∈ ys,u.oneCell'=true) :
  Calls Tryz.prog 127 #[.slice (some ⟨r,0,none⟩) n c,.int .i64 0,.int .i64 1] w fun e w'=>e=.returned (.slice (some ⟨r,0,none⟩) (n-1) c)/\w'.ownsRow B 177 1 (.slice (some ⟨r,0,none⟩) (n-1) c) (n-1) (ys.drop 1)/\Fr (· = r) w w':=by
 obtain⟨ig,H,z,C,G⟩:=info_parts QcC
 have p:=h.1
 rcases h.2 with ⟨l,_⟩|⟨W,c',cur,l,M,k,L,D,s,v⟩
 ·cases l
 injection l with l _ e1
 injection l with l
 injection l with l
 subst l
 subst e1
 have k:Blk w r 177 cur:=k
 simp only[Nat.mul_one] at p s v
 have d : ∀i u,ys[i]? = some u->cur[i]? = some u:=fun i u g=>by
  rw[<-v,List.getElem?_take] at g
  split at g
  ·simpa using g
  ·cases g
 obtain⟨news,a⟩:=ZN (ys.drop 1)
 have j:news.length=n-1:=by rw[<-a,List.length_drop];omega
 have b:=k.drew
 obtain⟨A,Y,x⟩:∃A:Addr,(if c=1 then some (⟨r,0,none⟩:Addr) else some ⟨r,1,none⟩)=some A/\Hid (∀t u,news[t]? = some u->w.drew.cell? (A.add t)=some u):=by
  by_cases hc:c=1
  ·refine⟨⟨r,0,none⟩,by simp[hc],fun t u g=>?_⟩
   have K:news.length=0:=by omega
   rw[List.length_eq_zero_iff.1 K] at g
   simp at g
  ·refine⟨⟨r,1,none⟩,by simp[hc],fun t u g=>?_⟩
   rw[<-a,List.getElem?_drop] at g
   rw[Addr.add_lit,b.cell]
   exact d _ _ g
 have T:Hid (news.length=(n-1)*1):=by rw[Nat.mul_one];exact j
 have R:Hid (∀u ∈ news,u.oneCell'=true):=fun u g=>h1 u (by rw[<-a] at g;exact List.mem_of_mem_drop g)
 have P:Hid (∀t,t<news.length->(w.drew.cell? ⟨r,0+0*1+t,none⟩).isSome=true/\w.drew.frozen? ⟨r,0+0*1+t,none⟩=false):=fun t I=>by
  refine⟨?_,b.frozen _⟩
  rw[b.cell,Array.getElem?_eq_getElem (by omega)]
  rfl
 obtain⟨o,m⟩:∃o,o=w.drew.setCells r (0+0*1) news:=⟨_,rfl⟩
 have f:Blk o r 177 (Lib.lay cur 0 news):=by rw[m];exact QcN news 0 b
 have y:Fr (· = r) w o:=by rw[m];exact Qdx news _ ((Fr.refl _ _).drew)
 have U : ∀ty,(Builtin.clear_ #[93] ty #[.slice (some ⟨r,n-1,none⟩) (n-(n-1)) (c-(n-1))]).run Tryz.prog o=.ok (.tuple #[]) (o.setCells r (n-1) (List.replicate (n-(n-1)) (.pointer none))):=
  fun ty=>Lib.run_clear_slice o _ _ ty _ Tryz.underlying93 QiQ rfl rfl r (n-1) _ _ (by omega) (fun t I=>by rw[f.cell,Array.getElem?_eq_getElem (by rw[Lib.lay_size];omega)];rfl) (fun t I=>f.frozen _)
 have O:Hid (o=w.drew.setCells r (0+0*1) news):=m
 have Q:=Zh a
 have X:=Zh d
 have E:=Zh f
 have F:=Zh y
 have HS:=Zh s
 have S:=Zh p
 have q:=Zh j
 have N:1<=c:=by omega
 have J:(1:Int)<=(n:Int):=by omega
 clear m f y b d v p a j k h h1 z G s
 go_enter Tryz.func127,Tryz.ntmps127
 go_wp2_with fail
 go_region_law (refine step_append_room rfl (.tmp 22) (.tmp 25) 93 rfl 177 ig 1 Tryz.underlying93 H C r 0 0 c (by simp[Act.eval,Act.put]) A (n-1) (c-1) news (by simp[Act.eval,Act.put]) T.out x.out R.out (by omega) P.out ?_;rw[<-O.out])
 go_wp2_with fail
 go_ret
 refine⟨rfl,⟨?_,.inr ⟨r,c,Lib.lay (Lib.lay cur 0 news) (n-1) (List.replicate (n-(n-1)) (.pointer none)),rfl,M,QcN _ _ E.out,by omega,D,?_,?_⟩⟩,Qdx _ _ F.out⟩
 ·rw[List.length_drop,S.out,Nat.mul_one]
 ·rw[Lib.lay_size,Lib.lay_size,HS.out,Nat.mul_one]
 ·rw[Q.out,Nat.mul_one]
  apply List.ext_getElem?
  intro i
  rw[List.getElem?_take]
  split
  ·rename_i V
   rw[Array.getElem?_toList,Lib.lay_get? _ _ _ _ (by rw[Lib.lay_size,HS.out,List.length_replicate];omega),if_neg (by omega),Lib.lay_get? _ _ _ _ (by rw[q.out,HS.out];omega),if_pos (by rw[q.out];omega),Nat.sub_zero]
  ·rw[List.getElem?_eq_none (by rw[q.out];omega)]
end Go.Proofs.YtgiihhikdoikgaaGreat
