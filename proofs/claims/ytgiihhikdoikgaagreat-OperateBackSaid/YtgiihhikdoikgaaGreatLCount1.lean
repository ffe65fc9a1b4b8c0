/-
  OperateCounts: rowOf, where it is true.
-/
import Derived.Test.YtgiihhikdoikgaaGreatLShift2
import Derived.Test.YtgiihhikdoikgaaGreatLReg4
set_option linter.unusedSimpArgs false
set_option linter.unusedVariables false
set_option maxRecDepth 100000
set_option maxHeartbeats 32000000
namespace Go.Proofs.YtgiihhikdoikgaaGreat
open Go.RowKit
def QeC (st:BkS)(es:List Ed)(c:Int):OpS:=⟨st.ats,c,[es.map QiD],st.state,es.any chg⟩
def Qdo (st:BkS)(es:List Ed)(c x:Int):BkS:=QiA { st with ats:=edA es st.ats,now:=some (QeC st es c) } (QeC st es c) x
theorem RegAt.val {D:Nat->Prop}{w:World}{o:Option Value}{r:Option (Int × List Int)}(h:RegAt D w o r):∃kd A n c,o.getD (.agg #[.int .i64 0,.slice none 0 0])=.agg #[.int .i64 kd,.slice A n c]:=by
 cases r with
 |none=>
  have:o=none:=h
  subst this
  exact⟨0,none,0,0,rfl⟩
 |some p=>
  obtain⟨A,n,c,rfl,_⟩:=h
  exact⟨p.1,A,n,c,rfl⟩
theorem QjH {P:Program}{T:Value->World->Prop}{o:Oper}{a:Act}{s x:Operand}{t b:TypeId}{v k:Value}{w w':World}
  (e:o.op=.call { callee:=.builtin .delete,args := #[s,x],argTypes := #[t,b] }) (d:a.eval s=v) (c:a.eval x=k) (g:(Builtin.delete_ #[t,b] o.type #[v,k]).run P w=.ok (.tuple #[]) w') (f:T (.tuple #[]) w'):HRun P T ((execOp a.eval o).run P w):=by
 unfold execOp
 simp only[e,resolve,invoke,builtin,Sem.run_bind,Sem.run_pure,Result.andThen_ok,List.map_toArray,List.map_cons,List.map_nil,d,c,g]
 exact f
theorem Q8 {D:Nat->Prop}{w:World}{B c mk:Nat}{R:Int->Option (Int × List Int)}{d:Int}(h:BankD D w B c mk R d):mk<w.heap.size/\∀T a,¬Blk w mk T a:=by
 obtain⟨l,h1,_⟩:=h.map
 exact⟨h1.lt,fun T a b=>h1.ne_blk b rfl⟩
theorem QlZ {D:Nat->Prop}(B G mk:Nat)(R:Int->Option (Int × List Int))(tu k kd:Int)(A:Option Addr)(n c:Nat)(xs:List Int)(w:World)(h:BankD D w B G mk R tu)(hx:IntsD D w A n xs)(hc:n<=c)(hn:n<=140000) :
  Calls Tryz.prog 123 #[.pointer (some ⟨G,0,none⟩),.agg #[.int .i64 k,.bool false],.agg #[.int .i64 kd,.slice A n c]] w fun e w'=>e=.returned (.int .i64 0)/\BankD D w' B G mk (Qc7 R k kd xs) tu/\Fr (· = mk) w w':=by
 have g:ZB w ((w.alloc (.cells #[.int .i64 k,.bool false] 120)).alloc (.cells #[.int .i64 kd,.slice A n c] 66)):=Qa (Qa (Below.refl _ _))
 have X:Blk ((w.alloc (.cells #[.int .i64 k,.bool false] 120)).alloc (.cells #[.int .i64 kd,.slice A n c] 66)) w.heap.size 120 #[.int .i64 k,.bool false]:=(Blk.new w _ _).alloc _
 have k2:Blk ((w.alloc (.cells #[.int .i64 k,.bool false] 120)).alloc (.cells #[.int .i64 kd,.slice A n c] 66)) (w.heap.size+1) 66 #[.int .i64 kd,.slice A n c]:=Blk.new' (by simp)
 obtain⟨l,F,M,E⟩:=h.map
 obtain⟨a0,A0,n0,c0,N⟩:=(E k).val
 obtain⟨ok,W⟩:∃b,(Qgg l k).isSome=b:=⟨_,rfl⟩
 obtain⟨a1,y⟩:=Q8 h
 have K:=hx.any.len
 have H:=Zh F
 have O:=Zh M
 have L:=Zh E
 have T:=Zh h
 have HX:=Zh hx
 have a2:=Zh y
 have J:=Zh K
 have V : ∀w',ZB w w'->(Instr.lookup 123 (.map (some mk)) (.int .i64 k) true).run Tryz.prog w'=.ok (.tuple #[.agg #[.int .i64 a0,.slice A0 n0 c0],.bool ok]) w':=fun w' z=>by
  have:=(F.below z).lookup Tryz.underlying123 Tryz.underlying3 k (QiI w')
  rw[N,W] at this
  exact this
 have U:=Zh V
 clear h F M E N W V hx y K
 go_enter Tryz.func123,Tryz.ntmps123
 go_upto_region 1 with fail
 obtain⟨w0,I⟩:∃x,(w.alloc (.cells #[.int .i64 k,.bool false] 120)).alloc (.cells #[.int .i64 kd,.slice A n c] 66)=x:=⟨_,rfl⟩
 rw[I] at g X k2 ⊢
 clear I
 have hF : ∀w',ZB w0 w'->w'.cell? ⟨G,0,none⟩=some (.map (some mk))/\w'.cell? ⟨w.heap.size,0,none⟩=some (.int .i64 k)/\w'.cell? ⟨w.heap.size,1,none⟩=some (.bool false)/\w'.cell? ⟨w.heap.size+1,0,none⟩=some (.int .i64 kd)/\w'.cell? ⟨w.heap.size+1,1,none⟩=some (.slice A n c):=fun w' z=>
  ⟨(T.out.blk.below (Qf g z)).cell 0,(X.below z).cell 0,(X.below z).cell 1,(k2.below z).cell 0,(k2.below z).cell 1⟩
 have Q:=Zh hF
 clear hF X k2
 refine Qg (fun w'=>ZB w0 w') (fun w'=>ZB w0 w') (fun k=>k==10 || k==11) (fun k=>k==11) (fun k=>k==9 || k==12) (by kernel_rfl) (by kernel_rfl) (Below.drew (Below.refl _ _)) (fun _ h=>h) ?_
 repeat ((first
  |(refine Qc (v:=?_) (by rfl) (by rfl) (fun w6 hSw=>?_) ?_;rotate_left;(·(obtain⟨y0,Z,y2,Y,y4⟩:=Q.out _ hSw;have y5:=U.out _ (Qf g hSw);go_simp;try with_reducible rfl)))
  |(refine Qd (v:=?_) (by rfl) (fun w6=>?_) ?_;rotate_left;(·(go_simp;try with_reducible rfl)))
  |refine Qe (by rfl) ?_);(try simp only[Act.put,pA,pB,pC]))
 refine Ql (fun u w'=>∃wq,ZB w0 wq/\u=.pointer (some ⟨wq.heap.size,0,none⟩)/\w'=wq.alloc (.cells #[.int .i64 0,.slice none 0 0] 66)) (by rfl) (by rfl) (fun w6 hSw=>?_) (.inr (fun v6 w6 hT6=>?_)) (fun v6 hv6=>?_)
 ·(go_simp;exact⟨w6,hSw,rfl,rfl⟩)
 ·(obtain⟨wq,m,-,rfl⟩:=hT6;exact Qa m)
 skip
 (try simp only[Act.put,pA,pB,pC])
 refine Ql (fun _ w'=>ZB w0 w') (by rfl) (by rfl) (fun w6 hSw=>?_) (.inl (by rfl)) (fun v6 hv6=>?_)
 ·(obtain⟨wq,m,rfl,rfl⟩:=hSw;go_simp;exact Qa m)
 skip
 (try simp only[Act.put,pA,pB,pC])
 repeat ((first
  |(refine Qc (v:=?_) (by rfl) (by rfl) (fun w6 hSw=>?_) ?_;rotate_left;(·(obtain⟨y0,Z,y2,Y,y4⟩:=Q.out _ hSw;have y5:=U.out _ (Qf g hSw);go_simp;try with_reducible rfl)))
  |(refine Qd (v:=?_) (by rfl) (fun w6=>?_) ?_;rotate_left;(·(go_simp;try with_reducible rfl)))
  |refine Qe (by rfl) ?_);(try simp only[Act.put,pA,pB,pC]))
 refine Qu ?_
 intro w1 s
 obtain⟨y0,Z,y2,Y,y4⟩:=Q.out _ s
 have f:=Qf g s
 have p0:(140000<(n:Int))=False:=by simp;omega
 have o : ∀wq w3,ZB w1 wq->xs≠[]->MapIs w3 mk (Qf3 k (.agg #[.int .i64 kd,.slice A n c]) l)->Fr (· = mk) wq w3->BankD D w3 B G mk (Qc7 R k kd xs) tu/\Fr (· = mk) w w3:=fun wq w3 m t hm d=>by
  have a:=Qf f m
  exact⟨(T.out.below a).put O.out (fun q=>(L.out q).fr (S:=fun _=>False) (Fr.of_below a) (fun _ _ h=>h.elim)) hm d (Q8 (T.out.below a)).2 (HX.out.bel a) hc t hn,(Fr.of_below a).call d (fun i hi h=>h)⟩
 have r : ∀wq w3,ZB w1 wq->xs=[]->MapIs w3 mk (QiC k l)->Fr (· = mk) wq w3->BankD D w3 B G mk (Qc7 R k kd xs) tu/\Fr (· = mk) w w3:=fun wq w3 m t hm d=>by
  have a:=Qf f m
  subst t
  exact⟨(T.out.below a).del O.out (fun q=>(L.out q).fr (S:=fun _=>False) (Fr.of_below a) (fun _ _ h=>h.elim)) hm d (Q8 (T.out.below a)).2,(Fr.of_below a).call d (fun i hi h=>h)⟩
 have HP:=Zh o
 have HD:=Zh r
 clear o r
 rcases Nat.eq_zero_or_pos n with t|t
 ·have q0:((n:Int)==0)=true:=by simp;exact t
  have j:xs=[]:=List.eq_nil_of_length_eq_zero (by rw[J.out];exact t)
  have C:=Zh j
  clear t j
  cases ok
  all_goals
   go_upto_region 9 with fail
   refine Qg (fun w'=>ZB w1 w') (fun w'=>ZB w1 w') (fun k=>k==6) (fun k=>k==6) (fun _=>false) (by kernel_rfl) (by kernel_rfl) (Below.drew (Below.refl _ _)) (fun _ h=>h) ?_
   repeat ((first
    |(refine Qc (v:=?_) (by rfl) (by rfl) (fun w6 hSw=>?_) ?_;rotate_left;(·(obtain⟨y0,Z,y2,Y,y4⟩:=Q.out _ (Qf s hSw);go_simp;try with_reducible rfl)))
    |(refine Qd (v:=?_) (by rfl) (fun w6=>?_) ?_;rotate_left;(·(go_simp;try with_reducible rfl)))
    |refine Qe (by rfl) ?_);(try simp only[Act.put,pA,pB,pC]))
   refine Ql (fun _ w'=>∃wq,ZB w1 wq/\MapIs w' mk (QiC k l)/\Fr (· = mk) wq w') (by rfl) (by rfl) (fun w6 hSw=>?_) (.inl (by rfl)) (fun v6 hv6=>?_)
   ·(obtain⟨w7,hr,hm,d⟩:=MapIs.delete (P:=Tryz.prog) (H.out.below (Qf f hSw)) Tryz.underlying123 Tryz.underlying3 k 3 0;exact QjH rfl rfl rfl hr ⟨w6,hSw,hm,d⟩)
   skip
   (try simp only[Act.put,pA,pB,pC])
   refine Qu ?_
   rintro w3 ⟨wq,m,hm,d⟩
   have p:=Zh (HD.out wq w3 m C.out hm d)
   clear hm d
   go_wp2_with fail
   go_ret
   exact⟨rfl,p.out⟩
 ·have q0:((n:Int)==0)=false:=by rw[beq_eq_false_iff_ne];omega
  have j:xs≠[]:=fun e=>by
   have:=J.out
   rw[e] at this
   simp at this
   omega
  have C:=Zh j
  clear j
  cases ok
  all_goals
   go_upto_region 10 with fail
   refine Qg (fun w'=>ZB w1 w') (fun w'=>ZB w1 w') (fun k=>k==7) (fun k=>k==7) (fun _=>false) (by kernel_rfl) (by kernel_rfl) (Below.drew (Below.refl _ _)) (fun _ h=>h) ?_
   repeat ((first
    |(refine Qc (v:=?_) (by rfl) (by rfl) (fun w6 hSw=>?_) ?_;rotate_left;(·(obtain⟨y0,Z,y2,Y,y4⟩:=Q.out _ (Qf s hSw);go_simp;try with_reducible rfl)))
    |(refine Qd (v:=?_) (by rfl) (fun w6=>?_) ?_;rotate_left;(·(go_simp;try with_reducible rfl)))
    |refine Qe (by rfl) ?_);(try simp only[Act.put,pA,pB,pC]))
   refine Ql (fun _ w'=>∃wq,ZB w1 wq/\MapIs w' mk (Qf3 k (.agg #[.int .i64 kd,.slice A n c]) l)/\Fr (· = mk) wq w') (by rfl) (by rfl) (fun w6 hSw=>?_) (.inl (by rfl)) (fun v6 hv6=>?_)
   ·(obtain⟨w7,hr,hm,d⟩:=MapIs.update (P:=Tryz.prog) (H.out.below (Qf f hSw)) Tryz.underlying123 Tryz.underlying3 k (.agg #[.int .i64 kd,.slice A n c]);go_simp;exact⟨w6,hSw,hm,d⟩)
   skip
   (try simp only[Act.put,pA,pB,pC])
   refine Qu ?_
   rintro w3 ⟨wq,m,hm,d⟩
   have p:=Zh (HP.out wq w3 m C.out hm d)
   clear hm d
   go_wp2_with fail
   go_ret
   exact⟨rfl,p.out⟩
theorem BankD.setTo {D:Nat->Prop}{w:World}{B a mk:Nat}{R:Int->Option (Int × List Int)}{f:Int}(h:BankD D w B a mk R f)(k:Int):BankD D (w.setCell ⟨a,1,none⟩ (.int .i64 k)) B a mk R k:=by
 have c:Fr (· = a) w (w.setCell ⟨a,1,none⟩ (.int .i64 k)):=(Fr.refl _ _).set1 1 _
 obtain⟨l,h1,h2,d⟩:=h.map
 refine⟨(h.blk.set_ 1 (.int .i64 k)).eq_ (by simp),h.low,l,h1.fr c (fun e=>h1.ne_blk h.blk e),h2,fun q=>(d q).fr c (fun b _ hs ⟨cs,hc⟩=>Blk.ne_ hc h.blk (by decide) hs)⟩
theorem QhY {D:Nat->Prop}(B f mk:Nat)(R:Int->Option (Int × List Int))(z k kd:Int)(A:Option Addr)(n c:Nat)(xs:List Int)(w:World)(h:BankD D w B f mk R z)(y:IntsD D w A n xs)(G:n<=c)(hn:n<=140000) :
  Calls Tryz.prog 79 #[.pointer (some ⟨f,0,none⟩),.agg #[.int .i64 k,.bool false],.agg #[.int .i64 kd,.slice A n c]] w fun e w'=>e=.returned (.int .i64 0)/\BankD D w' B f mk (Qc7 R k kd xs) k/\Fr (fun b=>b=mk\/b=f) w w':=by
 have a:ZB w ((w.alloc (.cells #[.int .i64 k,.bool false] 120)).alloc (.cells #[.int .i64 kd,.slice A n c] 66)):=Qa (Qa (Below.refl _ _))
 have r:Blk ((w.alloc (.cells #[.int .i64 k,.bool false] 120)).alloc (.cells #[.int .i64 kd,.slice A n c] 66)) w.heap.size 120 #[.int .i64 k,.bool false]:=(Blk.new w _ _).alloc _
 have v:Blk ((w.alloc (.cells #[.int .i64 k,.bool false] 120)).alloc (.cells #[.int .i64 kd,.slice A n c] 66)) (w.heap.size+1) 66 #[.int .i64 kd,.slice A n c]:=Blk.new' (by simp)
 have l:=QlZ B f mk R z k kd A n c xs _ (h.below a) (y.bel a) G hn
 have q:=Zh l
 have j:=(Q8 (h.below a)).2
 clear l h y
 go_enter Tryz.func79,Tryz.ntmps79
 go_upto_region 1 with fail
 obtain⟨w0,o⟩:∃x,(w.alloc (.cells #[.int .i64 k,.bool false] 120)).alloc (.cells #[.int .i64 kd,.slice A n c] 66)=x:=⟨_,rfl⟩
 rw[o] at a r v q j ⊢
 clear o
 obtain⟨⟨c0,c1⟩,-⟩:=Qp r
 obtain⟨⟨H,F⟩,-⟩:=Qp v
 have t:=Zh j
 clear j
 go_wp2_with fail
 refine(q.out).mono ?_
 rintro e w1 ⟨rfl,m,s⟩
 have u:=r.fr s (fun e=>t.out _ _ (e▸r))
 clear c0 c1 H F
 obtain⟨⟨c0,c1⟩,-⟩:=Qp u
 have E:=m.blk.cell 0
 have I:=m.blk.cell 1
 have K:=m.blk.frozen 1
 simp at E I
 have d:=m.setTo k
 have C:Fr (fun b=>b=mk\/b=f) w (w1.setCell ⟨f,1,none⟩ (.int .i64 k)):=((Fr.of_below a).call s (fun i J h=>.inl h)).setCell (p:=⟨f,1,none⟩) (.inl (.inr rfl)) _
 have g:=Zh (And.intro d C)
 clear d C m s
 go_wp2_with fail
 go_ret
 exact⟨rfl,g.out.1,g.out.2⟩
def ykF (k:Int):Int:=if k=34 then 48 else k
theorem QhO {D:Nat->Prop}(B N mk:Nat)(R:Int->Option (Int × List Int))(tu nm k kd:Int)(A:Option Addr)(n c:Nat)(xs:List Int)(w:World)(h:BankD D w B N mk R tu)(hx:IntsI w A n xs)(hn:n<=139999)(l:QaC nm=((k,false),true))(hk:k≠46/\k≠58/\k≠47/\k≠95)(a6:kd=0\/kd=1)(h0:0<n)(a7 : ∀b,w.heap.size<=b->D b:=by intros;first|assumption|exact trivial) :
  Calls Tryz.prog 29 #[.pointer (some ⟨N,0,none⟩),.int .i64 nm,.agg #[.int .i64 kd,.slice A n c]] w fun e w'=>e=.returned (.int .i64 0)/\BankD D w' B N mk (Qc7 R (ykF k) kd (wrF kd xs)) (ykF k)/\Fr (fun b=>b=mk\/b=N) w w':=by
 have r:ZB w (w.alloc (.cells #[.int .i64 kd,.slice A n c] 66)):=Qa (Below.refl _ _)
 have k1:Blk (w.alloc (.cells #[.int .i64 kd,.slice A n c] 66)) w.heap.size 66 #[.int .i64 kd,.slice A n c]:=Blk.new w _ _
 have f:=fun w'=>Qf8 nm kd A n c w' (by rw[l]) (by rw[l];exact⟨hk.1,hk.2.1,hk.2.2.1⟩) a6
 rw[l] at f
 unfold Qjq at f
 dsimp only at f
 have a4:=Zh f
 have K:=Zh (fun(w':World) (H:ZB w w')=>Qfn kd A n c xs w' (hx.bel H) (by omega))
 have a1:=hx.any.len
 obtain⟨ys,y⟩:=ZN (wrF kd xs)
 have W:0<ys.length/\ys.length<=140000:=by
  rw[<-y]
  unfold wrF
  split
  ·rw[List.length_append];simp;omega
  ·omega
 rw[y] at K ⊢
 have HH:=Zh h
 have a8:(k==95)=false:=by rw[beq_eq_false_iff_ne];exact hk.2.2.2
 obtain⟨M,hM⟩:=ZN (ys.length)
 have HM:=Zh hM
 rw[hM] at W
 have G:=Zh (fun(w':World) (H:ZB w w') (A':Option Addr) (c':Nat) (hy:IntsD D w' A' M ys) (hc:M<=c')=>QhY B N mk R tu (ykF k) kd A' M c' ys w' (h.below H) hy hc W.2)
 clear h hx f y a1 hM l hk
 go_enter Tryz.func29,Tryz.ntmps29
 go_upto_region 1 with fail
 obtain⟨w0,P⟩:∃x,w.alloc (.cells #[.int .i64 kd,.slice A n c] 66)=x:=⟨_,rfl⟩
 rw[P] at r k1 ⊢
 clear P
 obtain⟨⟨c0,c1⟩,-⟩:=Qp k1
 go_wp2_with fail
 refine(a4.out _).mono ?_
 rintro e w1 ⟨rfl,C⟩
 go_upto_region 2 with fail
 have k3:=Blk.new w1 120 #[.int .i64 k,.bool false]
 have E:=(k1.below C).alloc (.cells #[.int .i64 k,.bool false] 120)
 have j:ZB w (w1.alloc (.cells #[.int .i64 k,.bool false] 120)):=Qa (Qf r C)
 have a2:w.heap.size<=w1.heap.size:=(Qf r C).size
 obtain⟨b7,hb7⟩:∃x,w1.heap.size=x:=⟨_,rfl⟩
 obtain⟨w2,V⟩:∃x,w1.alloc (.cells #[.int .i64 k,.bool false] 120)=x:=⟨_,rfl⟩
 rw[hb7] at k3 a2 ⊢
 rw[V] at k3 E j ⊢
 clear hb7 V k1 c0 c1
 obtain⟨⟨c0,c1⟩,-⟩:=Qp E
 have a5:=Zh (K.out w2 j)
 go_wp2_with fail
 refine(a5.out).mono ?_
 rintro e w3 ⟨v,rfl,ho,X⟩
 rw[HM.out] at ho
 obtain⟨z,s,rfl,S⟩:=Qj ho
 have T:=IntsD.of_own ho (fun b H=>a7 b (Nat.le_trans j.size H))
 go_upto_region 5 with fail
 have p:ZB w (w3.alloc (.cells #[.int .i64 kd,.slice z M s] 66)):=Qa (Qf j X)
 have t:=Blk.new w3 66 #[.int .i64 kd,.slice z M s]
 have d:=(k3.below X).alloc (.cells #[.int .i64 kd,.slice z M s] 66)
 have g:=T.bel (Qa (o:=.cells #[.int .i64 kd,.slice z M s] 66) (Below.refl _ _))
 obtain⟨b9,O⟩:∃x,w3.heap.size=x:=⟨_,rfl⟩
 obtain⟨w4,I⟩:∃x,w3.alloc (.cells #[.int .i64 kd,.slice z M s] 66)=x:=⟨_,rfl⟩
 rw[O] at t ⊢
 rw[I] at p t d g ⊢
 clear O I T ho c0 c1 k3 E
 obtain⟨⟨c0,c1⟩,f0,f1⟩:=Qp d
 obtain⟨⟨d0,d1⟩,-⟩:=Qp t
 have qM:((M:Int)==0)=false:=by rw[beq_eq_false_iff_ne];omega
 by_cases h34:k=34
 ·subst h34
  have q:Fr (· = b7) w4 (w4.setCell ⟨b7,0,none⟩ (.int .i64 48)):=(Fr.refl _ _).set1 0 _
  have a0:=(d.set_ 0 (.int .i64 48)).eq_ (show _ = #[.int .i64 48,.bool false] by simp)
  have U:=t.fr q (fun e=>Blk.ne_ t d (by decide) e)
  have Z:=g.fr q (fun b _ hs ⟨cs,hc⟩=>Blk.ne_ hc d (by decide) hs)
  have F:ZB w (w4.setCell ⟨b7,0,none⟩ (.int .i64 48)):=bfr p q (fun i h=>by omega)
  obtain⟨⟨e0,e1⟩,-⟩:=Qp a0
  obtain⟨⟨g0,g1⟩,-⟩:=Qp U
  have m:=Zh (G.out _ F z s Z S)
  have J:=Zh F
  clear q a0 U Z F g d t
  go_upto_region 9 with fail
  obtain⟨w5,Y⟩:∃x,w4.setCell ⟨b7,0,none⟩ (.int .i64 48)=x:=⟨_,rfl⟩
  rw[Y] at e0 e1 g0 g1 m J ⊢
  clear Y c0 c1 f0 f1 d0 d1
  go_wp2_with fail
  refine(m.out).mono ?_
  rintro e w6 ⟨rfl,L,Q⟩
  have a:=Zh (And.intro L ((Fr.of_below J.out).call Q (fun i hi h=>h)))
  clear L Q
  go_wp2_with fail
  go_ret
  exact⟨rfl,a.out.1,a.out.2⟩
 ·have a9:(k==34)=false:=by rw[beq_eq_false_iff_ne];exact h34
  have u:ykF k=k:=by unfold ykF;rw[if_neg h34]
  rw[u] at G
  have m:=Zh (G.out _ p z s g S)
  have a3:=Zh u
  clear g d t u
  go_wp2_with fail
  refine(m.out).mono ?_
  rintro e w6 ⟨rfl,L,Q⟩
  have a:=Zh (And.intro L ((Fr.of_below p).call Q (fun i hi h=>h)))
  clear L Q
  go_wp2_with fail
  go_ret
  rw[a3.out]
  exact⟨rfl,a.out.1,a.out.2⟩
def gkF (k a:Int):Int:=if k=34 then a else k
def QiN (r:Option (Int × List Int))(w:World)(e:Ending)(w':World):Prop:=
 match r with
 |none=>e=.returned (.tuple #[.agg #[.int .i64 0,.slice none 0 0],.int .i64 112])/\ZB w w'
 |some p=>∃v,e=.returned (.tuple #[.agg #[.int .i64 p.1,v],.int .i64 0])/\w'.ownsRow w.heap.size 3 1 v p.2.length (p.2.map (Value.int .i64))/\ZB w w'
theorem QjY {D:Nat->Prop}(B gk mk:Nat)(R:Int->Option (Int × List Int))(S nm k:Int)(F:Bool)(w:World)(h:BankD D w B gk mk R S)(Z:QaC nm=((k,F),true)) :
  Calls Tryz.prog 23 #[.pointer (some ⟨gk,0,none⟩),.int .i64 nm] w (QiN (R (gkF k S)) w):=by
 have M:ZB w (w.alloc (.cells #[.int .i64 0,.slice none 0 0] 66)):=Qa (Below.refl _ _)
 have k4:Blk (w.alloc (.cells #[.int .i64 0,.slice none 0 0] 66)) w.heap.size 66 #[.int .i64 0,.slice none 0 0]:=Blk.new w _ _
 have y:=fun w'=>Qhm nm w'
 rw[Z] at y
 unfold Qjq at y
 dsimp only at y
 have d3:=Zh y
 obtain⟨K,hK⟩:=ZN (gkF k S)
 rw[hK]
 obtain⟨l,b2,c8,Y⟩:=h.map
 have j:=Y K
 obtain⟨a,T,G,c0,E⟩:=j.val
 obtain⟨ok,m⟩:∃b,(Qgg l K).isSome=b:=⟨_,rfl⟩
 have b4 : ∀w',ZB w w'->(Instr.lookup 123 (.map (some mk)) (.int .i64 K) true).run Tryz.prog w'=.ok (.tuple #[.agg #[.int .i64 a,.slice T G c0],.bool ok]) w':=fun w' g=>by
  have:=(b2.below g).lookup Tryz.underlying123 Tryz.underlying3 K (QiI w')
  rw[E,m] at this
  exact this
 have r:(R K=none/\ok=false)\/∃xs,R K=some (a,xs)/\ok=true/\IntsD D w T G xs/\G<=c0/\G<=140000:=by
  cases J:R K with
  |none=>
   rw[J] at j
   have:Qgg l K=none:=j
   rw[this] at m
   exact .inl ⟨rfl,m.symm⟩
  |some p=>
   rw[J] at j
   obtain⟨A,n,c,h1,h2,h3,h4⟩:=j
   rw[h1] at m E
   have e:(Value.agg #[.int .i64 p.1,.slice A n c])=.agg #[.int .i64 a,.slice T G c0]:=E
   injection e with e
   have e':[Value.int .i64 p.1,.slice A n c]=[Value.int .i64 a,.slice T G c0]:=congrArg Array.toList e
   injection e' with e1 e2
   injection e2 with e2 e3
   injection e1 with _ e1
   injection e2 with e4 e5 e6
   subst e1 e4 e5 e6
   exact .inr ⟨p.2,rfl,m.symm,h2,h3,h4⟩
 have b1:=Zh b4
 have HH:=Zh h
 have b0:=Zh hK
 have d6:=Zh r
 clear h y hK b2 c8 Y j E m b4 r Z
 go_enter Tryz.func23,Tryz.ntmps23
 go_upto_region 1 with fail
 obtain⟨w0,a1⟩:∃x,w.alloc (.cells #[.int .i64 0,.slice none 0 0] 66)=x:=⟨_,rfl⟩
 rw[a1] at M k4 ⊢
 clear a1
 go_wp2_with fail
 refine(d3.out _).mono ?_
 rintro e w1 ⟨rfl,U⟩
 go_upto_region 2 with fail
 have Q:=Blk.new w1 120 #[.int .i64 k,.bool F]
 have s:=(k4.below U).alloc (.cells #[.int .i64 k,.bool F] 120)
 have C:ZB w (w1.alloc (.cells #[.int .i64 k,.bool F] 120)):=Qa (Qf M U)
 have c6:w.heap.size<=w1.heap.size:=(Qf M U).size
 obtain⟨b6,a8⟩:∃x,w1.heap.size=x:=⟨_,rfl⟩
 obtain⟨w2,a3⟩:∃x,w1.alloc (.cells #[.int .i64 k,.bool F] 120)=x:=⟨_,rfl⟩
 rw[a8] at Q c6 ⊢
 rw[a3] at Q s C ⊢
 clear a8 a3 k4
 obtain⟨⟨c9,d4⟩,d5,c5⟩:=Qp Q
 have g1:=(HH.out.below C).blk.cell 1
 simp at g1
 go_upto_if 19 with fail
 go_cut [] (fun wx=>Hid (Blk wx b6 120 #[.int .i64 K,.bool F])/\Hid (Blk wx w.heap.size 66 #[.int .i64 0,.slice none 0 0])/\ZB w wx)
 case first=>
  by_cases h34:k=34
  ·have z:K=S:=by rw[<-b0.out];unfold gkF;rw[if_pos h34]
   subst h34
   have hF:Fr (· = b6) w2 (w2.setCell ⟨b6,0,none⟩ (.int .i64 S)):=(Fr.refl _ _).set1 0 _
   have r6:=(Q.set_ 0 (.int .i64 S)).eq_ (show _ = #[.int .i64 S,.bool F] by simp)
   have r4:=s.fr hF (fun e=>Blk.ne_ s Q (by decide) e)
   have a0:=bfr C hF (fun i hi=>by omega)
   have L:=Zh (And.intro r6 (And.intro r4 a0))
   have P:=Zh z
   clear hF r6 r4 a0 z
   go_wp2_with fail
   go_meet
   rw[P.out]
   exact⟨Zh L.out.1,Zh L.out.2.1,L.out.2.2⟩
  ·have d8:(k==34)=false:=by rw[beq_eq_false_iff_ne];exact h34
   have z:K=k:=by rw[<-b0.out];unfold gkF;rw[if_neg h34]
   have P:=Zh z
   have L:=Zh (And.intro Q (And.intro s C))
   clear z
   go_wp2_with fail
   go_meet
   rw[P.out]
   exact⟨Zh L.out.1,Zh L.out.2.1,L.out.2.2⟩
 case rest=>
  obtain⟨c1,c4,H⟩:=hcut
  have a6 : ∀w',ZB wc w'->w'.cell? ⟨gk,0,none⟩=some (.map (some mk))/\w'.cell? ⟨b6,0,none⟩=some (.int .i64 K):=fun w' g=>
   ⟨(HH.out.blk.below (Qf H g)).cell 0,(c1.out.below g).cell 0⟩
  have HF:=Zh a6
  clear a6 Q s c9 d4 d5 c5 g1
  go_upto_region 6 with fail
  refine Qg (fun w'=>ZB wc w') (fun w'=>ZB wc w') (fun k=>k==10 || k==11) (fun k=>k==11) (fun k=>k==9 || k==12) (by kernel_rfl) (by kernel_rfl) (Below.drew (Below.refl _ _)) (fun _ h=>h) ?_
  repeat ((first
   |(refine Qc (v:=?_) (by rfl) (by rfl) (fun w6 hSw=>?_) ?_;rotate_left;(·(obtain⟨y0,y1⟩:=HF.out _ hSw;have y5:=b1.out _ (Qf H hSw);go_simp;try with_reducible rfl)))
   |(refine Qd (v:=?_) (by rfl) (fun w6=>?_) ?_;rotate_left;(·(go_simp;try with_reducible rfl)))
   |refine Qe (by rfl) ?_);(try simp only[Act.put,pA,pB,pC]))
  refine Ql (fun u w'=>∃wq,ZB wc wq/\u=.pointer (some ⟨wq.heap.size,0,none⟩)/\w'=wq.alloc (.cells #[.int .i64 0,.slice none 0 0] 66)) (by rfl) (by rfl) (fun w6 hSw=>?_) (.inr (fun v6 w6 hT6=>?_)) (fun v6 hv6=>?_)
  ·(go_simp;exact⟨w6,hSw,rfl,rfl⟩)
  ·(obtain⟨wq,hq,-,rfl⟩:=hT6;exact Qa hq)
  skip
  (try simp only[Act.put,pA,pB,pC])
  refine Ql (fun _ w'=>∃b8,v6=.pointer (some ⟨b8,0,none⟩)/\Blk w' b8 66 #[.int .i64 a,.slice T G c0]/\ZB wc w') (by rfl) (by rfl) (fun w6 hSw=>?_) (.inl (by rfl)) (fun v6 hv6=>?_)
  ·(obtain⟨wq,hq,rfl,rfl⟩:=hSw;go_simp;exact⟨Blk.new wq _ _,Qa hq⟩)
  skip
  (try simp only[Act.put,pA,pB,pC])
  repeat ((first
   |(refine Qc (v:=?_) (by rfl) (by rfl) (fun w6 hSw=>?_) ?_;rotate_left;(·(obtain⟨y0,y1⟩:=HF.out _ hSw;have y5:=b1.out _ (Qf H hSw);go_simp;try with_reducible rfl)))
   |(refine Qd (v:=?_) (by rfl) (fun w6=>?_) ?_;rotate_left;(·(go_simp;try with_reducible rfl)))
   |refine Qe (by rfl) ?_);(try simp only[Act.put,pA,pB,pC]))
  refine Qu ?_
  rintro w3 ⟨b8,rfl,k8,a5⟩
  have t:=Qf H a5
  have o:=c4.out.below a5
  obtain⟨⟨d0,d1⟩,f0,f1⟩:=Qp o
  rcases d6.out with ⟨J,rfl⟩|⟨xs,J,rfl,hI,d9,d7⟩
  ·have hr:=(Qp (((o.set_ 0 (.int .i64 0)).set_ 1 (.slice none 0 0)).eq_ (show _ = #[.int .i64 0,.slice none 0 0] by simp))).1
   have I:ZB w ((w3.setCell ⟨w.heap.size,0,none⟩ (.int .i64 0)).setCell ⟨w.heap.size,1,none⟩ (.slice none 0 0)):=(t.setCell (p:=⟨w.heap.size,0,none⟩) (Nat.le_refl _) _).setCell (p:=⟨w.heap.size,1,none⟩) (Nat.le_refl _) _
   have HR:=Zh hr
   have d:=Zh I
   have O:=Zh J
   clear hr I J k8
   go_wp2_with fail
   refine bodyPost_ret (v:=.tuple #[.agg #[.int .i64 0,.slice none 0 0],.int .i64 112]) (by simp[results,Tryz.results23,go_sem,HR.out.1,HR.out.2]) rfl ?_
   unfold QiN
   rw[O.out]
   exact⟨rfl,d.out⟩
  ·have a7:=fun(w':World) (g:ZB w3 w')=>Qif T G c0 xs w' (hI.ints.bel (Qf t g)) (by omega)
   have c2:=Zh a7
   have a4 : ∀w',ZB w3 w'->w'.cell? ⟨b8,0,none⟩=some (.int .i64 a)/\w'.cell? ⟨b8,1,none⟩=some (.slice T G c0):=fun w' g=>⟨(k8.below g).cell 0,(k8.below g).cell 1⟩
   have N:=Zh a4
   have a2:=fun(w':World) (g:ZB w3 w')=>Qp (o.below g)
   have b9:=Zh a2
   have b3:=Zh o
   have O:=Zh J
   have d2:w.heap.size<w3.heap.size:=o.lt
   clear a7 a4 a2 k8 o J d0 d1 f0 f1 hI
   go_upto_region 9 with fail
   refine Qg (fun w'=>ZB w3 w') (fun w'=>ZB w3 w') (fun k=>k==4 || k==6) (fun k=>k==6) (fun k=>k==7) (by kernel_rfl) (by kernel_rfl) (Below.drew (Below.refl _ _)) (fun _ h=>h) ?_
   repeat ((first
    |(refine Qc (v:=?_) (by rfl) (by rfl) (fun w6 hSw=>?_) ?_;rotate_left;(·(obtain⟨y0,y1⟩:=N.out _ hSw;go_simp;try with_reducible rfl)))
    |(refine Qd (v:=?_) (by rfl) (fun w6=>?_) ?_;rotate_left;(·(go_simp;try with_reducible rfl)))
    |refine Qe (by rfl) ?_);(try simp only[Act.put,pA,pB,pC]))
   refine Qn (f:=?_) (args:=?_) (fun v w'=>w'.ownsRow w3.heap.size 3 1 v xs.length (xs.map (Value.int .i64))/\ZB w3 w') (by rfl) (by rfl) (fun w6 hSw=>?_) (fun w6 hSw=>?_) (.inr (fun v6 w6 hT6=>?_)) (fun v6 hv6=>?_)
   rotate_left 2
   ·(skip;go_simp;first|done|(constructor<;>with_reducible rfl)|with_reducible rfl)
   ·(refine(c2.out _ hSw).mono ?_;rintro e w' ⟨v,rfl,ho,g⟩;exact⟨_,rfl,QdO ho hSw.size,Qf hSw g⟩)
   ·(exact hT6.2)
   obtain⟨wz,c3,-⟩:=hv6;obtain⟨X,W,rfl,-⟩:=Qj c3
   (try simp only[Act.put,pA,pB,pC])
   repeat ((first
    |(refine Qc (v:=?_) (by rfl) (by rfl) (fun w6 hSw=>?_) ?_;rotate_left;(·(obtain⟨y0,y1⟩:=N.out _ hSw;go_simp;try with_reducible rfl)))
    |(refine Qd (v:=?_) (by rfl) (fun w6=>?_) ?_;rotate_left;(·(go_simp;try with_reducible rfl)))
    |refine Qe (by rfl) ?_);(try simp only[Act.put,pA,pB,pC]))
   refine Ql (fun _ w'=>∃wq,(wq.ownsRow w3.heap.size 3 1 (.slice X xs.length W) xs.length (xs.map (Value.int .i64))/\ZB w3 wq)/\w'=(wq.setCell ⟨w.heap.size,0,none⟩ (.int .i64 a)).setCell ⟨w.heap.size,1,none⟩ (.slice X xs.length W)) (by rfl) (by rfl) (fun w6 hSw=>?_) (.inl (by rfl)) (fun v6 hv6=>?_)
   ·(obtain⟨⟨d0,d1⟩,f0,f1⟩:=b9.out _ hSw.2;go_simp;exact⟨w6,hSw,rfl⟩)
   skip
   (try simp only[Act.put,pA,pB,pC])
   repeat ((first
    |(refine Qc (v:=?_) (by rfl) (by rfl) (fun w6 hSw=>?_) ?_;rotate_left;(·(obtain⟨y0,y1⟩:=N.out _ hSw;go_simp;try with_reducible rfl)))
    |(refine Qd (v:=?_) (by rfl) (fun w6=>?_) ?_;rotate_left;(·(go_simp;try with_reducible rfl)))
    |refine Qe (by rfl) ?_);(try simp only[Act.put,pA,pB,pC]))
   refine Qu ?_
   rintro w5 ⟨wq,⟨ho,a9⟩,rfl⟩
   have hr:=(Qp ((((b3.out.below a9).set_ 0 (.int .i64 a)).set_ 1 (.slice X xs.length W)).eq_ (show _ = #[.int .i64 a,.slice X xs.length W] by simp))).1
   have V:Fr (· = w.heap.size) wq ((wq.setCell ⟨w.heap.size,0,none⟩ (.int .i64 a)).setCell ⟨w.heap.size,1,none⟩ (.slice X xs.length W)):=((Fr.refl _ _).set1 0 _).set1 1 _
   have b7:=bfr (Qf t a9) V (fun i hi=>by omega)
   have b5 := QeE (QdO ho (Nat.le_of_lt d2)) V (fun q hq hs=>by
    have:=QaV ho hq
    omega)
   have HR:=Zh hr
   have d:=Zh (And.intro b5 b7)
   clear hr V b7 b5 ho
   go_wp2_with fail
   refine bodyPost_ret (v:=.tuple #[.agg #[.int .i64 a,.slice X xs.length W],.int .i64 0]) (by simp[results,Tryz.results23,go_sem,HR.out.1,HR.out.2]) rfl ?_
   unfold QiN
   rw[O.out]
   exact⟨_,rfl,d.out.1,d.out.2⟩
def QrE (l:List Int)(x:Int)(w:World)(k:Nat)(a:Value)(wr:World):Prop:=∃i:Nat,a=.int .i64 (i:Int)/\i<=l.length/\l.length-i<=k/\Hid (∀j,j<i->l.getD j 0≠x)/\wr=w
theorem QkK (D:Nat->Prop)(A:Option Addr)(n c:Nat)(l:List Int)(x:Int)(w:World)(s:Ints w D A n l)(hn:n<=1073741824) :
  Calls Tryz.prog 144 #[.slice A n c,.int .i64 x] w fun e w'=>∃r,e=.returned (.int .i64 r)/\(0<=r↔x ∈ l)/\w'=w:=by
 have m:=s.len
 have a:=Zh m
 clear m
 go_enter Tryz.func144,Tryz.ntmps144
 go_wp2_with fail
 go_loopg [8] n (fun k t wr=>QrE l x w k t wr)
 case atStart=>exact⟨0,rfl,Nat.zero_le _,by rw[a.out];omega,Zh (fun j p=>by omega),rfl⟩
 case round=>
  obtain⟨i,rfl,u,v,o,rfl⟩:=hrel
  rw[a.out] at u v
  by_cases hgo:i<n
  ·have B:((i:Int)<(n:Int))=True:=by simp;omega
   obtain⟨C,rfl,_,cx⟩:=Ints.at_ s hgo
   obtain⟨y,f⟩:=ZN (l.getD i 0)
   rw[f] at cx
   have wi:IntKind.i64.wrap ((i:Int)+1)=((i+1:Nat):Int):=by rw[IntWalk.i64_in _ (by omega)];omega
   by_cases hxy:x=y
   ·have b:x ∈ l:=by
     rw[hxy,<-f,List.getD_eq_getElem?_getD,List.getElem?_eq_getElem (by rw[a.out];exact hgo)]
     exact List.getElem_mem _
    have q:=Zh b
    clear b f
    subst hxy
    go_wp2_with fail
    go_ret
    exact⟨(i:Int),rfl,⟨fun _=>q.out,fun _=>by omega⟩,rfl⟩
   ·have E:(x==y)=false:=by rw[beq_eq_false_iff_ne];exact hxy
    have z:=Zh f
    clear f
    go_wp2_with fail
    go_roundg (n-(i+1))
    case measure=>omega
    case rel=>
     refine⟨i+1,by simp,by rw[a.out];omega,by rw[a.out];omega,Zh (fun j p=>?_),rfl⟩
     rcases Nat.lt_or_ge j i with h1|h1
     ·exact o.out j h1
     ·rw[show j=i by omega,z.out]
      exact fun e=>hxy e.symm
  ·have B:((i:Int)<(n:Int))=False:=by simp;omega
   have d : ¬x ∈ l:=fun b=>by
    obtain⟨j,p,e⟩:=List.mem_iff_getElem.1 b
    have h2:=o.out j (by have:=a.out;omega)
    rw[List.getD_eq_getElem?_getD,List.getElem?_eq_getElem p] at h2
    exact h2 e
   have g:=Zh d
   clear d
   go_wp2_with fail
   go_ret
   exact⟨-1,rfl,⟨fun h=>by omega,fun h=>absurd h g.out⟩,rfl⟩
theorem Qii (D:Nat->Prop)(A:Option Addr)(n c:Nat)(l:List Int)(x:Int)(w:World)(g:Ints w D A n l)(hn:n<=1073741824) :
  Calls Tryz.prog 120 #[.slice A n c,.int .i64 x] w fun e w'=>e=.returned (.bool (decide (x ∈ l)))/\w'=w:=by
 have j:=Zh (QkK D A n c l x w g hn)
 obtain⟨b,d⟩:=ZN (decide (x ∈ l))
 rw[d]
 have i:=Zh d
 clear g d
 go_enter Tryz.func120,Tryz.ntmps120
 go_wp2_with fail
 refine(j.out).mono ?_
 rintro e w1 ⟨r,rfl,a,rfl⟩
 by_cases h0:0<=r
 ·have k:(0<=r)=True:=by simp;exact h0
  have f:b=true:=by rw[<-i.out];exact decide_eq_true (a.1 h0)
  subst f
  clear a
  go_wp2_with fail
  go_ret
  exact⟨rfl,rfl⟩
 ·have k:(0<=r)=False:=by simp;omega
  have f:b=false:=by rw[<-i.out];exact decide_eq_false (fun h=>h0 (a.2 h))
  subst f
  clear a
  go_wp2_with fail
  go_ret
  exact⟨rfl,rfl⟩
theorem BankD.putV {D:Nat->Prop}{w w':World}{B j mk:Nat}{R:Int->Option (Int × List Int)}{m k:Int}{l:List (Int × Value)}{v:Value}{p:Int × List Int}(h:BankD D w B j mk R m)(f:(l.map Prod.fst).Nodup)(d : ∀q,RegAt D w (Qgg l q) (R q))
  (hm:MapIs w' mk (Qf3 k v l)) (g:Fr (· = mk) w w') (a : ∀T c,¬Blk w mk T c) (n:RegAt D w (some v) (some p)):BankD D w' B j mk (fun q=>if q=k then some p else R q) m:=by
 have i : ∀b,b<w.heap.size->b=mk->¬∃c,Blk w b 3 c:=fun b _ hs ⟨c,hc⟩=>a _ _ (hs▸hc)
 refine⟨h.blk.fr g (fun e=>a _ _ (e▸h.blk)),h.low,_,hm,QhQ _ _ _ f,fun q=>?_⟩
 rw[QjS]
 by_cases hq:q=k
 ·rw[if_pos hq,if_pos hq]
  exact n.fr g i
 ·rw[if_neg hq,if_neg hq]
  exact(d q).fr g i
def shI (R:Int->Option (Int × List Int))(i:Int):Int->Option (Int × List Int):=fun q=>if i<q/\q<=57 then R (q-1) else R q
theorem QpB (R:Int->Option (Int × List Int))(i:Int)(h:49<=i-1/\i<=57):(fun q=>if q=i then R (i-1) else shI R i q)=shI R (i-1):=by
 funext q
 unfold shI
 by_cases hq:q=i
 ·rw[if_pos hq,if_pos (by omega),hq]
 ·rw[if_neg hq]
  by_cases h1:i<q/\q<=57
  ·rw[if_pos h1,if_pos (by omega)]
  ·rw[if_neg h1,if_neg (by omega)]
def QrL {D:Nat->Prop}(B b mk:Nat)(R:Int->Option (Int × List Int))(c:Int)(w:World)(k:Nat)(a:Value)(wr:World):Prop:=
 ∃i:Int,a=.int .i64 i/\49<=i/\i<=57/\(i-49).toNat<=k/\Hid (BankD D wr B b mk (shI R i) c)/\Hid (Fr (· = mk) w wr)
def Qea (R:Int->Option (Int × List Int))(k kd:Int)(ys:List Int):(Int->Option (Int × List Int)) × Int:=
 if k≠34 then (Qc7 R k kd ys,k) else if kd=0/\¬10 ∈ ys/\¬13 ∈ ys then (Qc7 R 45 kd ys,45) else (Qc7 (shI R 49) 49 kd ys,49)
theorem QmA (R:Int->Option (Int × List Int)):shI R 57=R:=by
 funext q
 unfold shI
 rw[if_neg (by omega)]
theorem QiV {D:Nat->Prop}(B gq mk:Nat)(R:Int->Option (Int × List Int))(tu nm k kd:Int)(A:Option Addr)(n c:Nat)(xs:List Int)(w:World)(h:BankD D w B gq mk R tu)(hx:IntsI w A n xs)(hn:n<=139999)(X:QaC nm=((k,false),true))(hk:k≠46/\k≠58/\k≠47/\k≠95)(f3:kd=0\/kd=1)(h0:0<n)(f4 : ∀b,w.heap.size<=b->D b:=by intros;first|assumption|exact trivial) :
  Calls Tryz.prog 69 #[.pointer (some ⟨gq,0,none⟩),.int .i64 nm,.agg #[.int .i64 kd,.slice A n c]] w fun e w'=>e=.returned (.int .i64 0)/\BankD D w' B gq mk (Qea R k kd (wrF kd xs)).1 (Qea R k kd (wrF kd xs)).2/\Fr (fun b=>b=mk\/b=gq) w w':=by
 have b5:ZB w (w.alloc (.cells #[.int .i64 kd,.slice A n c] 66)):=Qa (Below.refl _ _)
 have k1:Blk (w.alloc (.cells #[.int .i64 kd,.slice A n c] 66)) w.heap.size 66 #[.int .i64 kd,.slice A n c]:=Blk.new w _ _
 have F:=fun w'=>Qf8 nm kd A n c w' (by rw[X]) (by rw[X];exact⟨hk.1,hk.2.1,hk.2.2.1⟩) f3
 rw[X] at F
 unfold Qjq at F
 dsimp only at F
 have e9:=Zh F
 have b8:=Zh (fun(w':World) (hb:ZB w w')=>Qfn kd A n c xs w' (hx.bel hb) (by omega))
 have e8:=hx.any.len
 obtain⟨ys,a8⟩:=ZN (wrF kd xs)
 have d5:0<ys.length/\ys.length<=140000:=by
  rw[<-a8]
  unfold wrF
  split
  ·rw[List.length_append];simp;omega
  ·omega
 rw[a8] at b8 ⊢
 have HH:=Zh h
 have f9:(k==95)=false:=by rw[beq_eq_false_iff_ne];exact hk.2.2.2
 obtain⟨M,hM⟩:=ZN (ys.length)
 have HM:=Zh hM
 rw[hM] at d5
 have c6:=fun(key:Int) (w':World) (R':Int->Option (Int × List Int)) (s:BankD D w' B gq mk R' tu) (A':Option Addr) (c':Nat) (hy:IntsD D w' A' M ys) (hc:M<=c')=>QhY B gq mk R' tu key kd A' M c' ys w' s hy hc d5.2
 have b1:=Zh c6
 clear h hx F a8 e8 hM X hk c6
 go_enter Tryz.func69,Tryz.ntmps69
 go_upto_region 1 with fail
 obtain⟨w0,c5⟩:∃x,w.alloc (.cells #[.int .i64 kd,.slice A n c] 66)=x:=⟨_,rfl⟩
 rw[c5] at b5 k1 ⊢
 clear c5
 obtain⟨⟨c0,c1⟩,-⟩:=Qp k1
 go_wp2_with fail
 refine(e9.out _).mono ?_
 rintro e w1 ⟨rfl,e2⟩
 go_upto_region 2 with fail
 have k3:=Blk.new w1 120 #[.int .i64 k,.bool false]
 have b0:=(k1.below e2).alloc (.cells #[.int .i64 k,.bool false] 120)
 have W:ZB w (w1.alloc (.cells #[.int .i64 k,.bool false] 120)):=Qa (Qf b5 e2)
 obtain⟨b7,hb7⟩:∃x,w1.heap.size=x:=⟨_,rfl⟩
 obtain⟨w2,d3⟩:∃x,w1.alloc (.cells #[.int .i64 k,.bool false] 120)=x:=⟨_,rfl⟩
 rw[hb7] at k3 ⊢
 rw[d3] at k3 b0 W ⊢
 clear hb7 d3 k1 c0 c1
 obtain⟨⟨c0,c1⟩,-⟩:=Qp b0
 have f0:=Zh (b8.out w2 W)
 go_wp2_with fail
 refine(f0.out).mono ?_
 rintro e w3 ⟨v,rfl,ho,d8⟩
 rw[HM.out] at ho
 obtain⟨A3,Y,rfl,a6⟩:=Qj ho
 have d2:=IntsD.of_own ho (fun b hb=>f4 b (Nat.le_trans W.size hb))
 go_upto_block 0 with fail
 have N:ZB w (w3.alloc (.cells #[.int .i64 kd,.slice A3 M Y] 66)):=Qa (Qf W d8)
 have k9:=Blk.new w3 66 #[.int .i64 kd,.slice A3 M Y]
 have Z:=(k3.below d8).alloc (.cells #[.int .i64 kd,.slice A3 M Y] 66)
 have z:=d2.bel (Qa (o:=.cells #[.int .i64 kd,.slice A3 M Y] 66) (Below.refl _ _))
 obtain⟨b9,c4⟩:∃x,w3.heap.size=x:=⟨_,rfl⟩
 obtain⟨w4,b4⟩:∃x,w3.alloc (.cells #[.int .i64 kd,.slice A3 M Y] 66)=x:=⟨_,rfl⟩
 rw[c4] at k9 ⊢
 rw[b4] at N k9 Z z ⊢
 clear c4 b4 d2 ho c0 c1 k3 b0
 obtain⟨⟨c0,c1⟩,-⟩:=Qp Z
 obtain⟨⟨d0,d1⟩,-⟩:=Qp k9
 have qM:((M:Int)==0)=false:=by rw[beq_eq_false_iff_ne];omega
 have Q:=HH.out.below N
 by_cases h34:k=34
 ·subst h34
  have HC:=Zh (fun(x:Int)=>Qii _ A3 M Y ys x w4 z (by omega))
  have e0:=Zh z
  have e5:=Zh Q
  have e3:=Zh (Q8 Q).2
  have c9:=Zh k9
  clear z Q k9 Z
  have pM:(140000<(M:Int))=False:=by simp;omega
  by_cases hsm:kd=0/\¬10 ∈ ys/\¬13 ∈ ys
  ·obtain⟨rfl,E,O⟩:=hsm
   have a:=HC.out 10
   have f:=HC.out 13
   rw[decide_eq_false E] at a
   rw[decide_eq_false O] at f
   have I:=Zh a
   have b2:=Zh f
   have u:Qea R 34 0 ys=(Qc7 R 45 0 ys,45):=by unfold Qea;rw[if_neg (by omega),if_pos ⟨rfl,E,O⟩]
   have J:=Zh u
   have K:=Zh (b1.out 45 w4 R e5.out A3 Y e0.out a6)
   clear a f E O u
   go_wp2_with fail
   refine(I.out).mono ?_
   rintro e T ⟨rfl,rfl⟩
   go_wp2_with fail
   refine(b2.out).mono ?_
   rintro e w6 ⟨rfl,rfl⟩
   go_wp2_with fail
   refine(K.out).mono ?_
   rintro e w7 ⟨rfl,s,r⟩
   have d:=Zh (And.intro s ((Fr.of_below N).call r (fun i hi h=>h)))
   clear s r
   go_wp2_with fail
   go_ret
   rw[J.out]
   exact⟨rfl,d.out.1,d.out.2⟩
  ·have u:Qea R 34 kd ys=(Qc7 (shI R 49) 49 kd ys,49):=by unfold Qea;rw[if_neg (by omega),if_neg hsm]
   have J:=Zh u
   clear u
   go_cut [] (fun wx=>wx=w4)
   case first=>
    by_cases hk0:kd=0
    ·subst hk0
     by_cases h10:10 ∈ ys
     ·have a:=HC.out 10
      rw[decide_eq_true h10] at a
      have I:=Zh a
      clear a h10 hsm
      go_wp2_with fail
      refine(I.out).mono ?_
      rintro e T ⟨rfl,rfl⟩
      go_wp2_with fail
      go_meet
      rfl
     ·have e4:13 ∈ ys:=Decidable.byContradiction (fun h=>hsm ⟨rfl,h10,h⟩)
      have a:=HC.out 10
      have f:=HC.out 13
      rw[decide_eq_false h10] at a
      rw[decide_eq_true e4] at f
      have I:=Zh a
      have b2:=Zh f
      clear a f h10 e4 hsm
      go_wp2_with fail
      refine(I.out).mono ?_
      rintro e T ⟨rfl,rfl⟩
      go_wp2_with fail
      refine(b2.out).mono ?_
      rintro e w6 ⟨rfl,rfl⟩
      go_wp2_with fail
      go_meet
      rfl
    ·have q0:(kd==0)=false:=by rw[beq_eq_false_iff_ne];exact hk0
     clear hk0 hsm
     go_wp2_with fail
     go_meet
     rfl
   case rest=>
    obtain rfl:=hcut
    clear hsm
    go_wp2_with fail
    go_loopg [10] 8 (fun k e7 wr=>QrL B gq mk R tu wc k e7 wr)
    case atStart=>exact⟨57,rfl,by decide,by decide,by decide,Zh (by rw[QmA];exact e5.out),Zh (Fr.refl _ _)⟩
    case round=>
     obtain⟨i,rfl,f7,f8,g2,s,hF⟩:=hrel
     have f2:=c9.out.fr hF.out (fun e=>e3.out _ _ (e▸c9.out))
     obtain⟨⟨g0,g1⟩,-⟩:=Qp f2
     have a0:=s.out.blk.cell 0
     simp at a0
     by_cases hgo:49<i
     ·have q1:(49<i)=True:=by simp;exact hgo
      have wi:IntKind.i64.wrap (i-1)=i-1:=IntWalk.i64_in _ (by omega)
      obtain⟨l,b3,d6,a5⟩:=s.out.map
      have y:=a5 (i-1)
      obtain⟨m,A0,n0,j,a1⟩:=y.val
      obtain⟨ok,C⟩:∃b,(Qgg l (i-1)).isSome=b:=⟨_,rfl⟩
      have f5:(Instr.lookup 123 (.map (some mk)) (.int .i64 (i-1)) true).run Tryz.prog wr=.ok (.tuple #[.agg #[.int .i64 m,.slice A0 n0 j],.bool ok]) wr:=by
       have:=b3.lookup Tryz.underlying123 Tryz.underlying3 (i-1) (QiI wr)
       rw[a1,C] at this
       exact this
      have a4:shI R i (i-1)=R (i-1):=by unfold shI;rw[if_neg (by omega)]
      have d4:=QpB R i ⟨by omega,by omega⟩
      rw[a4] at y
      have G:(R (i-1)=none/\ok=false)\/∃p,R (i-1)=some p/\ok=true/\RegAt D wr (some (.agg #[.int .i64 m,.slice A0 n0 j])) (some p):=by
       cases hR:R (i-1) with
       |none=>
        rw[hR] at y
        have:Qgg l (i-1)=none:=y
        rw[this] at C
        exact .inl ⟨rfl,C.symm⟩
       |some p=>
        rw[hR] at y
        obtain⟨A,n,c,h1,h2⟩:=y
        rw[h1] at C a1
        have e:(Value.agg #[.int .i64 p.1,.slice A n c])=.agg #[.int .i64 m,.slice A0 n0 j]:=a1
        exact .inr ⟨p,rfl,C.symm,A,n,c,by rw[<-e],h2⟩
      have c2:=Zh b3
      have d9:=Zh d6
      have c7:=Zh a5
      have f6:=Zh G
      have a2:=Zh d4
      clear b3 d6 a5 y a1 C a4 d4 G
      go_upto_region 17 with fail
      have g:ZB wr (wr.alloc (.cells #[.int .i64 m,.slice A0 n0 j] 66)):=Qa (Below.refl _ _)
      have L:=Blk.new wr 66 #[.int .i64 m,.slice A0 n0 j]
      obtain⟨b6,a3⟩:∃x,wr.heap.size=x:=⟨_,rfl⟩
      obtain⟨T,e1⟩:∃x,wr.alloc (.cells #[.int .i64 m,.slice A0 n0 j] 66)=x:=⟨_,rfl⟩
      rw[e1] at g L ⊢
      rw[a3] at L ⊢
      clear e1 a3 f5 g0 g1 a0
      rcases f6.out with ⟨hR,rfl⟩|⟨p,hR,rfl,hv⟩
      ·have a0:=(s.out.below g).blk.cell 0
       simp at a0
       obtain⟨w6,hr,hm,r⟩:=MapIs.delete (P:=Tryz.prog) (c2.out.below g) Tryz.underlying123 Tryz.underlying3 i 3 0
       have U:=(s.out.below g).del (kd:=0) d9.out (fun q=>(c7.out q).fr (S:=fun _=>False) (Fr.of_below g) (fun _ _ h=>h.elim)) hm r (Q8 (s.out.below g)).2
       have t:BankD D w6 B gq mk (shI R (i-1)) tu:=by
        rw[<-a2.out,hR]
        have e:Qc7 (shI R i) i 0 []=(fun q=>if q=i then none else shI R i q):=by
         funext q
         unfold Qc7
         simp
        rw[<-e]
        exact U
       have H:Fr (· = mk) wc w6:=hF.out.call (Fr.call (Fr.of_below g) r (fun i _ h=>h)) (fun i _ h=>h)
       have a7:=Zh t
       have a9:=Zh H
       clear hm r U t H hR
       go_wp2_with fail
       go_roundg (i-1-49).toNat
       case measure=>omega
       case rel=>exact⟨i-1,rfl,by omega,by omega,Nat.le_refl _,a7,a9⟩
      ·have d7 : ∀w',ZB T w'->w'.cell? ⟨gq,0,none⟩=some (.map (some mk))/\w'.cell? ⟨b6,0,none⟩=some (.int .i64 m)/\w'.cell? ⟨b6,1,none⟩=some (.slice A0 n0 j):=fun w' hb=>
        ⟨(s.out.blk.below (Qf g hb)).cell 0,(L.below hb).cell 0,(L.below hb).cell 1⟩
       have f1:=Zh d7
       have HV:=Zh hv
       have e6:=Zh hR
       clear d7 hv hR L
       go_upto_region 18 with fail
       refine Qg (fun w'=>ZB T w') (fun w'=>ZB T w') (fun k=>k==6) (fun k=>k==6) (fun _=>false) (by kernel_rfl) (by kernel_rfl) (Below.drew (Below.refl _ _)) (fun _ h=>h) ?_
       repeat ((first
        |(refine Qc (v:=?_) (by rfl) (by rfl) (fun w6 hSw=>?_) ?_;rotate_left;(·(obtain⟨y0,y1,y2⟩:=f1.out _ hSw;go_simp;try with_reducible rfl)))
        |(refine Qd (v:=?_) (by rfl) (fun w6=>?_) ?_;rotate_left;(·(go_simp;try with_reducible rfl)))
        |refine Qe (by rfl) ?_);(try simp only[Act.put,pA,pB,pC]))
       refine Ql (fun _ w'=>∃wq,ZB T wq/\MapIs w' mk (Qf3 i (.agg #[.int .i64 m,.slice A0 n0 j]) l)/\Fr (· = mk) wq w') (by rfl) (by rfl) (fun w6 hSw=>?_) (.inl (by rfl)) (fun v6 hv6=>?_)
       ·(obtain⟨w7,hr,hm,r⟩:=MapIs.update (P:=Tryz.prog) (c2.out.below (Qf g hSw)) Tryz.underlying123 Tryz.underlying3 i (.agg #[.int .i64 m,.slice A0 n0 j]);go_simp;exact⟨w6,hSw,hm,r⟩)
       skip
       (try simp only[Act.put,pA,pB,pC])
       refine Qu ?_
       rintro w6 ⟨wq,hq,hm,r⟩
       have V:=Qf g hq
       have U:=(s.out.below V).putV d9.out (fun q=>(c7.out q).fr (S:=fun _=>False) (Fr.of_below V) (fun _ _ h=>h.elim)) hm r (Q8 (s.out.below V)).2 (HV.out.fr (S:=fun _=>False) (Fr.of_below V) (fun _ _ h=>h.elim))
       have t:BankD D w6 B gq mk (shI R (i-1)) tu:=by
        rw[<-a2.out,e6.out]
        exact U
       have H:Fr (· = mk) wc w6:=hF.out.call (Fr.call (Fr.of_below V) r (fun i _ h=>h)) (fun i _ h=>h)
       have a7:=Zh t
       have a9:=Zh H
       clear hm r U t H
       go_wp2_with fail
       go_roundg (i-1-49).toNat
       case measure=>omega
       case rel=>exact⟨i-1,rfl,by omega,by omega,Nat.le_refl _,a7,a9⟩
     ·have q1:(49<i)=False:=by simp;omega
      obtain rfl:i=49:=by omega
      have c8:=e0.out.fr hF.out (fun b _ hs ⟨cs,hc⟩=>e3.out _ _ (hs▸hc))
      have K:=Zh (b1.out 49 wr _ s.out A3 Y c8 a6)
      clear c8
      go_wp2_with fail
      refine(K.out).mono ?_
      rintro e w7 ⟨rfl,t,r⟩
      have d:=Zh (And.intro t (Fr.call ((Fr.of_below N).call hF.out (fun i _ h=>(.inl h:i=mk\/i=gq))) r (fun i hi h=>h)))
      clear t r
      go_wp2_with fail
      go_ret
      rw[J.out]
      exact⟨rfl,d.out.1,d.out.2⟩
 ·have g3:(k != 34)=true:=by rw[bne_iff_ne];exact h34
  have u:Qea R k kd ys=(Qc7 R k kd ys,k):=by unfold Qea;rw[if_pos h34]
  have J:=Zh u
  have K:=Zh (b1.out k w4 R Q A3 Y z a6)
  clear z Z k9 u Q
  go_wp2_with fail
  refine(K.out).mono ?_
  rintro e w6 ⟨rfl,s,r⟩
  have d:=Zh (And.intro s ((Fr.of_below N).call r (fun i hi h=>h)))
  clear s r
  go_wp2_with fail
  go_ret
  rw[J.out]
  exact⟨rfl,d.out.1,d.out.2⟩
def Qqt (k:Int):List Int:=if k=2 then [13,10] else if k=3 then [13] else [10]
theorem QjC (w:World)(T:TypeId)(l:List Value)(h:l.length<=1000):(w.alloc (.cells l.toArray T)).ownsRow w.heap.size T 1 (.slice (some ⟨w.heap.size,0,none⟩) l.length l.length) l.length l:=
 ⟨by simp,.inr ⟨w.heap.size,l.length,l.toArray,rfl,Nat.le_refl _,heap_alloc_new w _,Nat.le_refl _,by unfold maxLen;omega,by simp,by simp⟩⟩
theorem QiZ (k:Int)(w:World)(a:k=1\/k=2\/k=3):Calls Tryz.prog 80 #[.int .i64 k] w fun e w'=>NewInts (Qqt k) w e w':=by
 rcases a with rfl|rfl|rfl
 ·go_enter Tryz.func80,Tryz.ntmps80
  go_wp2_with fail
  go_ret
  exact⟨_,rfl,QjC w 3 [.int .i64 10] (by decide),Qa (Below.refl _ _)⟩
 ·go_enter Tryz.func80,Tryz.ntmps80
  go_wp2_with fail
  go_ret
  exact⟨_,rfl,QjC w 3 [.int .i64 13,.int .i64 10] (by decide),Qa (Below.refl _ _)⟩
 ·go_enter Tryz.func80,Tryz.ntmps80
  go_wp2_with fail
  go_ret
  exact⟨_,rfl,QjC w 3 [.int .i64 13] (by decide),Qa (Below.refl _ _)⟩
def IntsV (w:World)(v:Value)(l:List Int):Prop:=∃A c,v=.slice A l.length c/\l.length<=c/\IntsI w A l.length l
theorem IntsV.at_ {w:World}{A:Option Addr}{n c:Nat}{l:List Int}(h:IntsV w (.slice A n c) l):n=l.length/\l.length<=c/\IntsI w A l.length l:=by
 obtain⟨a,c',e,h1,h2⟩:=h
 injection e with e1 e2 e3
 subst e1
 subst e3
 exact⟨e2,h1,h2⟩
def Qd6 (kd:Int)(xs:List Int)(w:World)(e:Ending)(w':World):Prop:=∃A n c,e=.returned (.agg #[.int .i64 kd,.slice A n c])/\IntsI w' A n xs/\n<=c/\ZB w w'
section
variable {B gd gb g n:Nat} {enc lim:Int} {st:BkS} {dc:Array Value} {w:World}
theorem QfV (h:DeskIs w B gd gb g enc lim n st dc)(a b:Int)(ha:0<=a/\a<=b/\b<=(st.ats.length:Int)) :
  Calls Tryz.prog 30 #[.pointer (some ⟨gd,0,none⟩),.agg #[.int .i64 a,.int .i64 b,.int .i64 0]] w fun e w'=>Qd6 0 (seg a b (st.ats.map Prod.fst)) w e w':=by
 have r:=h.len
 have j:=fun(w':World) (q:ZB w w')=>Qap Any g enc (Qb enc st.ats) a b w' (h.below q).at_ (by omega) (by omega)
 rw[Qaq] at j
 obtain⟨C,P⟩:=ZN (seg a b (st.ats.map Prod.fst))
 rw[P] at j ⊢
 have F:=Zh j
 have U:=Zh (fun(w':World) (q:ZB w w')=>Qae (h.below q))
 have d:ZB w ((w.alloc (.cells #[.int .i64 a,.int .i64 b,.int .i64 0] 29)).alloc (.cells #[.int .i64 0,.slice none 0 0] 66)):=Qa (Qa (Below.refl _ _))
 have E:Blk ((w.alloc (.cells #[.int .i64 a,.int .i64 b,.int .i64 0] 29)).alloc (.cells #[.int .i64 0,.slice none 0 0] 66)) w.heap.size 29 #[.int .i64 a,.int .i64 b,.int .i64 0]:=(Blk.new w _ _).alloc _
 have I:Blk ((w.alloc (.cells #[.int .i64 a,.int .i64 b,.int .i64 0] 29)).alloc (.cells #[.int .i64 0,.slice none 0 0] 66)) (w.heap.size+1) 66 #[.int .i64 0,.slice none 0 0]:=Blk.new' (by simp)
 clear h j P r
 go_enter Tryz.func30,Tryz.ntmps30
 go_upto_region 1 with fail
 obtain⟨w1,t⟩:∃x,(w.alloc (.cells #[.int .i64 a,.int .i64 b,.int .i64 0] 29)).alloc (.cells #[.int .i64 0,.slice none 0 0] 66)=x:=⟨_,rfl⟩
 rw[t] at d E I ⊢
 clear t
 obtain⟨c0,c1,c2⟩:=QaR E
 have z:=Zh E
 have D:=Zh I
 clear E I
 go_upto_region 2 with fail
 have S : ∀w',ZB w1 w'->w'.cell? ⟨w.heap.size,0,none⟩=some (.int .i64 a)/\w'.cell? ⟨w.heap.size,1,none⟩=some (.int .i64 b):=fun w' q=>⟨(z.out.below q).cell 0,(z.out.below q).cell 1⟩
 have HS:=Zh S
 clear S
 refine Qg (fun w'=>ZB w1 w') (fun w'=>ZB w1 w') (fun k=>k==1 || k==6 || k==8) (fun k=>k==8) (fun _=>false) (by kernel_rfl) (by kernel_rfl) (Below.drew (Below.refl _ _)) (fun _ h=>h) ?_
 repeat ((first
  |(refine Qc (v:=?_) (by rfl) (by rfl) (fun w6 hSw=>?_) ?_;rotate_left;(·(obtain⟨K,H⟩:=HS.out _ hSw;go_simp;try with_reducible rfl)))
  |(refine Qd (v:=?_) (by rfl) (fun w6=>?_) ?_;rotate_left;(·(go_simp;try with_reducible rfl)))
  |refine Qe (by rfl) ?_);(try simp only[Act.put,pA,pB,pC]))
 refine Qn (f:=?_) (args:=?_) (fun v w'=>v=.pointer (some ⟨g,0,none⟩)/\ZB w1 w') (by rfl) (by rfl) (fun w6 hSw=>?_) (fun w6 hSw=>?_) (.inr (fun v6 w6 hT6=>?_)) (fun v6 hv6=>?_)
 rotate_left 2
 ·(skip;go_simp;first|done|(constructor<;>with_reducible rfl)|with_reducible rfl)
 ·(refine(U.out _ (Qf d hSw)).mono ?_;rintro e w' ⟨rfl,rfl⟩;exact⟨_,rfl,rfl,hSw⟩)
 ·(exact hT6.2)
 obtain⟨wz,rfl,-⟩:=hv6
 (try simp only[Act.put,pA,pB,pC])
 repeat ((first
  |(refine Qc (v:=?_) (by rfl) (by rfl) (fun w6 hSw=>?_) ?_;rotate_left;(·(obtain⟨K,H⟩:=HS.out _ hSw;go_simp;try with_reducible rfl)))
  |(refine Qd (v:=?_) (by rfl) (fun w6=>?_) ?_;rotate_left;(·(go_simp;try with_reducible rfl)))
  |refine Qe (by rfl) ?_);(try simp only[Act.put,pA,pB,pC]))
 refine Qn (f:=?_) (args:=?_) (fun v w'=>IntsV w' v C/\ZB w1 w') (by rfl) (by rfl) (fun w6 hSw=>?_) (fun w6 hSw=>?_) (.inr (fun v6 w6 hT6=>?_)) (fun v6 hv6=>?_)
 rotate_left 2
 ·(skip;go_simp;first|done|(constructor<;>with_reducible rfl)|with_reducible rfl)
 ·(refine(F.out _ (Qf d hSw.2)).mono ?_;rintro e w' ⟨v,rfl,m,N⟩;obtain⟨c,W,rfl,M⟩:=Qj m;exact⟨_,rfl,⟨c,W,rfl,M,IntsI.of_own m⟩,Qf hSw.2 N⟩)
 ·(exact hT6.2)
 obtain⟨wz,⟨c,o,rfl,T,-⟩,-⟩:=hv6
 (try simp only[Act.put,pA,pB,pC])
 repeat ((first
  |(refine Qc (v:=?_) (by rfl) (by rfl) (fun w6 hSw=>?_) ?_;rotate_left;(·(obtain⟨K,H⟩:=HS.out _ hSw;go_simp;try with_reducible rfl)))
  |(refine Qd (v:=?_) (by rfl) (fun w6=>?_) ?_;rotate_left;(·(go_simp;try with_reducible rfl)))
  |refine Qe (by rfl) ?_);(try simp only[Act.put,pA,pB,pC]))
 refine Ql (fun _ L=>∃w',(IntsV w' (.slice c C.length o) C/\ZB w1 w')/\L=(w'.setCell ⟨w.heap.size+1,0,none⟩ (.int .i64 0)).setCell ⟨w.heap.size+1,1,none⟩ (.slice c C.length o)) (by rfl) (by rfl) (fun w6 hSw=>?_) (.inl (by rfl)) (fun v6 hv6=>?_)
 ·(have i:=D.out.below hSw.2;have X:=i.cell 0;have Y:=i.cell 1;have e2:=i.frozen 0;have e3:=i.frozen 1;simp at X Y;go_simp;exact⟨w6,hSw,rfl⟩)
 skip
 (try simp only[Act.put,pA,pB,pC])
 repeat ((first
  |(refine Qc (v:=?_) (by rfl) (by rfl) (fun w6 hSw=>?_) ?_;rotate_left;(·(obtain⟨K,H⟩:=HS.out _ hSw;go_simp;try with_reducible rfl)))
  |(refine Qd (v:=?_) (by rfl) (fun w6=>?_) ?_;rotate_left;(·(go_simp;try with_reducible rfl)))
  |refine Qe (by rfl) ?_);(try simp only[Act.put,pA,pB,pC]))
 refine Qu ?_
 rintro w4 ⟨w3,⟨Z,y⟩,rfl⟩
 obtain⟨-,J,Q⟩:=Z.at_
 have G:=D.out.below y
 have O:=(Qp (((G.set_ 0 (.int .i64 0)).set_ 1 (.slice c C.length o)).eq_ (show _ = #[.int .i64 0,.slice c C.length o] by simp))).1
 have s:Fr (· = w.heap.size+1) w3 ((w3.setCell ⟨w.heap.size+1,0,none⟩ (.int .i64 0)).setCell ⟨w.heap.size+1,1,none⟩ (.slice c C.length o)):=((Fr.refl _ _).set1 0 _).set1 1 _
 have u:=Q.fr s (fun b q hs ⟨cs,hc⟩=>Blk.ne_ hc G (by decide) hs)
 have l:ZB w ((w3.setCell ⟨w.heap.size+1,0,none⟩ (.int .i64 0)).setCell ⟨w.heap.size+1,1,none⟩ (.slice c C.length o)):=((Qf d y).setCell (p:=⟨w.heap.size+1,0,none⟩) (Nat.le_succ _) _).setCell (p:=⟨w.heap.size+1,1,none⟩) (Nat.le_succ _) _
 have R:=Zh O
 have V:=Zh u
 have A:=Zh l
 clear O u l s G Q
 go_wp2_with fail
 exact bodyPost_ret (v:=.agg #[.int .i64 0,.slice c C.length o]) (by simp[results,Tryz.results30,go_sem,R.out.1,R.out.2]) rfl ⟨c,C.length,o,rfl,V.out,J,A.out⟩
end
def QcF (l:List Int):Bool:=l.any fun x=>x==10 || x==13
def QsZ (l:List Int)(w:World)(k:Nat)(a:Value)(wr:World):Prop:=∃i:Nat,a=.int .i64 (i:Int)/\i<=l.length/\l.length-i<=k/\Hid (∀j,j<i->l.getD j 0≠10/\l.getD j 0≠13)/\wr=w
theorem QfA {l:List Int}{i:Nat}(a:i<l.length)(h:l.getD i 0=10\/l.getD i 0=13):QcF l=true:=by
 unfold QcF
 rw[List.any_eq_true]
 refine⟨l[i],List.getElem_mem _,?_⟩
 rw[List.getD_eq_getElem?_getD,List.getElem?_eq_getElem a] at h
 simpa using h
theorem QhJ {l:List Int}(h : ∀j,j<l.length->l.getD j 0≠10/\l.getD j 0≠13):QcF l=false:=by
 unfold QcF
 rw[List.any_eq_false]
 intro x b
 obtain⟨j,a,rfl⟩:=List.mem_iff_getElem.1 b
 have:=h j a
 rw[List.getD_eq_getElem?_getD,List.getElem?_eq_getElem a] at this
 simpa using this
theorem QkH (D:Nat->Prop)(A:Option Addr)(n c:Nat)(l:List Int)(w:World)(r:Ints w D A n l)(hn:n<=1073741824) :
  Calls Tryz.prog 44 #[.slice A n c] w fun e w'=>e=.returned (.bool (QcF l))/\w=w':=by
 have o:=r.len
 have a:=Zh o
 clear o
 go_enter Tryz.func44,Tryz.ntmps44
 go_wp2_with fail
 go_loopg [7] n (fun k s wr=>QsZ l w k s wr)
 case atStart=>exact⟨0,rfl,Nat.zero_le _,by rw[a.out];omega,Zh (fun j q=>by omega),rfl⟩
 case round=>
  obtain⟨i,rfl,t,u,p,rfl⟩:=hrel
  rw[a.out] at t u
  by_cases hgo:i<n
  ·have x:((i:Int)<(n:Int))=True:=by simp;omega
   obtain⟨C,rfl,_,cx⟩:=Ints.at_ r hgo
   obtain⟨y,f⟩:=ZN (l.getD i 0)
   rw[f] at cx
   have wi:IntKind.i64.wrap ((i:Int)+1)=((i+1:Nat):Int):=by rw[IntWalk.i64_in _ (by omega)];omega
   by_cases h10:y=10
   ·have b:=QfA (l:=l) (i:=i) (by rw[a.out];exact hgo) (.inl (f.trans h10))
    have h:=Zh b
    clear b f
    subst h10
    go_wp2_with fail
    go_ret
    exact⟨by rw[h.out];rfl,rfl⟩
   ·by_cases h13:y=13
    ·have b:=QfA (l:=l) (i:=i) (by rw[a.out];exact hgo) (.inr (f.trans h13))
     have h:=Zh b
     clear b f
     subst h13
     go_wp2_with fail
     go_ret
     exact⟨by rw[h.out];rfl,rfl⟩
    ·have E:(y==10)=false:=by rw[beq_eq_false_iff_ne];exact h10
     have z:(y==13)=false:=by rw[beq_eq_false_iff_ne];exact h13
     have v:=Zh f
     clear f
     go_wp2_with fail
     go_roundg (n-(i+1))
     case measure=>omega
     case rel=>
      refine⟨i+1,by simp,by rw[a.out];omega,by rw[a.out];omega,Zh (fun j q=>?_),rfl⟩
      rcases Nat.lt_or_ge j i with h1|h1
      ·exact p.out j h1
      ·rw[show j=i by omega,v.out]
       exact⟨h10,h13⟩
  ·have x:((i:Int)<(n:Int))=False:=by simp;omega
   have d:=QhJ (l:=l) (fun j q=>p.out j (by have:=a.out;omega))
   have m:=Zh d
   clear d
   go_wp2_with fail
   go_ret
   exact⟨by rw[m.out];rfl,rfl⟩
def QfY (enc:Int)(l:List Int)(K:Int):Int:=if l.any (fun x=>szA enc x==0) then 11 else if 0<Qcc enc l/\131072 / Qcc enc l+2<K then 50 else 0
theorem Qq9 {enc:Int}{l:List Int}{K:Int}{i:Nat}(a:i<l.length)(h:szA enc (l.getD i 0)=0):QfY enc l K=11:=by
 unfold QfY
 rw[if_pos]
 rw[List.any_eq_true]
 refine⟨l[i],List.getElem_mem _,?_⟩
 rw[List.getD_eq_getElem?_getD,List.getElem?_eq_getElem a] at h
 simpa using h
theorem Qpl {enc:Int}{l:List Int}{K:Int}(h : ∀j,j<l.length->szA enc (l.getD j 0)≠0):QfY enc l K=if 0<Qcc enc l/\131072 / Qcc enc l+2<K then 50 else 0:=by
 unfold QfY
 rw[if_neg]
 rw[Bool.not_eq_true,List.any_eq_false]
 intro x b
 obtain⟨j,a,rfl⟩:=List.mem_iff_getElem.1 b
 have:=h j a
 rw[List.getD_eq_getElem?_getD,List.getElem?_eq_getElem a] at this
 simpa using this
theorem Qrd {enc:Int}{l:List Int}(h : ∀j,j<l.length->szA enc (l.getD j 0)≠0):Fit enc l:=fun x b=>by
 obtain⟨j,a,rfl⟩:=List.mem_iff_getElem.1 b
 have h1:=h j a
 rw[List.getD_eq_getElem?_getD,List.getElem?_eq_getElem a] at h1
 have h2:=Qqe enc l[j]
 simp only[Option.getD_some] at h1
 omega
def Qcf (enc:Int)(l:List Int)(K:Nat)(w:World)(e:Ending)(w':World):Prop:=
 (QfY enc l K=0/\Fit enc l/\NewInts (QP l K) w e w')\/(QfY enc l K≠0/\e=.panicked [Qal (QfY enc l K)]/\ZB w w')
def QsW (enc:Int)(l:List Int)(w:World)(k:Nat)(b a:Value)(wr:World):Prop:=∃i:Nat,b=.int .i64 (Qcc enc (l.take i))/\a=.int .i64 (i:Int)/\i<=l.length/\l.length-i<=k/\Hid (∀j,j<i->szA enc (l.getD j 0)≠0)/\ZB w wr
section
variable {B gd gb g n:Nat} {enc lim:Int} {st:BkS} {dc:Array Value} {w:World}
theorem Qik (h:DeskIs w B gd gb g enc lim n st dc)(D:Nat->Prop)(A:Option Addr)(N c K:Nat)(l:List Int)(W:Ints w D A N l)(hN:N<=140000)(hK:1<=K/\K<=9999) :
  Calls Tryz.prog 38 #[.pointer (some ⟨gd,0,none⟩),.slice A N c,.int .i64 (K:Int)] w (Qcf enc l K w):=by
 have R:=W.len
 have b:=Zh R
 have HL:=Zh W
 have hE:=h.enc4
 have HT:=Zh (fun(w':World) (f:ZB w w')=>Qae (h.below f))
 have a0:=Zh (fun(w':World) (f:ZB w w')=>QoV Any g enc (Qb enc st.ats) w' (h.below f).at_)
 have a6:=Zh (fun(x:Int) (w':World)=>Qh0 enc x w' hE)
 have t:=Zh (fun(w':World) (f:ZB w w') (C:N*K<=268435456)=>Qib D A N c K l w' (Reads.below W f) C (by omega) (by omega))
 unfold Qcf
 clear h W R hE
 go_enter Tryz.func38,Tryz.ntmps38
 go_wp2_with fail
 go_loopg [7,13] N (fun k q7 a5 wr=>QsW enc l w k q7 a5 wr)
 case atStart=>exact⟨0,rfl,rfl,Nat.zero_le _,by rw[b.out];omega,Zh (fun j hj=>by omega),Below.refl _ _⟩
 case round=>
  obtain⟨i,rfl,rfl,hi,hk,r,f⟩:=hrel
  rw[b.out] at hi hk
  have hS:=Qge enc (l.take i)
  have J:((l.take i).length:Int)<=140000:=by
   have:=b.out
   rw[List.length_take]
   omega
  by_cases hgo:i<N
  ·have q1:((i:Int)<(N:Int))=True:=by simp;omega
   obtain⟨ad,rfl,_,cx⟩:=Ints.at_ (Reads.below HL.out f) hgo
   obtain⟨y,V⟩:=ZN (l.getD i 0)
   rw[V] at cx
   have s:Qcc enc (l.take (i+1))=Qcc enc (l.take i)+szA enc y:=by
    rw[List.take_succ_eq_append_getElem (by rw[b.out];exact hgo),Qkl,<-V,List.getD_eq_getElem?_getD,List.getElem?_eq_getElem (by rw[b.out];exact hgo)]
    rfl
   have wi:IntKind.i64.wrap ((i:Int)+1)=((i+1:Nat):Int):=by rw[IntWalk.i64_in _ (by omega)];omega
   have a2:=Qqe enc y
   have H:=a6.out y
   obtain⟨z,u⟩:=ZN (szA enc y)
   obtain⟨S,p⟩:=ZN (Qcc enc (l.take i))
   rw[u] at a2 s H
   rw[p] at hS s ⊢
   have ws:IntKind.i64.wrap (S+z)=S+z:=IntWalk.i64_in _ (by omega)
   have Z:=Zh H
   have a3:=Zh s
   have X:=Zh (And.intro V u)
   clear H s V u p J
   go_wp2_with fail
   refine(HT.out _ f).mono ?_
   rintro e w2 ⟨rfl,rfl⟩
   go_wp2_with fail
   refine(a0.out _ f).mono ?_
   rintro e w2 ⟨rfl,rfl⟩
   go_wp2_with fail
   refine(Z.out _).mono ?_
   rintro e w2 ⟨rfl,P⟩
   by_cases u:z=0
   ·have G:=Qq9 (K:=(K:Int)) (l:=l) (i:=i) (by rw[b.out];exact hgo) (show szA enc (l.getD i 0)=0 by rw[X.out.1,X.out.2,u])
    have E:=Zh G
    have q2:(z==0)=true:=by rw[u];rfl
    clear G u
    go_wp2_with fail
    exact⟨rfl,.inr ⟨by rw[E.out];decide,by rw[E.out];rfl,Qf f P⟩⟩
   ·have q2:(z==0)=false:=by rw[beq_eq_false_iff_ne];exact u
    go_wp2_with fail
    go_roundg (N-(i+1))
    case measure=>omega
    case rel=>
     refine⟨i+1,by rw[a3.out],by simp,by rw[b.out];omega,by rw[b.out];omega,Zh (fun j hj=>?_),Qf f P⟩
     rcases Nat.lt_or_ge j i with h1|h1
     ·exact r.out j h1
     ·rw[show j=i by omega,X.out.1,X.out.2]
      exact u
  ·have q1:((i:Int)<(N:Int))=False:=by simp;omega
   have m : ∀j,j<l.length->szA enc (l.getD j 0)≠0:=fun j hj=>r.out j (by have:=b.out;omega)
   have d:=Qpl (K:=(K:Int)) m
   have q:=Qrd m
   have L:=Qm1 enc l q
   have U:l.take i=l:=List.take_of_length_le (by have:=b.out;omega)
   rw[U] at hS J ⊢
   rw[b.out] at L J
   obtain⟨S,p⟩:=ZN (Qcc enc l)
   rw[p] at d hS L ⊢
   obtain⟨Q,Y⟩:=ZN ((131072:Int) / S)
   have a4:0<S->0<=Q/\Q<=131072/\S*Q<=131072:=fun hp=>by
    rw[<-Y]
    exact⟨Int.ediv_nonneg (by decide) (by omega),Int.le_trans (Int.ediv_le_self _ (by decide)) (by decide),Int.mul_ediv_self_le (by omega)⟩
   have a1:0<=S->Int.tdiv 131072 S=Q:=fun _=>by rw[Int.tdiv_eq_ediv_of_nonneg (by decide),Y]
   rw[Y] at d
   have a:=Zh d
   have F:=Zh q
   have a7:=Zh r
   clear d q m U p Y r
   rcases Qd9 0 S with M|M
   ·obtain⟨Q0,Q1,Q2⟩:=a4 M
    have t0:=a1 (by omega)
    have p0:((0:Int)<S)=True:=by simp;omega
    have w1:IntKind.i64.wrap Q=Q:=IntWalk.i64_in _ (by omega)
    have w2:IntKind.i64.wrap (Q+2)=Q+2:=IntWalk.i64_in _ (by omega)
    have a8:(S=0)=False:=by simp;omega
    rcases Qd9 (Q+2) K with h1|h1
    ·have p1:(Q+2<(K:Int))=True:=by simp;omega
     have o:=a.out
     rw[if_pos ⟨M,h1⟩] at o
     have O:=Zh o
     clear o a M h1 Q2
     go_wp2_with fail
     exact⟨rfl,.inr ⟨by rw[O.out];decide,by rw[O.out];rfl,f⟩⟩
    ·have p1:(Q+2<(K:Int))=False:=by simp;omega
     have o:=a.out
     rw[if_neg (by omega)] at o
     have C:N*K<=268435456:=by
      have:(N:Int)*K<=S*(Q+2):=Int.mul_le_mul L (by omega) (by omega) (by omega)
      rw[Int.mul_add] at this
      have h3:((N*K:Nat):Int)=(N:Int)*K:=by simp
      have h4:=b.out
      omega
     have O:=Zh o
     have HR:=Zh (t.out _ f C)
     clear o a M h1 Q2 C t
     go_wp2_with fail
     refine(HR.out).mono ?_
     rintro e w3 ⟨v,rfl,ho,I⟩
     go_wp2_with fail
     go_ret
     exact .inl ⟨O.out,F.out,v,rfl,QdO ho f.size,Qf f I⟩
   ·have p0:((0:Int)<S)=False:=by simp;omega
    have o:=a.out
    rw[if_neg (by omega)] at o
    have T:N=0:=by omega
    have O:=Zh o
    have HR:=Zh (t.out _ f (by rw[T];omega))
    clear o a M t T
    go_wp2_with fail
    refine(HR.out).mono ?_
    rintro e w3 ⟨v,rfl,ho,I⟩
    go_wp2_with fail
    go_ret
    exact .inl ⟨O.out,F.out,v,rfl,QdO ho f.size,Qf f I⟩
end
end Go.Proofs.YtgiihhikdoikgaaGreat
