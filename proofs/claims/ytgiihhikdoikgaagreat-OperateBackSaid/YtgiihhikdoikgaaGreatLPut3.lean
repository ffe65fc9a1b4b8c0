/-
  operate.Put, for a register of characters.
-/
import Derived.Test.YtgiihhikdoikgaaGreatLCount1
set_option linter.unusedSimpArgs false
set_option linter.unusedVariables false
set_option maxRecDepth 100000
set_option maxHeartbeats 32000000
namespace Go.Proofs.YtgiihhikdoikgaaGreat
open Go.RowKit
def ARun (P:Program)(T:Value->World->Prop)(w:World):Result Next->Prop
 | .ok (.value u) w'=>T u w'/\ZB w w'
 | .ok .skip w'=>T undef w'/\ZB w w'
 | .ok (.enter f args) w'=>Calls P f args w' fun e b=>∃v,e=.returned v/\T v b/\ZB w b
 |_=>False
theorem ARun.some {P:Program}{T:Value->World->Prop}{w:World}{r:Result Next}(h:ARun P T w r):∃v w',T v w'/\ZB w w':=by
 cases r with
 |ok n w'=>
  cases n<;>simp only[ARun] at h
  case value u=>exact⟨u,w',h⟩
  case skip=>exact⟨_,w',h⟩
  case enter f args=>
   obtain⟨e,b,fr,⟨v,_,c⟩,_⟩:=h []
   exact⟨v,b,c⟩
 |halt x w'=>simp only[ARun] at h
def Qrv (P:Program)(T:Value->World->Prop)(E:List PanicEntry->World->Prop):Result Next->Prop
 | .ok (.value u) w'=>T u w'
 | .ok .skip w'=>T undef w'
 | .ok (.enter f args) w'=>Calls P f args w' fun e b=>(∃v,e=.returned v/\T v b)\/∃ch,e=.panicked ch/\E ch b
 |_=>False
def All4 (S0:World->Prop)(S:List (Nat × (World->Prop)))(w:World):Prop:=S0 w/\∀p ∈ S,p.2 w
def Qf1 (md:Region.Mode)(ops:Array Oper)(S0:World->Prop)(S:List (Nat × (World->Prop)))(j:Nat)(w:World):Prop:=S0 w/\∀p ∈ S,Qcg md ops p.1 ops.size j=true->p.2 w
theorem All4.dep {md:Region.Mode}{ops:Array Oper}{S0:World->Prop}{S:List (Nat × (World->Prop))}{j:Nat}{w:World}(h:All4 S0 S w):Qf1 md ops S0 S j w:=⟨h.1,fun p hp _=>h.2 p hp⟩
def AS4 (P:Program)(ops:Array Oper)(D:World->Prop)(o:Oper)(T:Value->World->Prop)(a:Act):Prop:=
 Region.wanted o (yielded ops a.tmps)=true/\∀w,D w->ARun P T w ((execOp a.eval o).run P w)
def FS4 (P:Program)(ops:Array Oper)(S:World->Prop)(o:Oper)(T:Value->World->Prop)(E:List PanicEntry->World->Prop)(a:Act):Prop:=
 Region.wanted o (yielded ops a.tmps)=true/\∀w,S w->Qrv P T E ((execOp a.eval o).run P w)
section
variable {P:Program} {ops:Array Oper} {md:Region.Mode} {S0:World->Prop} {hv ac:Nat->Bool} {TT:Nat->Value->World->Prop} {E:List PanicEntry->World->Prop} {Q:Exit->Act->World->Prop}
theorem AS4.of_same {D:World->Prop}{o:Oper}{T:Value->World->Prop}{a b:Act}(e:AS4 P ops D o T a)(c:execOp b.eval o=execOp a.eval o)
  (d:Region.wanted o (yielded ops b.tmps)=Region.wanted o (yielded ops a.tmps)):AS4 P ops D o T b:=by
 unfold AS4 at *
 rw[c,d]
 exact e
theorem AS4.weak {D D':World->Prop}{o:Oper}{T:Value->World->Prop}{a:Act}(b:AS4 P ops D o T a)(h : ∀w,D' w->D w):AS4 P ops D' o T a:=⟨b.1,fun w c=>b.2 w (h w c)⟩
theorem RS.weak {D D':World->Prop}{o:Oper}{v:Value}{a:Act}(d:RS P ops D o v a)(h : ∀w,D' w->D w):RS P ops D' o v a:=d.imp (fun b=>⟨b.1,fun w c=>b.2 w (h w c)⟩) id
def Tail4 (P:Program)(ops:Array Oper)(E:List PanicEntry->World->Prop)(L:Act->World->Prop):(World->Prop)->List Nat->Act->Prop
  |S,[],a=>∀w,S w->L a w
  |S,i::is,a=>∃o,ops[i]? = some o /\
      ((∃v,RS P ops S o v a/\Tail4 P ops E L S is (a.put o.dst v)) \/
       (∃T,FS4 P ops S o T E a/\∀v,(∃w,T v w)->Tail4 P ops E L (T v) is (a.put o.dst v)))
def Lin4 (P:Program)(md:Region.Mode)(ops:Array Oper)(S0:World->Prop)(hv ac:Nat->Bool)(TT:Nat->Value->World->Prop)(E:List PanicEntry->World->Prop)(L:Act->World->Prop):List (Nat × (World->Prop))->List Nat->Act->Prop
  |S,[],a=>∀w,All4 S0 S w->L a w
  |S,i::is,a=>∃o,ops[i]? = some o /\
      ((hv i=false/\ac i=false/\∃v,RS P ops (Qf1 md ops S0 S i) o v a/\Lin4 P md ops S0 hv ac TT E L S is (a.put o.dst v)) \/
       (hv i=false/\ac i=true/\AS4 P ops (Qf1 md ops S0 S i) o (TT i) a/\∀v,(∃w,TT i v w/\All4 S0 S w)->Lin4 P md ops S0 hv ac TT E L ((i,TT i v)::S) is (a.put o.dst v)) \/
       (hv i=true/\Tail4 P ops E L (All4 S0 S) (i::is) a))
theorem Tail4.weak {L:Act->World->Prop} : ∀(is:List Nat) (S S':World->Prop) (a:Act),(∀w,S' w->S w)->Tail4 P ops E L S is a->Tail4 P ops E L S' is a:=by
 intro is
 induction is with
 |nil=>intro S S' a h H w b;exact H w (h w b)
 |cons i is ih=>
  intro S S' a h H
  obtain⟨o,d,H⟩:=H
  refine⟨o,d,?_⟩
  rcases H with ⟨v,e,H⟩|⟨T,c,H⟩
  ·exact .inl ⟨v,e.weak h,ih S S' _ h H⟩
  ·exact .inr ⟨T,⟨c.1,fun w b=>c.2 w (h w b)⟩,H⟩
theorem Lin4.weak {L:Act->World->Prop} : ∀(is:List Nat) (S S':List (Nat × (World->Prop))) (a:Act),(∀p ∈ S,p ∈ S')->Lin4 P md ops S0 hv ac TT E L S is a->Lin4 P md ops S0 hv ac TT E L S' is a:=by
 intro is
 induction is with
 |nil=>intro S S' a h H w b;exact H w ⟨b.1,fun p hp=>b.2 p (h p hp)⟩
 |cons i is ih=>
  intro S S' a h H
  have e : ∀w,Qf1 md ops S0 S' i w->Qf1 md ops S0 S i w:=fun w b=>⟨b.1,fun p hp f=>b.2 p (h p hp) f⟩
  obtain⟨o,j,H⟩:=H
  refine⟨o,j,?_⟩
  rcases H with ⟨h1,h2,v,g,H⟩|⟨h1,h2,l,H⟩|⟨h1,H⟩
  ·exact .inl ⟨h1,h2,v,g.weak e,ih S S' _ h H⟩
  ·exact .inr (.inl ⟨h1,h2,l.weak e,fun v hv=>ih _ _ _ (fun p hp=>by
    rcases List.mem_cons.1 hp with rfl|hp
    ·exact List.mem_cons_self
    ·exact List.mem_cons_of_mem _ (h p hp)) (H v (by
     obtain⟨w,d,c⟩:=hv
     exact⟨w,d,c.1,fun p hp=>c.2 p (h p hp)⟩))⟩)
  ·exact .inr (.inr ⟨h1,Tail4.weak _ _ _ _ (fun w b=>⟨b.1,fun p hp=>b.2 p (h p hp)⟩) H⟩)
theorem Lin4.pull {L:Act->World->Prop}(c : ∀(j:Nat) (o:Oper) g b,ops[j]? = some o->o.op≠.select g b)(a6 : ∀w w',S0 w->ZB w w'->S0 w')(b0 : ∀k,ac k=true->∀v w w',TT k v w->ZB w w'->TT k v w'){j:Nat} :
    ∀(is:List Nat) (S:List (Nat × (World->Prop))) (a:Act),j ∈ is->is.Pairwise (· < ·)->(∀i ∈ is,i<j->∀oi oj,ops[i]? = some oi->ops[j]? = some oj->oi.apart ops oj=true) ->
      (∀i ∈ is,i<j->hv i=false/\Qcg md ops i ops.size j=false)->hv j=false->(∃w,All4 S0 S w)->(∀p ∈ S,∀w w',p.2 w->ZB w w'->p.2 w')->Lin4 P md ops S0 hv ac TT E L S is a ->
      ∃o,ops[j]? = some o /\
       ((ac j=false/\∃v,RS P ops (Qf1 md ops S0 S j) o v a/\Lin4 P md ops S0 hv ac TT E L S (is.erase j) (a.put o.dst v)) \/
        (ac j=true/\AS4 P ops (Qf1 md ops S0 S j) o (TT j) a/\∀v,(∃w,TT j v w/\All4 S0 S w)->Lin4 P md ops S0 hv ac TT E L ((j,TT j v)::S) (is.erase j) (a.put o.dst v))):=by
  intro is
  induction is with
  |nil=>intro S a hj;cases hj
  |cons i is ih=>
    intro S a hj hp U Y R hS J H
    by_cases hij:i=j
    · subst hij
      rw[List.erase_cons_head]
      obtain⟨o,ho,H⟩:=H
      rcases H with ⟨_,h2,H⟩|⟨_,h2,H⟩|⟨h1,_⟩
      · exact⟨o,ho,.inl ⟨h2,H⟩⟩
      · exact⟨o,ho,.inr ⟨h2,H⟩⟩
      · rw[R] at h1;cases h1
    · have K:j ∈ is:=(List.mem_cons.1 hj).resolve_left (fun e=>hij e.symm)
      obtain⟨a7,X⟩:=List.pairwise_cons.1 hp
      have r:=a7 j K
      obtain⟨u,a8⟩:=Y i List.mem_cons_self r
      rw[List.erase_cons_tail (by simpa using hij)]
      have B:=fun k hk=>U k (List.mem_cons_of_mem _ hk)
      have F:=fun k hk=>Y k (List.mem_cons_of_mem _ hk)
      obtain⟨oi,f,H⟩:=H
      rcases H with ⟨_,h2,vi,a3,H⟩|⟨_,h2,hA,H⟩|⟨h1,_⟩
      · obtain⟨oj,d,H'⟩:=ih S _ K X B F R hS J H
        obtain⟨h1,t,z⟩:=Oper.apart_spec (U i List.mem_cons_self r oi oj f d)
        refine⟨oj,d,?_⟩
        rcases H' with ⟨h,vj,I,H'⟩|⟨h,N,H'⟩
        · refine .inl ⟨h,vj,I.of_same (execOp_put oj (fun g b=>c j oj g b d) a oi.dst vi h1).symm (wanted_put oj a oi.dst vi h1).symm,oi,f,.inl ⟨u,h2,vi,a3.of_same (execOp_put oi (fun g b=>c i oi g b f) a oj.dst vj z) (wanted_put oi a oj.dst vj z),?_⟩⟩
          rw[<-Act.put_comm a vi vj t]
          exact H'
        · refine .inr ⟨h,N.of_same (execOp_put oj (fun g b=>c j oj g b d) a oi.dst vi h1).symm (wanted_put oj a oi.dst vi h1).symm,fun vj D=>⟨oi,f,.inl ⟨u,h2,vi,(a3.of_same (execOp_put oi (fun g b=>c i oi g b f) a oj.dst vj z) (wanted_put oi a oj.dst vj z)).weak (fun w G=>⟨G.1,fun p hp=>G.2 p (List.mem_cons_of_mem _ hp)⟩),?_⟩⟩⟩
          rw[<-Act.put_comm a vi vj t]
          exact H' vj D
      · obtain⟨w0,y⟩:=hS
        obtain⟨T,w1,a4,a2⟩:=(hA.2 w0 y.dep).some
        have a5:All4 S0 S w1:=⟨a6 _ _ y.1 a2,fun p hp=>J p hp _ _ (y.2 p hp) a2⟩
        have x : ∀v w,Qf1 md ops S0 S j w->Qf1 md ops S0 ((i,TT i v)::S) j w:=fun v w G=>⟨G.1,fun p hp hr=>by
          rcases List.mem_cons.1 hp with rfl|hp
          · rw[a8] at hr;cases hr
          · exact G.2 p hp hr⟩
        have V : ∀v,∀p ∈ ((i,TT i v)::S),∀w w',p.2 w->ZB w w'->p.2 w':=fun v p hp=>by
          rcases List.mem_cons.1 hp with rfl|hp
          · exact fun w w'=>b0 i h2 v w w'
          · exact J p hp
        have C : ∀v w,TT i v w->All4 S0 S w->All4 S0 ((i,TT i v)::S) w:=fun v w h1 h2=>⟨h2.1,fun p hp=>by
          rcases List.mem_cons.1 hp with rfl|hp
          · exact h1
          · exact h2.2 p hp⟩
        have go:=fun(v:Value) (w:World) (h1:TT i v w) (h2:All4 S0 S w)=>ih ((i,TT i v)::S) _ K X B F R ⟨w,C v w h1 h2⟩ (V v) (H v ⟨w,h1,h2⟩)
        obtain⟨oj,d,H0⟩:=go T w1 a4 a5
        obtain⟨h1,t,z⟩:=Oper.apart_spec (U i List.mem_cons_self r oi oj f d)
        refine⟨oj,d,?_⟩
        rcases H0 with ⟨h,vj,I,_⟩|⟨h,N,_⟩
        · have A:=(I.weak (x T)).of_same (execOp_put oj (fun g b=>c j oj g b d) a oi.dst T h1).symm (wanted_put oj a oi.dst T h1).symm
          refine .inl ⟨h,vj,A,oi,f,.inr (.inl ⟨u,h2,hA.of_same (execOp_put oi (fun g b=>c i oi g b f) a oj.dst vj z) (wanted_put oi a oj.dst vj z),fun v hv=>?_⟩)⟩
          obtain⟨w,n,l⟩:=hv
          obtain⟨q,s,M⟩:=go v w n l
          have e1:q=oj:=Option.some.inj (s.symm.trans d)
          subst e1
          rcases M with ⟨_,Z,a1,M⟩|⟨m,_⟩
          · have O:=(a1.weak (x v)).of_same (execOp_put q (fun g b=>c j q g b d) a oi.dst v h1).symm (wanted_put q a oi.dst v h1).symm
            have e2:Z=vj:=O.uniq A y.dep
            subst e2
            rw[<-Act.put_comm a v Z t]
            exact M
          · rw[h] at m;cases m
        · have W:=(N.weak (x T)).of_same (execOp_put oj (fun g b=>c j oj g b d) a oi.dst T h1).symm (wanted_put oj a oi.dst T h1).symm
          refine .inr ⟨h,W,fun vj D=>⟨oi,f,.inr (.inl ⟨u,h2,(hA.of_same (execOp_put oi (fun g b=>c i oi g b f) a oj.dst vj z) (wanted_put oi a oj.dst vj z)).weak (fun w G=>⟨G.1,fun p hp=>G.2 p (List.mem_cons_of_mem _ hp)⟩),fun v hv=>?_⟩)⟩⟩
          obtain⟨w,n,l⟩:=hv
          have a9:TT j vj w:=l.2 (j,TT j vj) List.mem_cons_self
          have a0:All4 S0 S w:=⟨l.1,fun p hp=>l.2 p (List.mem_cons_of_mem _ hp)⟩
          obtain⟨q,s,M⟩:=go v w n a0
          have e1:q=oj:=Option.some.inj (s.symm.trans d)
          subst e1
          rcases M with ⟨m,_⟩|⟨_,_,M⟩
          · rw[h] at m;cases m
          · have H2:=M vj ⟨w,a9,C v w n a0⟩
            rw[Act.put_comm a v vj t] at H2
            refine H2.weak _ _ _ _ (fun p hp=>?_)
            rcases List.mem_cons.1 hp with rfl|hp
            · exact List.mem_cons_of_mem _ List.mem_cons_self
            · rcases List.mem_cons.1 hp with rfl|hp
              · exact List.mem_cons_self
              · exact List.mem_cons_of_mem _ (List.mem_cons_of_mem _ hp)
      · rw[u] at h1;cases h1
def Qsk (md:Region.Mode)(ops:Array Oper)(hv:Nat->Bool):Bool:=
 QcT md ops && (List.range ops.size).all fun j => !((List.range (j+1)).any hv) || (List.range j).all fun i=>Qcg md ops i ops.size j
theorem Qmk {md:Region.Mode}{ops:Array Oper}{hv:Nat->Bool}(h:Qsk md ops hv=true):QcT md ops=true/\∀i j,i<j->j<ops.size->(∃k,k<=j/\hv k=true)->Qcg md ops i ops.size j=true:=by
 unfold Qsk at h
 rw[Bool.and_eq_true] at h
 refine⟨h.1,fun i j b d f=>?_⟩
 have h1:=List.all_eq_true.1 h.2 j (List.mem_range.2 d)
 obtain⟨k,e,c⟩:=f
 have h2:(List.range (j+1)).any hv=true:=List.any_eq_true.2 ⟨k,List.mem_range.2 (by omega),c⟩
 rw[h2,Bool.not_true,Bool.false_or] at h1
 exact List.all_eq_true.1 h1 i (List.mem_range.2 b)
theorem QgZ (hB:Qsk md ops hv=true)(a6 : ∀w w',S0 w->ZB w w'->S0 w')(a8 : ∀k,ac k=true->∀v w w',TT k v w->ZB w w'->TT k v w'){ds:List Deferred}(hE : ∀ch (a:Act) w,a.defers=ds->E ch w->Q (.panic ch) a w) :
    ∀(fuel:Nat) (is:List Nat) (listed:Array Bool) (a:Act) (w:World),is.length<=fuel->listed.size=ops.size->a.defers=ds ->
    (∀j,j<ops.size->(listed.getD j true=false↔j ∈ is))->(∀j ∈ is,j<ops.size)->is.Pairwise (· < ·)->QdD md ops listed ->
    ((∃S,All4 S0 S w/\(∀p ∈ S,∀w w',p.2 w->ZB w w'->p.2 w')/\Lin4 P md ops S0 hv ac TT E (Q .normal) S is a) \/
     ((∀j ∈ is,∃k,k<=j/\hv k=true)/\∃S,S w/\Tail4 P ops E (Q .normal) S is a))->wpAny P md ops Q fuel listed a w:=by
  obtain⟨b1,b2⟩:=Qmk hB
  obtain⟨a0,b9,c1⟩:=Qb0 b1
  intro fuel
  have a1 : ∀(is:List Nat) (listed:Array Bool),listed.size=ops.size->(∀j,j<ops.size->(listed.getD j true=false↔j ∈ is))->(∀j ∈ is,j<ops.size)->is.Pairwise (· < ·)->Region.ready md ops listed=[]->is=[]:=by
    intro is listed s b t hp X
    cases is with
    |nil=>rfl
    |cons i is=>
      exfalso
      have F:=t i List.mem_cons_self
      have:i ∈ Region.ready md ops listed:=by
        refine mem_ready.2 ⟨(b i F).2 List.mem_cons_self,ops[i],Array.getElem?_eq_getElem F,fun e G y=>?_⟩
        have h1:=b9 i _ (Array.getElem?_eq_getElem F) e G y
        cases h2:listed.getD e.on false with
        |true=>rfl
        |false=>
          have Y:=(b e.on (by omega)).1 (getD_in (by omega) h2)
          rcases List.mem_cons.1 Y with Y|Y
          · omega
          · have:=(List.pairwise_cons.1 hp).1 _ Y;omega
      rw[X] at this
      cases this
  have M : ∀ (a : Act) (w : World), ((∃S,All4 S0 S w/\(∀p ∈ S,∀w w',p.2 w->ZB w w'->p.2 w')/\Lin4 P md ops S0 hv ac TT E (Q .normal) S [] a) \/
     ((∀j ∈ ([]:List Nat),∃k,k<=j/\hv k=true)/\∃S,S w/\Tail4 P ops E (Q .normal) S [] a))->Q .normal a w:=by
    rintro a w (⟨S,h1,_,h2⟩|⟨_,S,h1,h2⟩)
    · exact h2 w h1
    · exact h2 w h1
  induction fuel with
  |zero=>
    intro is listed a w hf s O b t hp J H
    have e:is=[]:=List.eq_nil_of_length_eq_zero (by omega)
    subst e
    refine⟨?_,M a w H⟩
    rw[List.eq_nil_iff_forall_not_mem]
    intro j hj
    obtain⟨h1,o,I,_⟩:=mem_ready.1 hj
    have:=(b j (Array.getElem?_eq_some_iff.1 I).1).1 h1
    cases this
  |succ fuel ih=>
    intro is listed a w hf s O b t hp J H
    refine⟨fun X=>?_,fun j hj=>?_⟩
    · have e:=a1 is listed s b t hp X
      subst e
      exact M a w H
    · obtain⟨h1,oj,d,q⟩:=mem_ready.1 hj
      have W:=(Array.getElem?_eq_some_iff.1 d).1
      have z:=(b j W).1 h1
      have N : ∀i ∈ is,listed.getD i false≠true:=by
        intro i F h2
        have Y:=(b i (t i F)).2 F
        rw[getD_both Y] at h2
        cases h2
      have b6:is.Nodup:=hp.imp (fun h=>Nat.ne_of_lt h)
      have a2:QdD md ops (listed.setIfInBounds j true):=by
        intro k ok a9 c e G y
        have a7:listed.getD e.on false=true:=by
          by_cases hkj:k=j
          · subst hkj
            have:ok=oj:=Option.some.inj (a9.symm.trans d)
            subst this
            exact q e G y
          · rw[getD_set_ne false (Ne.symm hkj)] at c
            exact J k ok a9 c e G y
        by_cases hej:e.on=j
        · rw[hej]
          simp[s,W]
        · rw[getD_set_ne false (Ne.symm hej)]
          exact a7
      have U : ∀k,k<ops.size->((listed.setIfInBounds j true).getD k true=false↔k ∈ is.erase j):=by
        intro k c
        rw[b6.mem_erase_iff]
        by_cases hkj:k=j
        · subst hkj
          simp[s,c]
        · rw[getD_set_ne true (Ne.symm hkj),b k c]
          simp[hkj]
      have go:=fun(a':Act) (w':World) (b0:a'.defers=ds) HH=>
        ih (is.erase j) (listed.setIfInBounds j true) a' w' (by rw[List.length_erase_of_mem z];omega) (by simpa using s) b0 U (fun k c=>t k (List.mem_of_mem_erase c)) (hp.sublist List.erase_sublist) a2 HH
      have l:(∃k,k<=j/\hv k=true)->∃js,is=j::js:=fun c=>by
        cases is with
        |nil=>cases z
        |cons i js=>
          rcases List.mem_cons.1 z with rfl|a4
          · exact⟨js,rfl⟩
          · exfalso
            have A:=(List.pairwise_cons.1 hp).1 j a4
            exact N i List.mem_cons_self (Qa1 J _ j oj d q (b2 i j A W c))
      have g : ∀(v:Value),(a.put oj.dst v).defers=ds:=fun v=>by
        rw[<-O]
        unfold Act.put
        split<;>rfl
      have tail : ∀(js:List Nat) (S:World->Prop),is=j::js->S w->(∀k ∈ js,∃k',k'<=k/\hv k'=true)->Tail4 P ops E (Q .normal) S (j::js) a->Go.wpOp P ops Q j (wpAny P md ops Q fuel (listed.setIfInBounds j true)) a w:=by
        intro js S a5 m c H
        obtain⟨o,I,H⟩:=H
        have e1:o=oj:=Option.some.inj (I.symm.trans d)
        subst e1
        have b7:is.erase j=js:=by rw[a5,List.erase_cons_head]
        rw[b7] at go
        unfold Go.wpOp
        simp only[d]
        rcases H with ⟨v,hy,H⟩|⟨T,⟨D,hT⟩,H⟩
        · rcases hy with ⟨D,X⟩|⟨D,rfl⟩
          · simp only[D,if_true]
            refine .inl ?_
            unfold Oper.wp
            rw[X w m]
            exact go _ w (g _) (.inr ⟨c,S,m,H⟩)
          · simp only[D,Bool.false_eq_true,if_false]
            exact go _ w (g _) (.inr ⟨c,S,m,H⟩)
        · simp only[D,if_true]
          refine .inl ?_
          have h2:=hT w m
          unfold Oper.wp
          generalize (execOp a.eval o).run P w=r at *
          cases r with
          |ok n w'=>
            cases n<;>simp only[Qrv] at h2<;>simp only[Oper.upon]
            case value u=>exact go _ w' (g _) (.inr ⟨c,T u,h2,H u ⟨w',h2⟩⟩)
            case skip=>exact go _ w' (g _) (.inr ⟨c,T undef,h2,H undef ⟨w',h2⟩⟩)
            case enter f args=>
              refine Calls.mono h2 fun e B G=>?_
              rcases G with ⟨v,rfl,R⟩|⟨ch,rfl,c0⟩
              · exact go _ B (g _) (.inr ⟨c,T v,R,H v ⟨B,R⟩⟩)
              · exact hE ch a B O c0
          |halt x w'=>simp only[Qrv] at h2
      rcases H with ⟨S,m,C,H⟩|⟨c,S,m,H⟩
      · cases hvj:hv j with
        |true=>
          obtain⟨js,rfl⟩:=l ⟨j,Nat.le_refl _,hvj⟩
          obtain⟨o,I,H⟩:=H
          rcases H with ⟨h2,_⟩|⟨h2,_⟩|⟨_,H⟩
          · rw[hvj] at h2;cases h2
          · rw[hvj] at h2;cases h2
          · exact tail js _ rfl m (fun k c=>⟨j,by have:=(List.pairwise_cons.1 hp).1 k c;omega,hvj⟩) H
        |false=>
          have key:∃o,ops[j]? = some o /\
             ((ac j=false/\∃v,RS P ops (Qf1 md ops S0 S j) o v a/\Lin4 P md ops S0 hv ac TT E (Q .normal) S (is.erase j) (a.put o.dst v)) \/
              (ac j=true/\AS4 P ops (Qf1 md ops S0 S j) o (TT j) a/\∀v,(∃w,TT j v w/\All4 S0 S w)->Lin4 P md ops S0 hv ac TT E (Q .normal) ((j,TT j v)::S) (is.erase j) (a.put o.dst v))):=by
            by_cases hbar:∃k,k<=j/\hv k=true
            · obtain⟨js,rfl⟩:=l hbar
              rw[List.erase_cons_head]
              obtain⟨o,I,H⟩:=H
              rcases H with ⟨_,h2,H⟩|⟨_,h2,H⟩|⟨h2,_⟩
              · exact⟨o,I,.inl ⟨h2,H⟩⟩
              · exact⟨o,I,.inr ⟨h2,H⟩⟩
              · rw[hvj] at h2;cases h2
            · exact Lin4.pull (Region.noSelect_spec a0) a6 a8 is S a z hp (fun i F A oi a3 b3 K=>by
                refine c1 i j oi a3 A b3 K (fun e G y b4=>?_)
                have:a3=oj:=Option.some.inj (K.symm.trans d)
                subst this
                have h2:=q e G y
                rw[b4] at h2
                exact N i F h2)
                (fun i F A=>by
                  refine⟨?_,?_⟩
                  · cases h2:hv i with
                    |false=>rfl
                    |true=>exact absurd ⟨i,Nat.le_of_lt A,h2⟩ hbar
                  · cases h2:Qcg md ops i ops.size j with
                    |false=>rfl
                    |true=>exact absurd (Qa1 J _ j oj d q h2) (N i F)) hvj ⟨w,m⟩ C H
          obtain⟨o,I,Z⟩:=key
          have e1:o=oj:=Option.some.inj (I.symm.trans d)
          subst e1
          unfold Go.wpOp
          simp only[d]
          rcases Z with ⟨_,v,hy,Z⟩|⟨b5,⟨D,hT⟩,Z⟩
          · rcases hy with ⟨D,X⟩|⟨D,rfl⟩
            · simp only[D,if_true]
              refine .inl ?_
              unfold Oper.wp
              rw[X w m.dep]
              exact go _ w (g _) (.inl ⟨S,m,C,Z⟩)
            · simp only[D,Bool.false_eq_true,if_false]
              exact go _ w (g _) (.inl ⟨S,m,C,Z⟩)
          · simp only[D,if_true]
            refine .inl ?_
            have h2:=hT w m.dep
            have fin : ∀v w',TT j v w'->ZB w w'->(wpAny P md ops Q fuel (listed.setIfInBounds j true)) (a.put o.dst v) w':=fun v w' R y=>by
              have V:All4 S0 S w':=⟨a6 _ _ m.1 y,fun p hp=>C p hp _ _ (m.2 p hp) y⟩
              refine go _ w' (g _) (.inl ⟨_,⟨V.1,fun p hp=>?_⟩,fun p hp=>?_,Z v ⟨w',R,V⟩⟩)
              · rcases List.mem_cons.1 hp with rfl|hp
                · exact R
                · exact V.2 p hp
              · rcases List.mem_cons.1 hp with rfl|hp
                · exact fun w w'=>a8 j b5 v w w'
                · exact C p hp
            unfold Oper.wp
            generalize (execOp a.eval o).run P w=r at *
            cases r with
            |ok n w'=>
              cases n<;>simp only[ARun] at h2<;>simp only[Oper.upon]
              case value u=>exact fin u w' h2.1 h2.2
              case skip=>exact fin _ w' h2.1 h2.2
              case enter f args=>
                refine Calls.mono h2 fun e B G=>?_
                obtain⟨v,rfl,R,y⟩:=G
                exact fin v B R y
            |halt x w'=>simp only[ARun] at h2
      · obtain⟨js,rfl⟩:=l (c j z)
        exact tail js S rfl m (fun k b8=>c k (List.mem_cons_of_mem _ b8)) H
def QiB (P:Program)(ops:Array Oper)(E:List PanicEntry->World->Prop)(L:Act->World->Prop):(World->Prop)->List Oper->Act->Prop
 |S,[],a=>∀w,S w->L a w
 |S,o::os,a=>(∃v,RS P ops S o v a/\QiB P ops E L S os (a.put o.dst v))\/(∃T,FS4 P ops S o T E a/\∀v,(∃w,T v w)->QiB P ops E L (T v) os (a.put o.dst v))
def Qiy (P:Program)(md:Region.Mode)(ops:Array Oper)(S0:World->Prop)(hv ac:Nat->Bool)(TT:Nat->Value->World->Prop)(E:List PanicEntry->World->Prop)(L:Act->World->Prop):Nat->List (Nat × (World->Prop))->List Oper->Act->Prop
  |_,S,[],a=>∀w,All4 S0 S w->L a w
  |k,S,o::os,a=>
      (hv k=false/\ac k=false/\∃v,RS P ops (Qf1 md ops S0 S k) o v a/\Qiy P md ops S0 hv ac TT E L (k+1) S os (a.put o.dst v)) \/
      (hv k=false/\ac k=true/\AS4 P ops (Qf1 md ops S0 S k) o (TT k) a/\∀v,(∃w,TT k v w/\All4 S0 S w)->Qiy P md ops S0 hv ac TT E L (k+1) ((k,TT k v)::S) os (a.put o.dst v)) \/
      (hv k=true/\QiB P ops E L (All4 S0 S) (o::os) a)
theorem Qk6 {L:Act->World->Prop} : ∀(os:List Oper) (k:Nat) (S:World->Prop) (a:Act),(∀j,os[j]? = ops[k+j]?)->QiB P ops E L S os a->Tail4 P ops E L S (List.range' k os.length) a:=by
 intro os
 induction os with
 |nil=>intro k S a _ h;exact h
 |cons o os ih=>
  intro k S a d h
  rw[List.length_cons,List.range'_succ]
  have b : ∀j,os[j]? = ops[k+1+j]? := fun j=>by
   have:=d (j+1)
   rw[List.getElem?_cons_succ] at this
   rw[this,Nat.add_right_comm,Nat.add_assoc]
  refine⟨o,by have:=d 0;simpa using this.symm,?_⟩
  rcases h with ⟨v,f,h⟩|⟨T,e,h⟩
  ·exact .inl ⟨v,f,ih (k+1) S _ b h⟩
  ·exact .inr ⟨T,e,fun v c=>ih (k+1) (T v) _ b (h v c)⟩
theorem QnH {L:Act->World->Prop} : ∀(os:List Oper) (k:Nat) (S:List (Nat × (World->Prop))) (a:Act),(∀j,os[j]? = ops[k+j]?)->Qiy P md ops S0 hv ac TT E L k S os a->Lin4 P md ops S0 hv ac TT E L S (List.range' k os.length) a:=by
 intro os
 induction os with
 |nil=>intro k S a _ h;exact h
 |cons o os ih=>
  intro k S a c h
  have e:=c
  rw[List.length_cons,List.range'_succ]
  have b : ∀j,os[j]? = ops[k+1+j]? := fun j=>by
   have:=c (j+1)
   rw[List.getElem?_cons_succ] at this
   rw[this,Nat.add_right_comm,Nat.add_assoc]
  refine⟨o,by have:=c 0;simpa using this.symm,?_⟩
  rcases h with ⟨h1,h2,v,f,h⟩|⟨h1,h2,g,h⟩|⟨h1,h⟩
  ·exact .inl ⟨h1,h2,v,f,ih (k+1) S _ b h⟩
  ·exact .inr (.inl ⟨h1,h2,g,fun v d=>ih (k+1) _ _ b (h v d)⟩)
  ·refine .inr (.inr ⟨h1,?_⟩)
   have:=Qk6 (o::os) k _ a e h
   rw[List.length_cons,List.range'_succ] at this
   exact this
theorem QlL {L:Act->World->Prop} : ∀(os:List Oper) (S S':World->Prop) (a:Act),(∀w,S' w->S w)->QiB P ops E L S os a->QiB P ops E L S' os a:=by
 intro os
 induction os with
 |nil=>intro S S' a h H w b;exact H w (h w b)
 |cons o os ih=>
  intro S S' a h H
  rcases H with ⟨v,d,H⟩|⟨T,c,H⟩
  ·exact .inl ⟨v,d.weak h,ih _ _ _ h H⟩
  ·exact .inr ⟨T,⟨c.1,fun w b=>c.2 w (h w b)⟩,H⟩
theorem Qmv {L:Act->World->Prop} : ∀(os:List Oper) (k:Nat) (S S':List (Nat × (World->Prop))) (a:Act),(∀p ∈ S,p ∈ S')->Qiy P md ops S0 hv ac TT E L k S os a->Qiy P md ops S0 hv ac TT E L k S' os a:=by
 intro os
 induction os with
 |nil=>intro k S S' a h H w b;exact H w ⟨b.1,fun p hp=>b.2 p (h p hp)⟩
 |cons o os ih=>
  intro k S S' a h H
  have i : ∀w,Qf1 md ops S0 S' k w->Qf1 md ops S0 S k w:=fun w b=>⟨b.1,fun p hp j=>b.2 p (h p hp) j⟩
  have c : ∀w,All4 S0 S' w->All4 S0 S w:=fun w b=>⟨b.1,fun p hp=>b.2 p (h p hp)⟩
  rcases H with ⟨h1,h2,v,e,H⟩|⟨h1,h2,l,H⟩|⟨h1,H⟩
  ·exact .inl ⟨h1,h2,v,e.weak i,ih _ S S' _ h H⟩
  ·exact .inr (.inl ⟨h1,h2,l.weak i,fun v hv=>ih _ _ _ _ (fun p hp=>by
    rcases List.mem_cons.1 hp with rfl|hp
    ·exact List.mem_cons_self
    ·exact List.mem_cons_of_mem _ (h p hp)) (H v (by
     obtain⟨w,f,d⟩:=hv
     exact⟨w,f,c w d⟩))⟩)
  ·refine .inr (.inr ⟨h1,?_⟩)
   rcases H with ⟨v,e,H⟩|⟨T,g,H⟩
   ·exact .inl ⟨v,e.weak c,QlL _ _ _ _ c H⟩
   ·exact .inr ⟨T,⟨g.1,fun w b=>g.2 w (c w b)⟩,H⟩
def Qsf:List (Nat × (Value->World->Prop))->Nat->Value->World->Prop
 | [],_=>fun _ _=>False
 |(i,T)::r,k=>if k=i then T else Qsf r k
def Qsj:List (Nat × (Value->World->Prop))->Nat->Bool
 | [],_=>false
 |(i,_)::r,k=>if k=i then true else Qsj r k
def Qj3 (T:Value->World->Prop):Prop:=∀v w w',T v w->ZB w w'->T v w'
def StL:List (Nat × (Value->World->Prop))->Prop
 | []=>True
 |(_,T)::r=>Qj3 T/\StL r
theorem StL.of : ∀{l:List (Nat × (Value->World->Prop))},StL l->∀k,Qsj l k=true->∀v w w',Qsf l k v w->ZB w w'->Qsf l k v w':=by
 intro l
 induction l with
 |nil=>intro _ k h;cases h
 |cons p r ih=>
  obtain⟨i,T⟩:=p
  intro d k h v w w' b c
  unfold Qsj at h
  unfold Qsf at b ⊢
  by_cases hk:k=i
  ·rw[if_pos hk] at b ⊢
   exact d.1 v w w' b c
  ·rw[if_neg hk] at h b ⊢
   exact ih d.2 k h v w w' b c
theorem Qah {id:Nat}{a:Act}{w:World}{l:List Oper}(S0:World->Prop)(hv:Nat->Bool)(TL:List (Nat × (Value->World->Prop)))(E:List PanicEntry->World->Prop)(hm:P.follows .mixedOrders=true)(i:Qsk .any l.toArray hv=true)(m:S0 w.drew)(d : ∀w w',S0 w->ZB w w'->S0 w')(e:StL TL)
  (g : ∀ch (f:Act) w,f.defers=a.defers->E ch w->Q (.panic ch) f w) (h:Qiy P .any l.toArray S0 hv (Qsj TL) (Qsf TL) E (Q .normal) 0 [] l a):(Code.region id l.toArray true).wp P Q a w:=by
 refine wp_region_any hm (QgZ i d e.of g _ (List.range' 0 l.length) _ a _ (by simp) (by simp) rfl (fun j b=>?_) (fun j b=>by simpa using b) (List.pairwise_lt_range' ..) (fun j oj b c=>?_) (.inl ⟨[],⟨m,fun p hp=>(by cases hp)⟩,fun p hp=>(by cases hp),QnH l 0 [] a (fun j=>by simp) h⟩))
 ·simp at b
  simp[b]
 ·exfalso
  rw[Array.getD_eq_getD_getElem?] at c
  rw[Array.getElem?_replicate] at c
  split at c<;>simp at c
section
variable {L:Act->World->Prop} {k:Nat} {S:List (Nat × (World->Prop))} {o:Oper} {os:List Oper} {a:Act}
theorem QU {v:Value}(b:hv k=false)(c:ac k=false)(d:Region.wanted o (yielded ops a.tmps)=true)(e : ∀w,Qf1 md ops S0 S k w->(execOp a.eval o).run P w=.ok (.value v) w)
  (h:Qiy P md ops S0 hv ac TT E L (k+1) S os (a.put o.dst v)):Qiy P md ops S0 hv ac TT E L k S (o::os) a:=.inl ⟨b,c,v,.inl ⟨d,e⟩,h⟩
theorem Qak (b:hv k=false)(c:ac k=false)(d:Region.wanted o (yielded ops a.tmps)=false)(h:Qiy P md ops S0 hv ac TT E L (k+1) S os (a.put o.dst undef)):Qiy P md ops S0 hv ac TT E L k S (o::os) a:=
 .inl ⟨b,c,undef,.inr ⟨d,rfl⟩,h⟩
theorem Qcq {f:FuncId}{args:Array Value}(T:Value->World->Prop)(g:TT k=T)(c:hv k=false)(i:ac k=true)(j:Region.wanted o (yielded ops a.tmps)=true)(d : ∀w,Qf1 md ops S0 S k w->(execOp a.eval o).run P w=.ok (.enter f args) w)
  (l : ∀w,Qf1 md ops S0 S k w->Calls P f args w fun e w'=>∃v,e=.returned v/\T v w'/\ZB w w') (h : ∀v,(∃w,T v w/\All4 S0 S w)->Qiy P md ops S0 hv ac TT E L (k+1) ((k,T v)::S) os (a.put o.dst v)):Qiy P md ops S0 hv ac TT E L k S (o::os) a:=by
 subst g
 exact .inr (.inl ⟨c,i,⟨j,fun w b=>by rw[d w b];exact l w b⟩,h⟩)
theorem QaP {f:FuncId}{args:Array Value}(c:Value)(j:TT k=fun v _=>v=c)(r:hv k=false)(q:ac k=true)(s:Region.wanted o (yielded ops a.tmps)=true)(n : ∀w,Qf1 md ops S0 S k w->(execOp a.eval o).run P w=.ok (.enter f args) w)
  (m : ∀w,Qf1 md ops S0 S k w->Calls P f args w fun e w'=>e=.returned c/\ZB w w') (h:Qiy P md ops S0 hv ac TT E L (k+1) S os (a.put o.dst c)):Qiy P md ops S0 hv ac TT E L k S (o::os) a:=by
 refine .inr (.inl ⟨r,q,⟨s,fun w l=>by
  rw[n w l,j]
  exact Calls.mono (m w l) fun e w' d=>⟨c,d.1,rfl,d.2⟩⟩,fun v i=>?_⟩)
 obtain⟨w,b,_⟩:=i
 rw[j] at b
 have g:v=c:=b
 subst g
 exact Qmv _ _ _ _ _ (fun p hp=>List.mem_cons_of_mem _ hp) h
theorem Qqv (T:Value->World->Prop)(c:TT k=T)(b:hv k=false)(d:ac k=true)(e:Region.wanted o (yielded ops a.tmps)=true)
  (f : ∀w,Qf1 md ops S0 S k w->ARun P T w ((execOp a.eval o).run P w)) (h : ∀v,(∃w,T v w/\All4 S0 S w)->Qiy P md ops S0 hv ac TT E L (k+1) ((k,T v)::S) os (a.put o.dst v)):Qiy P md ops S0 hv ac TT E L k S (o::os) a:=by
 subst c
 exact .inr (.inl ⟨b,d,⟨e,f⟩,h⟩)
theorem QbY (b:hv k=true)(h:QiB P ops E L (All4 S0 S) (o::os) a):Qiy P md ops S0 hv ac TT E L k S (o::os) a:=.inr (.inr ⟨b,h⟩)
theorem QbW {S:World->Prop}(h : ∀w,S w->L a w):QiB P ops E L S [] a:=h
theorem Qfo {S:World->Prop}{v:Value}(b:Region.wanted o (yielded ops a.tmps)=true)(c : ∀w,S w->(execOp a.eval o).run P w=.ok (.value v) w)(h:QiB P ops E L S os (a.put o.dst v)):QiB P ops E L S (o::os) a:=.inl ⟨v,.inl ⟨b,c⟩,h⟩
theorem Qhf {S:World->Prop}(b:Region.wanted o (yielded ops a.tmps)=false)(h:QiB P ops E L S os (a.put o.dst undef)):QiB P ops E L S (o::os) a:=.inl ⟨undef,.inr ⟨b,rfl⟩,h⟩
theorem Qcj {S:World->Prop}{f:FuncId}{args:Array Value}(T:Value->World->Prop)(d:Region.wanted o (yielded ops a.tmps)=true)(c : ∀w,S w->(execOp a.eval o).run P w=.ok (.enter f args) w)
  (g : ∀w,S w->Calls P f args w fun e w'=>(∃v,e=.returned v/\T v w')\/∃ch,e=.panicked ch/\E ch w') (h : ∀v,(∃w,T v w)->QiB P ops E L (T v) os (a.put o.dst v)):QiB P ops E L S (o::os) a:=
 .inr ⟨T,⟨d,fun w b=>by rw[c w b];exact g w b⟩,h⟩
theorem QfI {S:World->Prop}(T:Value->World->Prop)(b:Region.wanted o (yielded ops a.tmps)=true)(c : ∀w,S w->Qrv P T E ((execOp a.eval o).run P w))(h : ∀v,(∃w,T v w)->QiB P ops E L (T v) os (a.put o.dst v)):QiB P ops E L S (o::os) a:=
 .inr ⟨T,⟨b,c⟩,h⟩
end
end
def NewB (W:World)(T:TypeId)(cs:Array Value)(v:Value)(w':World):Prop:=∃r,v=.pointer (some ⟨r,0,none⟩)/\W.heap.size<=r/\Blk w' r T cs/\ZB W w'
section
variable {W w w':World} {T:TypeId} {cs:Array Value} {v:Value}
theorem NewB.bel (h:NewB W T cs v w):ZB W w:=by
 obtain⟨_,_,_,_,h⟩:=h
 exact h
theorem NewB.keep (h:NewB W T cs v w)(a:ZB w w'):NewB W T cs v w':=by
 obtain⟨r,h1,h2,b,c⟩:=h
 exact⟨r,h1,h2,b.below a,Qf c a⟩
theorem NewB.at_ {r:Nat}(h:NewB W T cs (.pointer (some ⟨r,0,none⟩)) w):W.heap.size<=r/\Blk w r T cs/\ZB W w:=by
 obtain⟨a,h1,h2,b,c⟩:=h
 have e:r=a:=by
  injection h1 with h1
  injection h1 with h1
  injection h1
 subst e
 exact⟨h2,b,c⟩
theorem NewB.new (T:TypeId)(cs:Array Value)(h:ZB W w):NewB W T cs (.pointer (some ⟨w.heap.size,0,none⟩)) (w.alloc (.cells cs T)):=⟨_,rfl,h.size,Blk.new w _ _,Qa h⟩
end
theorem DeskIs.bank {D:Nat->Prop}{w w':World}{B f i g d n:Nat}{enc lim j:Int}{st:BkS}{e:Array Value}{R:Int->Option (Int × List Int)}(h:DeskIs w B f i g enc lim n st e)(a:BankD D w B d st.mb R j)(m:Fr (fun b=>b=st.mb\/b=d) w w'):DeskIs w' B f i g enc lim n st e:=
 h.alien2 m (fun k _ p=>by
  obtain⟨l,h1,_⟩:=a.map
  have c:=h1.ne_blk h.desk
  obtain⟨es,y,o,_⟩:=h1
  rcases p with rfl|rfl
  ·exact⟨c,.inr ⟨rfl,es,y,o⟩⟩
  ·exact⟨Blk.ne_ a.blk h.desk (by decide),.inl ⟨_,_,a.blk,by decide⟩⟩)
theorem BankD.dfr {D : Nat -> Prop}{w w' : World}{B f mk i : Nat}{g : Int}{k : Array Value}{R : Int -> Option (Int × List Int)}(h : BankD D w B f mk R g)(j : DFr B (· = i) w w')(d : Blk w i 42 k) : BankD D w' B f mk R g := h.fr j (fun b _ m=>by
 rcases m with ⟨_,T,l,a,c⟩|rfl
 ·exact⟨Blk.ne_ a h.blk (fun e=>by subst e;revert c;decide),T,l,a,fun e=>by subst e;revert c;decide⟩
 ·exact⟨Blk.ne_ d h.blk (by decide),_,_,d,by decide⟩)
theorem BankD.set {D:Nat->Prop}{w:World}{B b mk a i:Nat}{c:Int}{e:Array Value}{R:Int->Option (Int × List Int)}(h:BankD D w B b mk R c)(d:Blk w a 42 e)(u:Value):BankD D (w.setCell ⟨a,i,none⟩ u) B b mk R c:=
 h.dfr (DFr.of_x (X:=(· = a)) ((Fr.refl _ _).set1 i u)) d
theorem BankD.keep {D : Nat -> Prop}{w w' : World}{B c mk b : Nat}{g : Int}{R : Int -> Option (Int × List Int)}{T : TypeId}{d : Array Value}(h : BankD D w B c mk R g)(e : Fr (fun b => b = mk \/ b = c) w w')(a : Blk w b T d)(i : T ≠ 125) : Blk w' b T d := a.fr e (fun f=>by
 rcases f with rfl|rfl
 ·exact(Q8 h).2 _ _ a
 ·exact Blk.ne_ a h.blk i rfl)
def RegV (w:World)(kd:Int)(v:Value)(l:List Int):Prop:=∃A m c,v=.agg #[.int .i64 kd,.slice A m c]/\IntsI w A m l
theorem RegV.at_ {w:World}{kd:Int}{A:Option Addr}{m c:Nat}{l:List Int}(h:RegV w kd (.agg #[.int .i64 kd,.slice A m c]) l):IntsI w A m l:=by
 obtain⟨f,d,c',e,h1⟩:=h
 injection e with e
 have b:=congrArg (fun a:Array Value=>a[1]?) e
 simp at b
 obtain⟨rfl,rfl,rfl⟩:=b
 exact h1
noncomputable def QY (a:List (Int × Int))(x:Int)(j:Nat):Int:=(Qo a (Qs a x false)).from_+(mkb (Qbb a (Qs a x false)) j:Int)
def QdV (B c e g d n:Nat)(enc lim:Int)(st:BkS)(f:Array Value)(R:Int->Option (Int × List Int))(h a:Int)(w:World)(w':World):Prop:=
 ∃j:Nat,ClampOk (Qb enc st.ats) a j/\j<=nC (Qbb (Qb enc st.ats) (Qs (Qb enc st.ats) a false))/\DeskIs w' B c e g enc lim n st (f.setIfInBounds 2 (.int .i64 (QY (Qb enc st.ats) a j)))/\BankIs w' B d st.mb R h/\Fr (fun b=>b=c\/b=st.mb\/b=d) w w'
theorem QjB (B o gb g t n O F b2:Nat)(enc lim a b nm k tu at_:Int)(st:BkS)(dc:Array Value)(R:Int->Option (Int × List Int))(w:World)(h:DeskIs w B o gb g enc lim n st dc)(hk:BankIs w B t st.mb R tu)(h1:dc[1]? = some (.pointer (some ⟨t,0,none⟩)))(h2:dc[2]? = some (.int .i64 at_))
  (k0:Blk w O 23 #[.pointer (some ⟨o,0,none⟩)]) (S:Blk w F 29 #[.int .i64 a,.int .i64 b,.int .i64 0]) (k2:Blk w b2 3 #[.int .i64 nm])
  (L:0<=a/\a<b/\b<=(st.ats.length:Int)) (Q:QaC nm=((k,false),true)) (W:k≠46/\k≠58/\k≠47/\k≠95) :
  Calls Tryz.prog 26 #[.pointer (some ⟨O,0,none⟩),.pointer (some ⟨F,0,none⟩),.pointer (some ⟨b2,0,none⟩)] w fun e w'=>e=.returned (.tuple #[])/\QdV B o gb g t n enc lim st dc (Qc7 R (ykF k) 0 (seg a b (st.ats.map Prod.fst))) (ykF k) a w w':=by
 have X:=h.len
 have T:=QqW (st.ats.map Prod.fst) a b L.1 (by omega) (by rw[List.length_map];exact L.2.2)
 unfold QdV
 have a1:=Zh (Qco h a b 0 (.inl rfl) ⟨L.1,by omega,L.2.2⟩)
 have K:=Zh (fun(w':World) (d:ZB w w')=>QfV (h.below d) a b ⟨L.1,by omega,L.2.2⟩)
 obtain⟨xs,a2⟩:=ZN (seg a b (st.ats.map Prod.fst))
 rw[a2] at K T ⊢
 have J:=Zh (fun(w':World) (d:ZB w w') (A:Option Addr) (m c:Nat) (hI:IntsI w' A m xs)=>QhO B t st.mb R tu nm k 0 A m c xs w' (hk.below d) hI (by have:=hI.any.len;omega) Q W (.inl rfl) (by have:=hI.any.len;omega))
 rw[show wrF 0 xs=xs from if_neg (fun hh=>by cases hh.1)] at J
 have q0:(a==b)=false:=by rw[beq_eq_false_iff_ne];omega
 have HH:=Zh h
 have HK:=Zh hk
 have hF : ∀w' l,ZB w w'->Fr (fun b=>b=st.mb\/b=t) w' l->l.cell? ⟨O,0,none⟩=some (.pointer (some ⟨o,0,none⟩))/\l.cell? ⟨o,1,none⟩=some (.pointer (some ⟨t,0,none⟩))/\l.cell? ⟨b2,0,none⟩=some (.int .i64 nm)/\l.cell? ⟨F,0,none⟩=some (.int .i64 a)/\l.cell? ⟨F,1,none⟩=some (.int .i64 b)/\l.cell? ⟨F,2,none⟩=some (.int .i64 0):=fun w' l d s=>by
  have u:=HK.out.below d
  exact⟨(u.keep s (k0.below d) (by decide)).cell 0,((u.keep s (HH.out.below d).desk (by decide)).cell 1).trans h1,(u.keep s (k2.below d) (by decide)).cell 0,(u.keep s (S.below d) (by decide)).cell 0,(u.keep s (S.below d) (by decide)).cell 1,(u.keep s (S.below d) (by decide)).cell 2⟩
 have Y:=Zh hF
 have HB:=Zh (And.intro k0 S)
 have H2:=Zh h2
 obtain⟨E,D,G,C,P,N⟩:=hF w w (Below.refl _ _) (Fr.refl _ _)
 clear h hk h1 h2 k0 S k2 hF a2 T X Q W L
 go_enter Tryz.func26,Tryz.ntmps26
 go_wp2_with fail
 refine(a1.out).mono ?_
 rintro e w1 ⟨rfl,q⟩
 obtain⟨E,D,G,C,P,N⟩:=Y.out w1 w1 q (Fr.refl _ _)
 go_upto_region 3 with fail
 clear E D G C P N q0
 refine Qg (fun w'=>w'.cell? ⟨O,0,none⟩=some (.pointer (some ⟨o,0,none⟩))/\w'.cell? ⟨o,1,none⟩=some (.pointer (some ⟨t,0,none⟩))/\w'.cell? ⟨b2,0,none⟩=some (.int .i64 nm)/\w'.cell? ⟨F,0,none⟩=some (.int .i64 a)/\w'.cell? ⟨F,1,none⟩=some (.int .i64 b)/\w'.cell? ⟨F,2,none⟩=some (.int .i64 0)) (fun w'=>ZB w1 w') (fun k=>k==7 || k==8 || k==9) (fun k=>k==9) (fun _=>false) (by kernel_rfl) (by kernel_rfl) (Below.drew (Below.refl _ _)) (fun w' d=>Y.out w' w' (Qf q d) (Fr.refl _ _)) ?_
 repeat ((first
  |(refine Qc (v:=?_) (by rfl) (by rfl) (fun w6 hSw=>?_) ?_;rotate_left;(·(obtain⟨E,D,G,C,P,N⟩:=hSw;go_simp;try with_reducible rfl)))
  |(refine Qd (v:=?_) (by rfl) (fun w6=>?_) ?_;rotate_left;(·(go_simp;try with_reducible rfl)))
  |refine Qe (by rfl) ?_);(try simp only[Act.put,pA,pB,pC]))
 refine Qn (f:=?_) (args:=?_) (fun v w'=>RegV w' 0 v xs/\ZB w1 w') (by rfl) (by rfl) (fun w6 hSw=>?_) (fun w6 hSw=>?_) (.inr (fun v6 w6 hT6=>?_)) (fun v6 hv6=>?_)
 rotate_left 2
 ·(skip;go_simp;first|done|(constructor<;>with_reducible rfl)|with_reducible rfl)
 ·(refine(K.out _ (Qf q hSw)).mono ?_;rintro e w' ⟨A7,m7,c7,rfl,hI,-,M⟩;exact⟨_,rfl,⟨A7,m7,c7,rfl,hI⟩,Qf hSw M⟩)
 ·(exact Y.out _ _ (Qf q hT6.2) (Fr.refl _ _))
 obtain⟨wz,⟨A7,m7,c7,rfl,-⟩,-⟩:=hv6
 (try simp only[Act.put,pA,pB,pC])
 repeat ((first
  |(refine Qc (v:=?_) (by rfl) (by rfl) (fun w6 hSw=>?_) ?_;rotate_left;(·(obtain⟨E,D,G,C,P,N⟩:=hSw;go_simp;try with_reducible rfl)))
  |(refine Qd (v:=?_) (by rfl) (fun w6=>?_) ?_;rotate_left;(·(go_simp;try with_reducible rfl)))
  |refine Qe (by rfl) ?_);(try simp only[Act.put,pA,pB,pC]))
 refine Qn (f:=?_) (args:=?_) (fun v w'=>v=.int .i64 0/\∃wq,ZB w1 wq/\BankIs w' B t st.mb (Qc7 R (ykF k) 0 xs) (ykF k)/\Fr (fun b=>b=st.mb\/b=t) wq w') (by rfl) (by rfl) (fun w6 hSw=>?_) (fun w6 hSw=>?_) (.inr (fun v6 w6 hT6=>?_)) (fun v6 hv6=>?_)
 rotate_left 2
 ·(skip;go_simp;first|done|(constructor<;>with_reducible rfl)|with_reducible rfl)
 ·(refine(J.out _ (Qf q hSw.2) A7 m7 c7 hSw.1.at_).mono ?_;rintro e w' ⟨rfl,M,a5⟩;exact⟨_,rfl,rfl,w6,hSw.2,M,a5⟩)
 ·(obtain⟨-,wq,hq,-,s⟩:=hT6;exact Y.out _ _ (Qf q hq) s)
 obtain⟨wz,rfl,-⟩:=hv6
 (try simp only[Act.put,pA,pB,pC])
 repeat ((first
  |(refine Qc (v:=?_) (by rfl) (by rfl) (fun w6 hSw=>?_) ?_;rotate_left;(·(obtain⟨E,D,G,C,P,N⟩:=hSw;go_simp;try with_reducible rfl)))
  |(refine Qd (v:=?_) (by rfl) (fun w6=>?_) ?_;rotate_left;(·(go_simp;try with_reducible rfl)))
  |refine Qe (by rfl) ?_);(try simp only[Act.put,pA,pB,pC]))
 refine Qn (f:=?_) (args:=?_) (fun v w'=>v=.tuple #[]/\∃wq,ZB w1 wq/\BankIs w' B t st.mb (Qc7 R (ykF k) 0 xs) (ykF k)/\Fr (fun b=>b=st.mb\/b=t) wq w') (by rfl) (by rfl) (fun w6 hSw=>?_) (fun w6 hSw=>?_) (.inl (by rfl)) (fun v6 hv6=>?_)
 rotate_left 2
 ·(skip;go_simp;first|done|(constructor<;>with_reducible rfl)|with_reducible rfl)
 ·(refine(Qb9 _).mono ?_;rintro e w' ⟨rfl,rfl⟩;exact⟨_,rfl,rfl,hSw.2⟩)
 obtain⟨wz,rfl,-⟩:=hv6
 (try simp only[Act.put,pA,pB,pC])
 repeat ((first
  |(refine Qc (v:=?_) (by rfl) (by rfl) (fun w6 hSw=>?_) ?_;rotate_left;(·(obtain⟨E,D,G,C,P,N⟩:=hSw;go_simp;try with_reducible rfl)))
  |(refine Qd (v:=?_) (by rfl) (fun w6=>?_) ?_;rotate_left;(·(go_simp;try with_reducible rfl)))
  |refine Qe (by rfl) ?_);(try simp only[Act.put,pA,pB,pC]))
 refine Qu ?_
 rintro w4 ⟨-,wq,hq,y,s⟩
 have r:=Qf q hq
 have x:=(HH.out.below r).bank (HK.out.below r) s
 have U:=(HK.out.below r).keep s (HB.out.1.below r) (by decide)
 have I:=(HK.out.below r).keep s (HB.out.2.below r) (by decide)
 have V:Fr (fun b=>b=o\/b=st.mb\/b=t) w w4:=(Fr.of_below r).call s (fun i _ hs=>.inr hs)
 have c2:=I.cell 2
 simp at c2
 have a3:=Zh (fun(w':World) (d:ZB w4 w')=>QbC (x.below d) a)
 have hG : ∀w',ZB w4 w'->w'.cell? ⟨O,0,none⟩=some (.pointer (some ⟨o,0,none⟩))/\w'.cell? ⟨F,0,none⟩=some (.int .i64 a)/\w'.cell? ⟨o,2,none⟩=some (.int .i64 at_)/\w'.frozen? ⟨o,2,none⟩=false:=fun w' d=>⟨(U.below d).cell 0,(I.below d).cell 0,((x.below d).desk.cell 2).trans H2.out,(x.below d).desk.frozen 2⟩
 have HG:=Zh hG
 have Z:=Zh x
 have a7:=Zh y
 have a6:=Zh V
 clear hG x y V U I s hq r Y HB a1 K J q
 go_upto_region 5 with fail
 refine Qg (fun w'=>w'.cell? ⟨O,0,none⟩=some (.pointer (some ⟨o,0,none⟩))/\w'.cell? ⟨F,0,none⟩=some (.int .i64 a)/\w'.cell? ⟨o,2,none⟩=some (.int .i64 at_)/\w'.frozen? ⟨o,2,none⟩=false) (fun w'=>ZB w4 w') (fun k=>k==4 || k==7) (fun k=>k==7) (fun _=>false) (by kernel_rfl) (by kernel_rfl) (Below.drew (Below.refl _ _)) (fun w' d=>HG.out w' d) ?_
 repeat ((first
  |(refine Qc (v:=?_) (by rfl) (by rfl) (fun w6 hSw=>?_) ?_;rotate_left;(·(obtain⟨E,D,G,C⟩:=hSw;go_simp;try with_reducible rfl)))
  |(refine Qd (v:=?_) (by rfl) (fun w6=>?_) ?_;rotate_left;(·(go_simp;try with_reducible rfl)))
  |refine Qe (by rfl) ?_);(try simp only[Act.put,pA,pB,pC]))
 refine Qn (f:=?_) (args:=?_) (fun v w'=>(∃j,v=.int .i64 (QY (Qb enc st.ats) a j)/\ClampOk (Qb enc st.ats) a j/\j<=nC (Qbb (Qb enc st.ats) (Qs (Qb enc st.ats) a false)))/\ZB w4 w') (by rfl) (by rfl) (fun w6 hSw=>?_) (fun w6 hSw=>?_) (.inr (fun v6 w6 hT6=>?_)) (fun v6 hv6=>?_)
 rotate_left 2
 ·(skip;go_simp;first|done|(constructor<;>with_reducible rfl)|with_reducible rfl)
 ·(refine(a3.out _ hSw).mono ?_;rintro e w' ⟨j,rfl,h1,h2,d⟩;exact⟨_,rfl,⟨j,rfl,h1,h2⟩,Qf hSw d⟩)
 ·(exact HG.out _ hT6.2)
 obtain⟨wz,⟨j,rfl,a4,a8⟩,-⟩:=hv6
 (try simp only[Act.put,pA,pB,pC])
 repeat ((first
  |(refine Qc (v:=?_) (by rfl) (by rfl) (fun w6 hSw=>?_) ?_;rotate_left;(·(obtain⟨E,D,G,C⟩:=hSw;go_simp;try with_reducible rfl)))
  |(refine Qd (v:=?_) (by rfl) (fun w6=>?_) ?_;rotate_left;(·(go_simp;try with_reducible rfl)))
  |refine Qe (by rfl) ?_);(try simp only[Act.put,pA,pB,pC]))
 refine Ql (fun _ l=>∃w',ZB w4 w'/\l=w'.setCell ⟨o,2,none⟩ (.int .i64 (QY (Qb enc st.ats) a j))) (by rfl) (by rfl) (fun w6 hSw=>?_) (.inl (by rfl)) (fun v6 hv6=>?_)
 ·(obtain⟨E,D,G,C⟩:=HG.out _ hSw.2;go_simp;exact⟨w6,hSw.2,rfl⟩)
 skip
 (try simp only[Act.put,pA,pB,pC])
 repeat ((first
  |(refine Qc (v:=?_) (by rfl) (by rfl) (fun w6 hSw=>?_) ?_;rotate_left;(·(obtain⟨E,D,G,C⟩:=hSw;go_simp;try with_reducible rfl)))
  |(refine Qd (v:=?_) (by rfl) (fun w6=>?_) ?_;rotate_left;(·(go_simp;try with_reducible rfl)))
  |refine Qe (by rfl) ?_);(try simp only[Act.put,pA,pB,pC]))
 refine Qu ?_
 rintro w5 ⟨w3,H,rfl⟩
 have hd:=(Z.out.below H).set (i:=2) (by decide) (.int .i64 (QY (Qb enc st.ats) a j))
 have y:=(a7.out.below H).set (i:=2) (Z.out.below H).desk (.int .i64 (QY (Qb enc st.ats) a j))
 have a0:Fr (fun b=>b=o\/b=st.mb\/b=t) w (w3.setCell ⟨o,2,none⟩ (.int .i64 (QY (Qb enc st.ats) a j))):=(a6.out.bel H).setCell (p:=⟨o,2,none⟩) (.inl (.inl rfl)) _
 have z:=Zh (And.intro hd (And.intro y a0))
 clear hd y a0
 go_wp2_with fail
 exact bodyPost_ret (results_none rfl _ _ _) rfl ⟨rfl,j,a4,a8,z.out.1,z.out.2.1,z.out.2.2⟩
theorem HRun.fr {P:Program}{T:Value->World->Prop}{E:List PanicEntry->World->Prop}{r:Result Next}(h:HRun P T r):Qrv P T E r:=by
 cases r with
 |ok n w'=>
  cases n<;>simp only[HRun] at h<;>simp only[Qrv]
  case value u=>exact h
  case skip=>exact h
  case enter f args=>exact Calls.mono h fun e b a=>.inl a
 |halt x w'=>simp only[HRun] at h
def OwnI (w:World)(base:Nat)(v:Value)(l:List Int):Prop:=∃A c,v=.slice A l.length c/\l.length<=c/\w.ownsRow base 3 1 v l.length (l.map (Value.int .i64))
theorem OwnI.bel {w w':World}{base:Nat}{v:Value}{l:List Int}(h:OwnI w base v l)(a:ZB w w'):OwnI w' base v l:=by
 obtain⟨A,c,h1,h2,b⟩:=h
 exact⟨A,c,h1,h2,QN b a⟩
theorem OwnI.st (base:Nat)(l:List Int):Qj3 (fun v w'=>OwnI w' base v l):=fun _ _ _ h a=>h.bel a
theorem OwnI.of {w w':World}{base:Nat}{v:Value}{l:List Int}(h:w'.ownsRow w.heap.size 3 1 v l.length (l.map (Value.int .i64)))(a:base<=w.heap.size):OwnI w' base v l:=by
 obtain⟨A,c,rfl,b⟩:=Qj h
 exact⟨A,c,rfl,b,Qan h a⟩
theorem OwnI.at_ {w:World}{base n c:Nat}{A:Option Addr}{l:List Int}(h:OwnI w base (.slice A n c) l):n=l.length/\l.length<=c/\w.ownsRow base 3 1 (.slice A n c) l.length (l.map (Value.int .i64)):=by
 obtain⟨a,c',e,h1,h2⟩:=h
 injection e with e1 e2 e3
 subst e3
 exact⟨e2,h1,h2⟩
theorem OwnI.ints {w:World}{base n c:Nat}{A:Option Addr}{l:List Int}(h:OwnI w base (.slice A n c) l):IntsI w A n l:=by
 obtain⟨rfl,_,h2⟩:=h.at_
 exact IntsI.of_own h2
theorem OwnI.set {w:World}{base g i:Nat}{T:TypeId}{d:Array Value}{v u:Value}{l:List Int}(h:OwnI w base v l)(a:Blk w g T d)(e:3≠T):OwnI (w.setCell ⟨g,i,none⟩ u) base v l:=by
 obtain⟨A,c,h1,h2,b⟩:=h
 exact⟨A,c,h1,h2,Qt b a e⟩
theorem OwnI.low {w:World}{base a:Nat}{v:Value}{l:List Int}(h:OwnI w base v l)(b:a<=base):OwnI w a v l:=by
 obtain⟨A,c,h1,h2,d⟩:=h
 exact⟨A,c,h1,h2,Qan d b⟩
theorem NewB.st (W:World)(T:TypeId)(b:Array Value):Qj3 (fun v w'=>NewB W T b v w'):=fun _ _ _ h a=>h.keep a
theorem RegV.st (kd:Int)(l:List Int):Qj3 (fun v w'=>RegV w' kd v l):=fun _ _ _ h a=>by
 obtain⟨A,m,c,h1,h2⟩:=h
 exact⟨A,m,c,h1,h2.bel a⟩
theorem QeH {P:Program}{T:Value->World->Prop}{E:List PanicEntry->World->Prop}{o:Oper}{a:Act}{s x:Operand}{w:World}(t:TypeId)
  (J:o.op=.call { callee:=.builtin .append,args := #[s,x],argTypes := #[t,t] })
  (base:Nat) (i:TypeInfo) (I:P.underlying t=some (.slice 3)) (D:P.info? 3=some i) (K:i.zero=some (.int .i64 0)) (e:i.size=1) (q:i.bytes=8)
  (v:Value) (l:List Int) (O:a.eval s=v) (n:OwnI w base v l) (A:Option Addr) (m c:Nat) (ys:List Int) (G:a.eval x=.slice A m c) (F:OwnI w base (.slice A m c) ys) (B:l.length+ys.length<=268435456) (r:ys≠[]) (d:base<=w.heap.size)
  (h : ∀v' w',OwnI w' base v' (l++ys)->w.grownBy w' v.ownBlock->T v' w'):Qrv P T E ((execOp a.eval o).run P w):=by
 obtain⟨S,c0,rfl,N,b⟩:=n
 obtain⟨rfl,H,k⟩:=F.at_
 have f:0<ys.length:=List.length_pos_iff.2 r
 obtain⟨g,cap,C,R,Q⟩:=k.form f
 have M:A=some ⟨g,0,none⟩:=by injection C
 subst M
 refine HRun.fr (Q5 t J base 3 i (.int .i64 0) 1 8 I D K e q rfl (by decide) _ l.length _ O b ⟨g,0,none⟩ ys.length c (ys.map (Value.int .i64)) G (by simp) (fun j u p=>k.cells (g:=g) rfl j u p) (fun u p=>by
  obtain⟨z,_,rfl⟩:=List.mem_map.1 p
  rfl) (by unfold maxLen;omega) (by omega) d (fun v' w' h1 h2 _ _=>h v' w' ?_ h2))
 rw[<-List.map_append,<-List.length_append] at h1
 obtain⟨L,c',rfl,y⟩:=Qj h1
 exact⟨L,c',rfl,y,h1⟩
def QcM (c:List (Int × Int))(a b nv:Int):List Int:=
 seg (Qo c (Qs c a false)).from_ (Qo c (Qs c (max a (b-1)) false)).next (c.map Prod.fst)++(if (Qo c (Qs c (max a (b-1)) false)).brk=0 then Qqt nv else [])
theorem Qqr (k:Int):Qqt k≠[]:=by unfold Qqt;(repeat' split)<;>simp
theorem Qj5 (k:Int):(Qqt k).length<=2:=by unfold Qqt;(repeat' split)<;>simp
theorem QhN {w w1 w6:World}{B b c:Nat}{A:Option Addr}{xs:List Int}(e:ZB w w1)(k:Blk w6 b 66 #[.int .i64 0,.slice none 0 0])(l:b<w1.heap.size)(f:OwnI w6 B (.slice A xs.length c) xs)(j:ZB w1 w6)(a:w.heap.size<=b:=by omega) :
  ((w6.setCell ⟨b,0,none⟩ (.int .i64 1)).setCell ⟨b,1,none⟩ (.slice A xs.length c)).cell? ⟨b,0,none⟩=some (.int .i64 1)/\((w6.setCell ⟨b,0,none⟩ (.int .i64 1)).setCell ⟨b,1,none⟩ (.slice A xs.length c)).cell? ⟨b,1,none⟩=some (.slice A xs.length c) /\
  Qd6 1 xs w (.returned (.agg #[.int .i64 1,.slice A xs.length c])) ((w6.setCell ⟨b,0,none⟩ (.int .i64 1)).setCell ⟨b,1,none⟩ (.slice A xs.length c)):=by
 have h:=(Qp (((k.set_ 0 (.int .i64 1)).set_ 1 (.slice A xs.length c)).eq_ (show _ = #[.int .i64 1,.slice A xs.length c] by simp))).1
 have d:=(f.set k (i:=0) (u:=.int .i64 1) (by decide)).set (k.set_ 0 _) (i:=1) (u:=.slice A xs.length c) (by decide)
 exact⟨h.1,h.2,A,xs.length,c,rfl,d.ints,f.at_.2.1,((Qf e j).setCell (p:=⟨b,0,none⟩) a _).setCell (p:=⟨b,1,none⟩) a _⟩
section
variable {B gd gb g n:Nat} {enc lim:Int} {st:BkS} {dc:Array Value} {w:World}
theorem Qfc (h:DeskIs w B gd gb g enc lim n st dc)(a b nv:Int)(ha:0<=a/\a<=b/\b<=(st.ats.length:Int))(h9:dc[9]? = some (.int .i64 nv))(d4:1<=nv/\nv<=3) :
  Calls Tryz.prog 30 #[.pointer (some ⟨gd,0,none⟩),.agg #[.int .i64 a,.int .i64 b,.int .i64 1]] w fun e w'=>Qd6 1 (QcM (Qb enc st.ats) a b nv) w e w':=by
 have b3:=h.len
 have hp:=h.pos
 unfold QcM
 have E:=Zh (fun(w':World) (i:ZB w w')=>Qfx (h.below i) a b 1 ha)
 have hf:=QaO (Qb enc st.ats) a false
 have hl:=QaO (Qb enc st.ats) (max a (b-1)) false
 obtain⟨f,b5⟩:=ZN (Qs (Qb enc st.ats) a false)
 obtain⟨l,a2⟩:=ZN (Qs (Qb enc st.ats) (max a (b-1)) false)
 rw[b5] at E hf ⊢
 rw[a2] at E hl ⊢
 have Z:=Q3 hp hf
 have o:=Q3 hp hl
 have J:=Zh (fun(w':World) (i:ZB w w')=>QdU (h.below i) f hf)
 have F:=Zh (fun(w':World) (i:ZB w w')=>QdU (h.below i) l hl)
 obtain⟨⟨x0,x1,x2,x3⟩,a6⟩:∃L,Qo (Qb enc st.ats) f=L:=⟨_,rfl⟩
 obtain⟨⟨y0,y1,P,N⟩,a1⟩:∃L,Qo (Qb enc st.ats) l=L:=⟨_,rfl⟩
 rw[a6] at J Z ⊢
 rw[a1] at F o ⊢
 simp only[Ln.cells] at J F
 dsimp only at Z o ⊢
 rw[Qr] at Z o
 rw[Qaq]
 have G:=fun(w':World) (i:ZB w w')=>Qap Any g enc (Qb enc st.ats) x0 P w' (h.below i).at_ (by omega) (by omega)
 rw[Qaq] at G
 have b9:(seg x0 P (st.ats.map Prod.fst)).length<=65536:=by
  unfold seg
  rw[List.length_take,List.length_drop,List.length_map]
  omega
 obtain⟨C,hC⟩:=ZN (seg x0 P (st.ats.map Prod.fst))
 rw[hC] at G b9 ⊢
 have b1:=Zh G
 have HT:=Zh (fun(w':World) (i:ZB w w')=>Qae (h.below i))
 have d5:=Zh (fun(w':World) (i:ZB w w')=>Qgk gd dc nv w' (h.below i).desk h9 d4)
 have a4:=Zh (fun w'=>QiZ nv w' (by omega))
 have d6:=Qj5 nv
 have b4:=Qqr nv
 obtain⟨BA,a7⟩:=ZN (Qqt nv)
 rw[a7] at a4 d6 b4 ⊢
 obtain⟨XS,X⟩:=ZN (C++(if N=0 then BA else []))
 rw[X]
 have H:=Zh X
 clear X
 have D:ZB w ((w.alloc (.cells #[.int .i64 a,.int .i64 b,.int .i64 1] 29)).alloc (.cells #[.int .i64 0,.slice none 0 0] 66)):=Qa (Qa (Below.refl _ _))
 have k1:Blk ((w.alloc (.cells #[.int .i64 a,.int .i64 b,.int .i64 1] 29)).alloc (.cells #[.int .i64 0,.slice none 0 0] 66)) w.heap.size 29 #[.int .i64 a,.int .i64 b,.int .i64 1]:=(Blk.new w _ _).alloc _
 have k2:Blk ((w.alloc (.cells #[.int .i64 a,.int .i64 b,.int .i64 1] 29)).alloc (.cells #[.int .i64 0,.slice none 0 0] 66)) (w.heap.size+1) 66 #[.int .i64 0,.slice none 0 0]:=Blk.new' (by simp)
 clear h G hC b3 hp hf hl b5 a2 a6 a1 h9 a7 ha
 go_enter Tryz.func30,Tryz.ntmps30
 go_upto_region 1 with fail
 obtain⟨w1,a8⟩:∃x,(w.alloc (.cells #[.int .i64 a,.int .i64 b,.int .i64 1] 29)).alloc (.cells #[.int .i64 0,.slice none 0 0] 66)=x:=⟨_,rfl⟩
 rw[a8] at D k1 k2 ⊢
 clear a8
 obtain⟨c0,c1,c2⟩:=QaR k1
 have m:=Zh k2
 clear k1 k2
 go_wp2_with fail
 refine(E.out _ D).mono ?_
 rintro e w2 ⟨rfl,R⟩
 have T:=Qf D R
 clear c0 c1 c2
 go_wp2_with fail
 refine(F.out _ T).mono ?_
 rintro e w3 ⟨rfl,U⟩
 have a5:=Qf T U
 go_upto_region 5 with fail
 have I:Blk (w3.alloc (.cells #[.int .i64 y0,.int .i64 y1,.int .i64 P,.int .i64 N] 59)) w3.heap.size 59 #[.int .i64 y0,.int .i64 y1,.int .i64 P,.int .i64 N]:=Blk.new _ _ _
 have t:ZB w (w3.alloc (.cells #[.int .i64 y0,.int .i64 y1,.int .i64 P,.int .i64 N] 59)):=Qa a5
 have z:ZB w1 (w3.alloc (.cells #[.int .i64 y0,.int .i64 y1,.int .i64 P,.int .i64 N] 59)):=Qa (Qf R U)
 obtain⟨rl,a9⟩:∃x,w3.heap.size=x:=⟨_,rfl⟩
 obtain⟨w4,M⟩:∃x,w3.alloc (.cells #[.int .i64 y0,.int .i64 y1,.int .i64 P,.int .i64 N] 59)=x:=⟨_,rfl⟩
 rw[a9] at I ⊢
 rw[M] at I t z ⊢
 clear a9 M T a5 R U
 have Y:=Zh I
 clear I
 refine Qah (fun w'=>ZB w4 w') (fun k=>k==11) ([(1,fun v _=>v=.pointer (some ⟨g,0,none⟩)),(4,fun v _=>v=.agg #[.int .i64 x0,.int .i64 x1,.int .i64 x2,.int .i64 x3]),(8,fun v w'=>OwnI w' w4.heap.size v C),(10,fun v w'=>NewB w4 66 #[.int .i64 0,.slice none 0 0] v w')]) (fun _ _=>False) (by kernel_rfl) (by kernel_rfl) (Below.drew (Below.refl _ _)) (fun _ _ h i=>Qf h i) (⟨fun _ _ _ h _=>h,fun _ _ _ h _=>h,OwnI.st _ _,NewB.st _ _ _,trivial⟩) (fun _ _ _ _ h=>h.elim) ?_
 repeat ((first
  |(refine QU (v:=?_) (by rfl) (by rfl) (by rfl) (fun w6 hSw=>?_) ?_;rotate_left;(·(skip;go_simp;try with_reducible rfl)))
  |refine Qak (by rfl) (by rfl) (by rfl) ?_);(try simp only[Act.put,pA,pB,pC]))
 refine QaP (f:=?_) (args:=?_) (.pointer (some ⟨g,0,none⟩)) (by rfl) (by rfl) (by rfl) (by rfl) (fun w6 hSw=>?_) (fun w6 hSw=>?_) ?_
 rotate_left 2
 ·(skip;go_simp;first|done|(constructor<;>with_reducible rfl)|with_reducible rfl)
 ·(refine(HT.out _ (Qf t hSw.1)).mono ?_;rintro e w' ⟨rfl,rfl⟩;exact⟨rfl,Below.refl _ _⟩)
 (try simp only[Act.put,pA,pB,pC])
 repeat ((first
  |(refine QU (v:=?_) (by rfl) (by rfl) (by rfl) (fun w6 hSw=>?_) ?_;rotate_left;(·(skip;go_simp;try with_reducible rfl)))
  |refine Qak (by rfl) (by rfl) (by rfl) ?_);(try simp only[Act.put,pA,pB,pC]))
 refine QaP (f:=?_) (args:=?_) (.agg #[.int .i64 x0,.int .i64 x1,.int .i64 x2,.int .i64 x3]) (by rfl) (by rfl) (by rfl) (by rfl) (fun w6 hSw=>?_) (fun w6 hSw=>?_) ?_
 rotate_left 2
 ·(skip;go_simp;first|done|(constructor<;>with_reducible rfl)|with_reducible rfl)
 ·(refine(J.out _ (Qf t hSw.1)).mono ?_;rintro e w' ⟨rfl,i⟩;exact⟨rfl,i⟩)
 (try simp only[Act.put,pA,pB,pC])
 repeat ((first
  |(refine QU (v:=?_) (by rfl) (by rfl) (by rfl) (fun w6 hSw=>?_) ?_;rotate_left;(·(have d3:=(Y.out.below hSw.1).cell 2;have e2 := @QqJ x0 x1 x2 x3;simp at d3;go_simp;try with_reducible rfl)))
  |refine Qak (by rfl) (by rfl) (by rfl) ?_);(try simp only[Act.put,pA,pB,pC]))
 refine Qcq (f:=?_) (args:=?_) (fun v w'=>OwnI w' w4.heap.size v C) (by rfl) (by rfl) (by rfl) (by rfl) (fun w6 hSw=>?_) (fun w6 hSw=>?_) (fun v6 hv6=>?_)
 rotate_left 2
 ·(skip;go_simp;first|done|(constructor<;>with_reducible rfl)|with_reducible rfl)
 ·(refine(b1.out _ (Qf t hSw.1)).mono ?_;rintro e w' ⟨v,rfl,ho,i⟩;exact⟨v,rfl,OwnI.of ho hSw.1.size,i⟩)
 obtain⟨wz,⟨A9,c9,rfl,e3,-⟩,-⟩:=hv6
 (try simp only[Act.put,pA,pB,pC])
 repeat ((first
  |(refine QU (v:=?_) (by rfl) (by rfl) (by rfl) (fun w6 hSw=>?_) ?_;rotate_left;(·(skip;go_simp;try with_reducible rfl)))
  |refine Qak (by rfl) (by rfl) (by rfl) ?_);(try simp only[Act.put,pA,pB,pC]))
 refine Qqv (fun v w'=>NewB w4 66 #[.int .i64 0,.slice none 0 0] v w') (by rfl) (by rfl) (by rfl) (by rfl) (fun w6 hSw=>?_) (fun v6 hv6=>?_)
 ·(go_simp;exact⟨NewB.new _ _ hSw.1,Qa (Below.refl _ _)⟩)
 obtain⟨wz,⟨r,rfl,-⟩,-⟩:=hv6
 (try simp only[Act.put,pA,pB,pC])
 refine QbY (by rfl) ?_
 refine QfI (fun _ w'=>NewB w4 66 #[.int .i64 1,.slice A9 C.length c9] (.pointer (some ⟨r,0,none⟩)) w'/\OwnI w' w4.heap.size (.slice A9 C.length c9) C) (by rfl) (fun w6 hSw=>?_) (fun v6 hv6=>?_)
 ·(have hn:=hSw.2 _ List.mem_cons_self;have K:=hSw.2 _ (List.mem_cons_of_mem _ List.mem_cons_self);dsimp only at hn K;obtain⟨u,c,o⟩:=hn.at_;have e0:=c.cell 0;have V:=c.cell 1;have f0:=c.frozen 0;have f1:=c.frozen 1;simp at e0 V;go_simp;exact⟨⟨r,rfl,u,((c.set_ 0 _).set_ 1 _).eq_ (by simp),(o.setCell (p:=⟨r,0,none⟩) u _).setCell (p:=⟨r,1,none⟩) u _⟩,(K.set c (by decide)).set (c.set_ 0 _) (by decide)⟩)
 skip
 (try simp only[Act.put,pA,pB,pC])
 refine QbW ?_
 rintro w5 ⟨hN,K⟩
 obtain⟨u,c,y⟩:=hN.at_
 have c5:=Qf t y
 have s:=Qf z y
 have b2:=Y.out.below y
 have z3:=b2.cell 3
 simp only[List.getElem?_toArray,List.getElem?_cons_succ,List.getElem?_cons_zero] at z3
 have e4:=t.size
 have b0:=z.size
 have d8:w.heap.size+1≠r:=by have:=m.out.lt;omega
 clear hN hv6 Y J b1 HT E F b2
 by_cases h3:N=0
 ·subst h3
  have hX:C++BA=XS:=by have:=H.out;rwa [if_pos rfl] at this
  have HX:=Zh hX
  clear hX H
  go_upto_region 7 with fail
  clear z3
  have S:=Zh c
  have W:=Zh K
  obtain⟨i0,b8,c3,c6,c4⟩:=info_parts Qa3
  clear c K
  refine Qah (fun w'=>ZB w5 w') (fun k=>k==5) ([(3,fun v _=>v=.int .i64 nv),(4,fun v w'=>OwnI w' w5.heap.size v BA)]) (fun _ _=>False) (by kernel_rfl) (by kernel_rfl) (Below.drew (Below.refl _ _)) (fun _ _ h i=>Qf h i) (⟨fun _ _ _ h _=>h,OwnI.st _ _,trivial⟩) (fun _ _ _ _ h=>h.elim) ?_
  repeat ((first
   |(refine QU (v:=?_) (by rfl) (by rfl) (by rfl) (fun w6 hSw=>?_) ?_;rotate_left;(·(have V:=(S.out.below hSw.1).cell 1;simp at V;go_simp;try with_reducible rfl)))
   |refine Qak (by rfl) (by rfl) (by rfl) ?_);(try simp only[Act.put,pA,pB,pC]))
  refine QaP (f:=?_) (args:=?_) (.int .i64 nv) (by rfl) (by rfl) (by rfl) (by rfl) (fun w6 hSw=>?_) (fun w6 hSw=>?_) ?_
  rotate_left 2
  ·(skip;go_simp;first|done|(constructor<;>with_reducible rfl)|with_reducible rfl)
  ·(refine(d5.out _ (Qf c5 hSw.1)).mono ?_;rintro e w' ⟨rfl,rfl⟩;exact⟨rfl,Below.refl _ _⟩)
  (try simp only[Act.put,pA,pB,pC])
  refine Qcq (f:=?_) (args:=?_) (fun v w'=>OwnI w' w5.heap.size v BA) (by rfl) (by rfl) (by rfl) (by rfl) (fun w6 hSw=>?_) (fun w6 hSw=>?_) (fun v6 hv6=>?_)
  rotate_left 2
  ·(skip;go_simp;first|done|(constructor<;>with_reducible rfl)|with_reducible rfl)
  ·(refine(a4.out _).mono ?_;rintro e w' ⟨v,rfl,ho,i⟩;exact⟨v,rfl,OwnI.of ho hSw.1.size,i⟩)
  obtain⟨wz,⟨A8,c8,rfl,d9,-⟩,-⟩:=hv6
  (try simp only[Act.put,pA,pB,pC])
  refine QbY (by rfl) ?_
  refine QfI (fun v w'=>OwnI w' w4.heap.size v XS/\NewB w4 66 #[.int .i64 1,.slice A9 C.length c9] (.pointer (some ⟨r,0,none⟩)) w'/\ZB w1 w') (by rfl) (fun w6 hSw=>?_) (fun v6 hv6=>?_)
  ·(have hB:=hSw.2 _ List.mem_cons_self;dsimp only at hB;refine QeH 36 rfl w4.heap.size i0 Tryz.underlying36 b8 c3 c6 c4 _ C rfl (W.out.bel hSw.1) A8 _ c8 BA rfl (hB.low y.size) (by omega) b4 (Nat.le_trans y.size hSw.1.size) (fun v' w' h1 h2=>?_);have b6:=fun k (hk:Value.ownBlock (.slice A9 C.length c9)=some k)=>QaV ((W.out.bel hSw.1).at_.2.2) hk;exact⟨HX.out▸h1,⟨r,rfl,u,((S.out.below hSw.1).grown h2 (fun e=>Qk ((W.out.bel hSw.1).at_.2.2) (S.out.below hSw.1) (by decide) e.symm)),Qy (Qf y hSw.1) h2 b6⟩,Qy (Qf s hSw.1) h2 (fun k hk=>by have:=b6 k hk;omega)⟩)
  obtain⟨wz,⟨A7,c7,rfl,d7,-⟩,-⟩:=hv6
  (try simp only[Act.put,pA,pB,pC])
  repeat ((first
   |(refine Qfo (v:=?_) (by rfl) (fun w6 hSw=>?_) ?_;rotate_left;(·(skip;go_simp;try with_reducible rfl)))
   |refine Qhf (by rfl) ?_);(try simp only[Act.put,pA,pB,pC]))
  refine QfI (fun _ w'=>OwnI w' w4.heap.size (.slice A7 XS.length c7) XS/\NewB w4 66 #[.int .i64 1,.slice A7 XS.length c7] (.pointer (some ⟨r,0,none⟩)) w'/\ZB w1 w') (by rfl) (fun w6 hSw=>?_) (fun v6 hv6=>?_)
  ·(obtain⟨K,hn,d2⟩:=hSw;obtain⟨Q,c,o⟩:=hn.at_;have V:=c.cell 1;have f1:=c.frozen 1;simp at V;go_simp;exact⟨K.set c (by decide),⟨r,rfl,Q,(c.set_ 1 _).eq_ (by simp),o.setCell (p:=⟨r,1,none⟩) Q _⟩,d2.setCell (p:=⟨r,1,none⟩) (Nat.le_trans b0 u) _⟩)
  skip
  (try simp only[Act.put,pA,pB,pC])
  refine QbW ?_
  rintro w6 ⟨a3,a0,A⟩
  obtain⟨-,O,b7⟩:=a0.at_
  have j:=QhN D (m.out.below A) (m.out.lt) a3 A
  obtain⟨⟨e0,V⟩,-⟩:=Qp O
  obtain⟨⟨d0,d1⟩,f0,f1⟩:=Qp (m.out.below A)
  have d:=Zh j
  clear j a3 O a0 b7 hv6
  go_wp2_with fail
  exact bodyPost_ret (v:=.agg #[.int .i64 1,.slice A7 XS.length c7]) (by simp[results,Tryz.results30,go_sem,d.out.1,d.out.2.1]) rfl d.out.2.2
 ·have hX:C=XS:=by have:=H.out;rwa [if_neg h3,List.append_nil] at this
  subst hX
  have q:(N==0)=false:=by rw[beq_eq_false_iff_ne];exact h3
  have j:=QhN D (m.out.below s) (m.out.lt) K s
  obtain⟨⟨e0,V⟩,-⟩:=Qp c
  obtain⟨⟨d0,d1⟩,f0,f1⟩:=Qp (m.out.below s)
  have d:=Zh j
  clear j K c h3 H
  go_wp2_with fail
  exact bodyPost_ret (v:=.agg #[.int .i64 1,.slice A9 C.length c9]) (by simp[results,Tryz.results30,go_sem,d.out.1,d.out.2.1]) rfl d.out.2.2
end
theorem IntsI.reads {w:World}{A:Option Addr}{n:Nat}{l:List Int}(h:IntsI w A n l)(D:Nat->Prop)(d : ∀b,(∃c,Blk w b 3 c)->D b):Ints w D A n l:=by
 unfold IntsI at h
 exact Reads.more (D':=D) h (fun b a _=>d b a) (by decide)
theorem QnO {enc:Int}{l:List Int}{K:Nat}(c:QfY enc l (K:Int)=0)(d:Fit enc l)(p:l.length<=140000):K*l.length<=2000000:=by
 have h1:=Qm1 enc l d
 have h2:=Qge enc l
 have b : ¬(l.any (fun x=>szA enc x==0)=true):=by
  rw[List.any_eq_true]
  rintro⟨x,i,h⟩
  have:=d x i
  simp at h
  omega
 unfold QfY at c
 rw[if_neg b] at c
 split at c
 ·omega
 ·rename_i a
  rcases Nat.eq_zero_or_pos l.length with e|e
  ·rw[e];omega
  ·obtain⟨S,k⟩:=ZN (Qcc enc l)
   rw[k] at h1 h2 a
   have m:S*(131072 / S)<=131072:=Int.mul_ediv_self_le (by omega)
   obtain⟨Q,f⟩:=ZN ((131072:Int) / S)
   have n:0<=Q:=by rw[<-f];exact Int.ediv_nonneg (by decide) (by omega)
   rw[f] at m a
   have j:(K:Int)<=Q+2:=by omega
   have g:(K:Int)*(l.length:Int)<=(Q+2)*S:=Int.mul_le_mul j h1 (by omega) (by omega)
   rw[Int.add_mul,Int.mul_comm Q S] at g
   have o:((K*l.length:Nat):Int)=(K:Int)*(l.length:Int):=by simp
   omega
theorem Qi1 {w:World}{b:Nat}{x y:Int}{A:Option Addr}{n c:Nat}{xs:List Int}(d:Blk w b 89 #[.int .i64 x,.int .i64 y,.slice A n c])(i:IntsI w A n xs) :
  EdsAt w (fun b=>(∃a,Blk w b 3 a)\/∃a,Blk w b 89 a) (some ⟨b,0,none⟩) 1 [⟨x,y,A,n,c,xs⟩]:=by
 refine⟨⟨rfl,fun _=>⟨_,rfl,.inr ⟨_,d⟩,fun j u f=>?_⟩⟩,fun e g=>?_⟩
 ·rw[QaF,d.cell,Nat.zero_add]
  simp only[Ed.cells,List.flatMap_cons,List.flatMap_nil,List.append_nil] at f
  rw[<-f]
  simp
 ·simp at g
  subst g
  exact i.reads _ (fun b h=>.inl h)
def Qr5 (B b d g ba:Nat)(enc lim:Int)(n:Nat)(st:BkS)(o:OpS)(a:Array Value)(P:List Int)(x:Int)(w:World)(e:Ending)(w':World):Prop:=
 ∃(A:Option Addr) (c j:Nat) (T:Int),T=(if QcF P=true then x else x+P.length-1)/\e=.returned (.int .i64 (QY (Qb enc (edA [QA x P A c] st.ats)) T j))/\QbN enc lim (Qb enc st.ats) [QA x P A c]=0/\ClampOk (Qb enc (edA [QA x P A c] st.ats)) T j/\j<=nC (Qbb (Qb enc (edA [QA x P A c] st.ats)) (Qs (Qb enc (edA [QA x P A c] st.ats)) T false)) /\
  DeskIs w' B b d g enc lim (n+131072) { st with ats:=edA [QA x P A c] st.ats,now:=some { o with moves:=o.moves++[[QA x P A c].map QiD],changed:=o.changed || [QA x P A c].any chg } } a/\DFr B (· = ba) w w'
def Qq4 (B b d g ba:Nat)(enc lim:Int)(n:Nat)(st:BkS)(a:Array Value)(l P:List Int)(K:Nat)(x:Int)(w:World)(e:Ending)(w':World):Prop:=
 ∃c:Int,c≠0/\(c=QfY enc l K\/∃A k,c=QbN enc lim (Qb enc st.ats) [QA x P A k])/\e=.panicked [Qal c]/\DeskIs w' B b d g enc lim n st a/\DFr B (· = ba) w w'
theorem Qlk (B gd gb g n b0 br bc ba bu:Nat)(enc lim x cnt:Int)(up:Bool)(st:BkS)(o:OpS)(dc:Array Value)(A:Option Addr)(N c K:Nat)(l:List Int)(w:World)(h:DeskIs w B gd gb g enc lim n st dc)(hn:st.now=some o)(h8:o.moves.length<1048576)
  (k0:Blk w b0 23 #[.pointer (some ⟨gd,0,none⟩)]) (kr:Blk w br 66 #[.int .i64 0,.slice A N c]) (kc:Blk w bc 3 #[.int .i64 cnt]) (ka:Blk w ba 3 #[.int .i64 x]) (ku:Blk w bu 4 #[.bool up])
  (hl:Ints w Any A N l) (hN:N<=140000) (hK:min cnt 9999=(K:Int)) (h4:1<=K) (hx:0<=x/\x<=(st.ats.length:Int)) (h7:n+131072<=1073741824) :
  Calls Tryz.prog 37 #[.pointer (some ⟨b0,0,none⟩),.pointer (some ⟨br,0,none⟩),.pointer (some ⟨bc,0,none⟩),.pointer (some ⟨ba,0,none⟩),.pointer (some ⟨bu,0,none⟩)] w fun e w'=>
   Qr5 B gd gb g ba enc lim n st o dc (QP l K) (QkC (Qb enc st.ats) up x) w e w'\/Qq4 B gd gb g ba enc lim n st dc l (QP l K) K (QkC (Qb enc st.ats) up x) w e w':=by
 have hp:=h.pos
 have i2:=h.len
 have c5:=QqG hp up hx.1 (by rw[Qr];exact hx.2)
 have a4:=Qfl (Qb enc st.ats) x
 have g0:=QlR hp hx.1 (by rw[Qr];exact hx.2)
 have b5:=Q3 hp a4
 have Q:=QaE hp a4
 have a3:=hl.len
 rw[Qr] at b5 c5
 have W := Zh (fun(z:Int) (hz:z=(K:Int))=>by
  have:=Qik h Any A N c K l hl hN ⟨h4,by omega⟩
  rw[<-hz] at this
  exact this)
 have a5:=Zh (fun(w':World) (a:ZB w w')=>QdU (h.below a) (ofF (Qb enc st.ats) x) a4)
 have f6:=Zh (fun(w':World) (a:ZB w w')=>Qfm Any g enc (Qb enc st.ats) x w' (h.below a).at_)
 have d0:=fun(f t:Int) (h1:0<=f) (h2:t<=2147483648) (w':World) (a:ZB w w')=>Qap Any g enc (Qb enc st.ats) f t w' (h.below a).at_ (by omega) h2
 have y:=d0 (Qo (Qb enc st.ats) (ofF (Qb enc st.ats) x)).from_ (Qo (Qb enc st.ats) (ofF (Qb enc st.ats) x)).to_ (by omega) (by omega)
 have HT:=Zh (fun(w':World) (a:ZB w w')=>Qae (h.below a))
 have hcont:seg (Qo (Qb enc st.ats) (ofF (Qb enc st.ats) x)).from_ (Qo (Qb enc st.ats) (ofF (Qb enc st.ats) x)).to_ ((Qb enc st.ats).map Prod.fst)=Qbb (Qb enc st.ats) (ofF (Qb enc st.ats) x):=rfl
 rw[hcont] at y
 have hX:QkC (Qb enc st.ats) up x=if up=false/\(Qo (Qb enc st.ats) (ofF (Qb enc st.ats) x)).from_<(Qo (Qb enc st.ats) (ofF (Qb enc st.ats) x)).to_ then (Qo (Qb enc st.ats) (ofF (Qb enc st.ats) x)).from_+(Qec (Qbb (Qb enc st.ats) (ofF (Qb enc st.ats) x)) (x-(Qo (Qb enc st.ats) (ofF (Qb enc st.ats) x)).from_).toNat:Nat) else x:=rfl
 obtain⟨X,c4⟩:=ZN (QkC (Qb enc st.ats) up x)
 rw[c4] at hX c5 ⊢
 obtain⟨C,hC⟩:=ZN (Qbb (Qb enc st.ats) (ofF (Qb enc st.ats) x))
 rw[hC] at hX Q y
 have d1:=Qj8 C
 obtain⟨⟨x0,x1,x2,x3⟩,hL⟩:∃L,Qo (Qb enc st.ats) (ofF (Qb enc st.ats) x)=L:=⟨_,rfl⟩
 obtain⟨i,hi⟩:=ZN (ofF (Qb enc st.ats) x)
 rw[hL] at hX Q b5 g0 y
 rw[hi] at a5 f6 hL
 rw[hL] at a5
 dsimp only at hX Q b5 g0 y
 simp only[Ln.cells] at a5
 obtain⟨P,T⟩:=ZN (QP l K)
 have g1:P.length=K*N:=by rw[<-T,QbG,a3]
 rw[T] at ⊢
 have f4:=Zh T
 have f8:QfY enc l K=0->Fit enc l->P.length<=2000000:=fun I hf=>by
  rw[g1]
  have:=QnO I hf (by omega)
  rwa [a3] at this
 have h3:=Zh f8
 have c2:=Zh y
 have HH:=Zh h
 have h6:=Zh hn
 have HX:=Zh hX
 have g5:=Zh Q
 have i1:=Zh d1
 have hF : ∀w',ZB w w'->w'.cell? ⟨b0,0,none⟩=some (.pointer (some ⟨gd,0,none⟩))/\w'.cell? ⟨br,0,none⟩=some (.int .i64 0)/\w'.cell? ⟨br,1,none⟩=some (.slice A N c)/\w'.cell? ⟨bc,0,none⟩=some (.int .i64 cnt)/\w'.cell? ⟨ba,0,none⟩=some (.int .i64 x)/\w'.frozen? ⟨ba,0,none⟩=false/\w'.cell? ⟨bu,0,none⟩=some (.bool up):=fun w' a=>
  ⟨(k0.below a).cell 0,(kr.below a).cell 0,(kr.below a).cell 1,(kc.below a).cell 0,(ka.below a).cell 0,(ka.below a).frozen 0,(ku.below a).cell 0⟩
 have HF:=Zh hF
 have U:=Zh ka
 have c6:=Zh k0
 obtain⟨J,y1,y2,y3,M,V,y6⟩:=hF w (Below.refl _ _)
 clear hF h hn k0 kr kc ka ku hl hX c4 hC hL hi T d0 y hcont Q d1 f8 a4 hp g1 a3
 go_enter Tryz.func37,Tryz.ntmps37
 go_upto_region 1 with fail
 go_cut [6] (fun s wx=>∃S H,s=.slice S P.length H/\P.length<=H/\Hid (wx.ownsRow w.heap.size 3 1 (.slice S P.length H) P.length (P.map (Value.int .i64)))/\Hid (QfY enc l K=0/\Fit enc l)/\ZB w wx)
 case first=>
  rcases Qd9 9999 cnt with h9|h9
  ·have p1:(9999<cnt)=True:=by simp;omega
   have HO:=Zh (W.out 9999 (by omega))
   clear hK W h9
   go_wp2_with fail
   refine(HO.out).mono ?_
   intro e w1 T
   unfold Qcf at T
   rw[f4.out] at T
   rcases T with ⟨I,G,v,rfl,ho,D⟩|⟨I,rfl,D⟩
   ·obtain⟨S,H,rfl,a6⟩:=Qj ho
    have HR:=Zh (And.intro ho (And.intro I G))
    clear ho I G
    go_wp2_with fail
    go_meet
    exact⟨S,H,rfl,a6,Zh HR.out.1,Zh HR.out.2,D⟩
   ·go_wp2_with fail
    exact⟨rfl,.inr ⟨_,I,.inl rfl,rfl,HH.out.below D,DFr.of_below D⟩⟩
  ·have p1:(9999<cnt)=False:=by simp;omega
   have HO:=Zh (W.out cnt (by omega))
   clear hK W h9
   go_wp2_with fail
   refine(HO.out).mono ?_
   intro e w1 T
   unfold Qcf at T
   rw[f4.out] at T
   rcases T with ⟨I,G,v,rfl,ho,D⟩|⟨I,rfl,D⟩
   ·obtain⟨S,H,rfl,a6⟩:=Qj ho
    have HR:=Zh (And.intro ho (And.intro I G))
    clear ho I G
    go_wp2_with fail
    go_meet
    exact⟨S,H,rfl,a6,Zh HR.out.1,Zh HR.out.2,D⟩
   ·go_wp2_with fail
    exact⟨rfl,.inr ⟨_,I,.inl rfl,rfl,HH.out.below D,DFr.of_below D⟩⟩
 case rest=>
  obtain⟨S,H,rfl,a6,d4,g2,O⟩:=hcut
  clear J y1 y2 y3 M V y6 hK W
  go_upto_region 2 with fail
  refine Qb7 (fun w'=>ZB wc w') (fun w'=>ZB wc w') (fun k=>k==6 || k==7) (fun k=>k==7) (fun _=>false) (fun k=>k==2 || k==4 || k==5) (fun k=>if k==2 then .pointer (some ⟨g,0,none⟩) else if k==4 then .int .i64 (i:Int) else .agg #[.int .i64 x0,.int .i64 x1,.int .i64 x2,.int .i64 x3]) (by kernel_rfl) (by kernel_rfl) (by kernel_rfl) (Below.drew (Below.refl _ _)) (fun _ h=>h) (fun _ _ h a=>Qf h a) ?_
  repeat ((first
   |(refine Qbm (v:=?_) (by rfl) (by rfl) (by rfl) (fun w6 hSw=>?_) ?_;rotate_left;(·(obtain⟨J,y1,y2,y3,M,V,y6⟩:=HF.out _ (Qf O hSw);go_simp;try with_reducible rfl)))
   |(refine Qbp (v:=?_) (by rfl) (by rfl) (fun w6=>?_) ?_;rotate_left;(·(go_simp;try with_reducible rfl)))
   |refine Qb1 (by rfl) (by rfl) ?_);(try simp only[Act.put,pA,pB,pC]))
  refine QbL (f:=?_) (args:=?_) (v:=.pointer (some ⟨g,0,none⟩)) (by rfl) (by rfl) (by rfl) (fun w6 hSw=>?_) (fun w6 hSw=>?_) ?_
  rotate_left 2
  ·(skip;go_simp;first|done|(constructor<;>with_reducible rfl)|with_reducible rfl)
  ·(refine(HT.out _ (Qf O hSw)).mono ?_;rintro e w' ⟨rfl,rfl⟩;exact⟨rfl,Below.refl _ _⟩)
  (try simp only[Act.put,pA,pB,pC])
  repeat ((first
   |(refine Qbm (v:=?_) (by rfl) (by rfl) (by rfl) (fun w6 hSw=>?_) ?_;rotate_left;(·(obtain⟨J,y1,y2,y3,M,V,y6⟩:=HF.out _ (Qf O hSw);go_simp;try with_reducible rfl)))
   |(refine Qbp (v:=?_) (by rfl) (by rfl) (fun w6=>?_) ?_;rotate_left;(·(go_simp;try with_reducible rfl)))
   |refine Qb1 (by rfl) (by rfl) ?_);(try simp only[Act.put,pA,pB,pC]))
  refine QbL (f:=?_) (args:=?_) (v:=.int .i64 (i:Int)) (by rfl) (by rfl) (by rfl) (fun w6 hSw=>?_) (fun w6 hSw=>?_) ?_
  rotate_left 2
  ·(skip;go_simp;first|done|(constructor<;>with_reducible rfl)|with_reducible rfl)
  ·(refine(f6.out _ (Qf O hSw)).mono ?_;rintro e w' ⟨rfl,a⟩;exact⟨rfl,a⟩)
  (try simp only[Act.put,pA,pB,pC])
  refine QbL (f:=?_) (args:=?_) (v:=.agg #[.int .i64 x0,.int .i64 x1,.int .i64 x2,.int .i64 x3]) (by rfl) (by rfl) (by rfl) (fun w6 hSw=>?_) (fun w6 hSw=>?_) ?_
  rotate_left 2
  ·(skip;go_simp;first|done|(constructor<;>with_reducible rfl)|with_reducible rfl)
  ·(refine(a5.out _ (Qf O hSw)).mono ?_;rintro e w' ⟨rfl,a⟩;exact⟨rfl,a⟩)
  (try simp only[Act.put,pA,pB,pC])
  refine QbF (NewB wc 59 #[.int .i64 0,.int .i64 0,.int .i64 0,.int .i64 0]) (by rfl) (by rfl) (fun w6 hSw=>?_) (.inr ⟨fun v6 w6 hT6=>?_,fun v6 w6 w7 hT6 hb7=>?_⟩) (fun v6 hv6=>?_)
  ·(go_simp;exact NewB.new _ _ hSw)
  ·(exact hT6.bel)
  ·(exact hT6.keep hb7)
  obtain⟨wz,r,rfl,-⟩:=hv6
  (try simp only[Act.put,pA,pB,pC])
  refine QbF (fun _ w'=>NewB wc 59 #[.int .i64 x0,.int .i64 x1,.int .i64 x2,.int .i64 x3] (.pointer (some ⟨r,0,none⟩)) w') (by rfl) (by rfl) (fun w6 hSw=>?_) (.inl (by rfl)) (fun v6 hv6=>?_)
  ·(obtain⟨R,a,i0⟩:=hSw.at_;have e0:=a.cell 0;have e1:=a.cell 1;have e2:=a.cell 2;have e3:=a.cell 3;have f0:=a.frozen 0;have f1:=a.frozen 1;have f2:=a.frozen 2;have f3:=a.frozen 3;simp at e0 e1 e2 e3;go_simp;exact⟨r,rfl,R,((((a.set_ 0 _).set_ 1 _).set_ 2 _).set_ 3 _).eq_ (by simp),(((i0.setCell (p:=⟨r,0,none⟩) R _).setCell (p:=⟨r,1,none⟩) R _).setCell (p:=⟨r,2,none⟩) R _).setCell (p:=⟨r,3,none⟩) R _⟩)
  skip
  (try simp only[Act.put,pA,pB,pC])
  repeat ((first
   |(refine Qbm (v:=?_) (by rfl) (by rfl) (by rfl) (fun w6 hSw=>?_) ?_;rotate_left;(·(obtain⟨J,y1,y2,y3,M,V,y6⟩:=HF.out _ (Qf O hSw);go_simp;try with_reducible rfl)))
   |(refine Qbp (v:=?_) (by rfl) (by rfl) (fun w6=>?_) ?_;rotate_left;(·(go_simp;try with_reducible rfl)))
   |refine Qb1 (by rfl) (by rfl) ?_);(try simp only[Act.put,pA,pB,pC]))
  refine QgC ?_
  rintro F hN
  obtain⟨R,b9,c3⟩:=hN.at_
  have d:=Qf O c3
  obtain⟨J,y1,y2,y3,M,V,y6⟩:=HF.out F d
  obtain⟨⟨z0,z1,z2,z3⟩,_⟩:=QK (l:=⟨x0,x1,x2,x3⟩) b9
  dsimp only at z0 z1 z2 z3
  have d8:=Zh b9
  clear hN b9 hv6 R
  obtain⟨q,hq⟩:=ZN ((!up && decide (x0<x1)))
  have HQ:=Zh hq
  clear hq
  go_upto_region 5 with fail
  go_cut [36] (fun s wx=>s=.bool q/\wx=F)
  case first=>
   cases up
   ·by_cases hlt:x0<x1
    ·have p1:(x0<x1)=True:=by simp;exact hlt
     go_wp2_with fail
     go_meet
     exact⟨by rw[<-HQ.out];simp[hlt],rfl⟩
    ·have p1:(x0<x1)=False:=by simp;omega
     go_wp2_with fail
     go_meet
     exact⟨by rw[<-HQ.out];simp[hlt],rfl⟩
   ·go_wp2_with fail
    go_meet
    exact⟨by rw[<-HQ.out];simp,rfl⟩
  case rest=>
   obtain⟨rfl,f7⟩:=hcut
   rw[f7]
   clear f7
   have f9:X=if q=true then x0+(Qec C (x-x0).toNat:Nat) else x:=by
    rw[HX.out,<-HQ.out]
    cases up<;>simp
   have g3:=Zh f9
   clear f9
   go_upto_if 36 with fail
   go_cut [] (fun wx=>Blk wx ba 3 #[.int .i64 X]/\Fr (· = ba) F wx)
   case first=>
    cases q
    ·have e:X=x:=g3.out
     have hB:=U.out.below d
     rw[<-e] at hB
     have HB:=Zh hB
     clear hB e
     go_wp2_with fail
     go_meet
     exact⟨HB.out,Fr.refl _ _⟩
    ·have e:X=x0+(Qec C (x-x0).toNat:Nat):=g3.out
     obtain⟨p,hp⟩:∃p:Nat,x-x0=(p:Int):=⟨(x-x0).toNat,by omega⟩
     rw[show (x-x0).toNat=p by omega] at e
     have g9:=i1.out p
     have Q:=g5.out
     obtain⟨m,hm⟩:=ZN (Qec C p)
     have wp:IntKind.i64.wrap (x-x0)=(p:Int):=by rw[IntWalk.i64_in _ (by omega)];exact hp
     have wX:IntKind.i64.wrap (x0+(m:Int))=X:=by rw[IntWalk.i64_in _ (by omega),e,hm]
     have e5 : ∀(w':World) (A':Option Addr) (c':Nat),IntsI w' A' C.length C->Calls Tryz.prog 41 #[.slice A' C.length c',.int .i64 (p:Int)] w' fun e b3=>e=.returned (.int .i64 (m:Int))/\ZB w' b3:=fun w' A' c' hI=>by
      have:=Qpv Any A' C.length c' C p w' hI.any (by omega) (by omega)
      rwa [hm] at this
     have g7:=Zh e5
     have c1:=Zh (And.intro wp wX)
     clear e5 e hm g9 Q hp
     have hS : ∀w',ZB F w'->w'.cell? ⟨b0,0,none⟩=some (.pointer (some ⟨gd,0,none⟩))/\w'.cell? ⟨ba,0,none⟩=some (.int .i64 x)/\w'.frozen? ⟨ba,0,none⟩=false/\w'.cell? ⟨r,0,none⟩=some (.int .i64 x0)/\w'.cell? ⟨r,1,none⟩=some (.int .i64 x1):=fun w' a=>by
      obtain⟨u0,-,-,-,u4,u5,-⟩:=HF.out w' (Qf d a)
      exact⟨u0,u4,u5,(d8.out.below a).cell 0,(d8.out.below a).cell 1⟩
     have HS:=Zh hS
     clear hS J y1 y2 y3 M V y6 z0 z1 z2 z3
     go_upto_region 6 with fail
     refine Qg (fun w'=>ZB F w') (fun w'=>ZB F w') (fun k=>k==3 || k==8 || k==13 || k==15) (fun k=>k==15) (fun _=>false) (by kernel_rfl) (by kernel_rfl) (Below.drew (Below.refl _ _)) (fun _ h=>h) ?_
     repeat ((first
      |(refine Qc (v:=?_) (by rfl) (by rfl) (fun w6 hSw=>?_) ?_;rotate_left;(·(obtain⟨J,M,V,z0,z1⟩:=HS.out _ hSw;go_simp;try with_reducible rfl)))
      |(refine Qd (v:=?_) (by rfl) (fun w6=>?_) ?_;rotate_left;(·(go_simp;try with_reducible rfl)))
      |refine Qe (by rfl) ?_);(try simp only[Act.put,pA,pB,pC]))
     refine Qn (f:=?_) (args:=?_) (fun v w'=>v=.pointer (some ⟨g,0,none⟩)/\ZB F w') (by rfl) (by rfl) (fun w6 hSw=>?_) (fun w6 hSw=>?_) (.inr (fun v6 w6 hT6=>?_)) (fun v6 hv6=>?_)
     rotate_left 2
     ·(skip;go_simp;first|done|(constructor<;>with_reducible rfl)|with_reducible rfl)
     ·(refine(HT.out _ (Qf d hSw)).mono ?_;rintro e w' ⟨rfl,rfl⟩;exact⟨_,rfl,rfl,hSw⟩)
     ·(exact hT6.2)
     obtain⟨wz,rfl,-⟩:=hv6
     (try simp only[Act.put,pA,pB,pC])
     repeat ((first
      |(refine Qc (v:=?_) (by rfl) (by rfl) (fun w6 hSw=>?_) ?_;rotate_left;(·(obtain⟨J,M,V,z0,z1⟩:=HS.out _ hSw;go_simp;try with_reducible rfl)))
      |(refine Qd (v:=?_) (by rfl) (fun w6=>?_) ?_;rotate_left;(·(go_simp;try with_reducible rfl)))
      |refine Qe (by rfl) ?_);(try simp only[Act.put,pA,pB,pC]))
     refine Qn (f:=?_) (args:=?_) (fun v w'=>IntsV w' v C/\ZB F w') (by rfl) (by rfl) (fun w6 hSw=>?_) (fun w6 hSw=>?_) (.inr (fun v6 w6 hT6=>?_)) (fun v6 hv6=>?_)
     rotate_left 2
     ·(skip;go_simp;first|done|(constructor<;>with_reducible rfl)|with_reducible rfl)
     ·(refine(c2.out _ (Qf d hSw.2)).mono ?_;rintro e w' ⟨v,rfl,a9,c0⟩;obtain⟨A9,k9,rfl,g6⟩:=Qj a9;exact⟨_,rfl,⟨A9,k9,rfl,g6,IntsI.of_own a9⟩,Qf hSw.2 c0⟩)
     ·(exact hT6.2)
     obtain⟨wz,⟨A9,c9,rfl,i4,-⟩,-⟩:=hv6
     (try simp only[Act.put,pA,pB,pC])
     repeat ((first
      |(refine Qc (v:=?_) (by rfl) (by rfl) (fun w6 hSw=>?_) ?_;rotate_left;(·(obtain⟨J,M,V,z0,z1⟩:=HS.out _ hSw;have wp:=c1.out.1;go_simp;try with_reducible rfl)))
      |(refine Qd (v:=?_) (by rfl) (fun w6=>?_) ?_;rotate_left;(·(go_simp;try with_reducible rfl)))
      |refine Qe (by rfl) ?_);(try simp only[Act.put,pA,pB,pC]))
     refine Qn (f:=?_) (args:=?_) (fun v w'=>v=.int .i64 (m:Int)/\ZB F w') (by rfl) (by rfl) (fun w6 hSw=>?_) (fun w6 hSw=>?_) (.inr (fun v6 w6 hT6=>?_)) (fun v6 hv6=>?_)
     rotate_left 2
     ·(skip;go_simp;first|done|(constructor<;>with_reducible rfl)|with_reducible rfl)
     ·(refine(g7.out _ A9 c9 hSw.1.at_.2.2).mono ?_;rintro e w' ⟨rfl,c0⟩;exact⟨_,rfl,rfl,Qf hSw.2 c0⟩)
     ·(exact hT6.2)
     obtain⟨wz,rfl,-⟩:=hv6
     (try simp only[Act.put,pA,pB,pC])
     repeat ((first
      |(refine Qc (v:=?_) (by rfl) (by rfl) (fun w6 hSw=>?_) ?_;rotate_left;(·(obtain⟨J,M,V,z0,z1⟩:=HS.out _ hSw;have wX:=c1.out.2;go_simp;try with_reducible rfl)))
      |(refine Qd (v:=?_) (by rfl) (fun w6=>?_) ?_;rotate_left;(·(go_simp;try with_reducible rfl)))
      |refine Qe (by rfl) ?_);(try simp only[Act.put,pA,pB,pC]))
     refine Ql (fun _ b3=>∃w',ZB F w'/\b3=w'.setCell ⟨ba,0,none⟩ (.int .i64 X)) (by rfl) (by rfl) (fun w6 hSw=>?_) (.inl (by rfl)) (fun v6 hv6=>?_)
     ·(obtain⟨J,M,V,z0,z1⟩:=HS.out _ hSw.2;have wX:=c1.out.2;go_simp;exact⟨w6,hSw.2,rfl⟩)
     skip
     (try simp only[Act.put,pA,pB,pC])
     repeat ((first
      |(refine Qc (v:=?_) (by rfl) (by rfl) (fun w6 hSw=>?_) ?_;rotate_left;(·(obtain⟨J,M,V,z0,z1⟩:=HS.out _ hSw;go_simp;try with_reducible rfl)))
      |(refine Qd (v:=?_) (by rfl) (fun w6=>?_) ?_;rotate_left;(·(go_simp;try with_reducible rfl)))
      |refine Qe (by rfl) ?_);(try simp only[Act.put,pA,pB,pC]))
     refine Qu ?_
     rintro w4 ⟨w3,u,rfl⟩
     go_wp2_with fail
     go_meet
     exact⟨((U.out.below (Qf d u)).set_ 0 _).eq_ (by simp),(Fr.of_below u).set1 0 _⟩
   case rest=>
    obtain⟨b4,Y⟩:=hcut
    have g8:=U.out.lt
    have hd:=(HH.out.below d).alien Y (fun b _ hs=>⟨hs▸Blk.ne_ (U.out.below d) (HH.out.below d).desk (by decide),3,_,hs▸U.out.below d,by decide⟩)
    have c8 := QeE (QN d4.out c3) Y (fun b a hs=>by
     have:=QaV d4.out a
     omega)
    have b2:Blk wc b0 23 #[.pointer (some ⟨gd,0,none⟩)]:=(c6.out.below d).fr Y (fun e=>Blk.ne_ (c6.out.below d) (U.out.below d) (by decide) e)
    have d6:DFr B (· = ba) w wc:=(DFr.of_below d).trans (DFr.of_x Y)
    have J:=b2.cell 0
    have M:=b4.cell 0
    have b6:=Zh (h3.out g2.out.1 g2.out.2)
    have HD:=Zh hd
    have f5:=Zh c8
    have HB:=Zh (And.intro b4 b2)
    have d9:=Zh d6
    clear hd c8 b4 b2 Y d6 z0 z1 z2 z3 y1 y2 y3 V y6
    have u:ZB wc (wc.alloc (.cells #[.int .i64 X,.int .i64 X,.slice S P.length H] 89)):=Qa (Below.refl _ _)
    have b8:Blk (wc.alloc (.cells #[.int .i64 X,.int .i64 X,.slice S P.length H] 89)) wc.heap.size 89 #[.int .i64 X,.int .i64 X,.slice S P.length H]:=Blk.new wc _ _
    go_wp2_with fail
    obtain⟨w3,d2⟩:∃x,wc.alloc (.cells #[.int .i64 X,.int .i64 X,.slice S P.length H] 89)=x:=⟨_,rfl⟩
    rw[d2] at u b8 ⊢
    clear d2
    have d3:=IntsI.of_own (QN f5.out u)
    have e6 := QdA (c := 1) (HD.out.below u) h6.out (Qi1 b8 d3) (fun b a _=>by
     rcases a with ⟨cs,a⟩|⟨cs,a⟩
     ·exact⟨_,cs,a,by decide⟩
     ·exact⟨_,cs,a,by decide⟩) (by have:=b6.out;simp[Qf0];omega) h7 h8
    have h5:=Zh e6
    clear e6 d3 b8 J M
    refine(h5.out).mono ?_
    intro e w4 T
    rcases T with ⟨I,rfl,b1,E⟩|⟨I,rfl,E⟩
    ·have a8:=E.blk (HB.out.1.below u) (by decide)
     have d5:=E.blk (HB.out.2.below u) (by decide)
     have J:=d5.cell 0
     have M:=a8.cell 0
     simp at J M
     have e4:=IntsI.of_own (E.own (QN f5.out u) (by decide))
     have e9:=Zh (QkH Any S P.length H P w4 e4.any (by have:=b6.out;omega))
     have g4:=b1.len
     have a7:=Zh b1
     have d7:DFr B (· = ba) w w4:=d9.out.trans ((DFr.of_below u).trans (DFr.of_bk E))
     have e8:=Zh d7
     have HZ:=Zh I
     clear b1 d7 e4 E I a8 d5
     have i5:=b6.out
     go_wp2_with fail
     refine(e9.out).mono ?_
     rintro e w5 ⟨rfl,rfl⟩
     obtain⟨bk,b7⟩:=ZN (QcF P)
     rw[b7]
     have e7:=Zh b7
     clear b7 e9
     cases bk
     ·have w1:IntKind.i64.wrap (X+(P.length:Int))=X+(P.length:Int):=IntWalk.i64_in _ (by omega)
      have i3:IntKind.i64.wrap (X+(P.length:Int)-1)=X+(P.length:Int)-1:=IntWalk.i64_in _ (by omega)
      have a0:=Zh (QbC a7.out (X+(P.length:Int)-1))
      go_wp2_with fail
      refine(a0.out).mono ?_
      rintro e w6 ⟨j,rfl,Z,a2,a1⟩
      have HJ:=Zh (And.intro Z (And.intro a2 a1))
      clear Z a2 a1
      go_wp2_with fail
      go_ret
      exact .inl ⟨S,H,j,X+(P.length:Int)-1,by rw[e7.out];rfl,rfl,HZ.out,HJ.out.1,HJ.out.2.1,a7.out.below HJ.out.2.2,e8.out.trans (DFr.of_below HJ.out.2.2)⟩
     ·have a0:=Zh (QbC a7.out X)
      go_wp2_with fail
      refine(a0.out).mono ?_
      rintro e w6 ⟨j,rfl,Z,a2,a1⟩
      have HJ:=Zh (And.intro Z (And.intro a2 a1))
      clear Z a2 a1
      go_wp2_with fail
      go_ret
      exact .inl ⟨S,H,j,X,by rw[e7.out];rfl,rfl,HZ.out,HJ.out.1,HJ.out.2.1,a7.out.below HJ.out.2.2,e8.out.trans (DFr.of_below HJ.out.2.2)⟩
    ·go_wp2_with fail
     exact⟨rfl,.inr ⟨_,I,.inr ⟨S,H,rfl⟩,rfl,(HD.out.below u).below E,d9.out.trans (DFr.of_below (Qf u E))⟩⟩
theorem ClampOk.uniq {d:List (Int × Int)}{x:Int}{j c:Nat}(h:ClampOk d x j)(a:ClampOk d x c):j=c:=by
 unfold ClampOk at h a
 split at h
 ·rename_i b
  rw[if_pos b] at a
  rw[h,a]
 ·rename_i b
  rw[if_neg b] at a
  exact h.uniq a
theorem QdT {B b d g n:Nat}{enc lim:Int}{st:BkS}{c:Array Value}{w:World}(h:DeskIs w B b d g enc lim n st c)(x:Int):∃j:Nat,ClampOk (Qb enc st.ats) x j/\j<=nC (Qbb (Qb enc st.ats) (Qs (Qb enc st.ats) x false)) /\
  ∀w',DeskIs w' B b d g enc lim n st c->Calls Tryz.prog 31 #[.pointer (some ⟨b,0,none⟩),.int .i64 x] w' fun e a=>e=.returned (.int .i64 (QY (Qb enc st.ats) x j))/\ZB w' a:=by
 obtain⟨e,k,fr,⟨j,_,h1,h2,_⟩,_⟩:=QbC h x []
 refine⟨j,h1,h2,fun w' i=>(QbC i x).mono ?_⟩
 rintro e k ⟨m,rfl,l,o,f⟩
 rw[h1.uniq l]
 exact⟨rfl,f⟩
theorem QbQ {a:List (Int × Int)}(hp:PosD a){x:Int}{j:Nat}(b:j<=nC (Qbb a (Qs a x false))):0<=QY a x j/\QY a x j<=(a.length:Int):=Qnb hp b
theorem IntsI.bk {B : Nat}{w w' : World}{X : Nat -> Prop}{A : Option Addr}{n : Nat}{l : List Int}(h : IntsI w A n l)(j : DFr B X w w')(f : ∀ b, b < w.heap.size -> X b -> ∀ c, ¬ Blk w b 3 c) : IntsI w' A n l := h.fr j (fun b hb a ⟨c,hc⟩=>by
 rcases a with ⟨_,T,i,d,g⟩|a
 ·refine Blk.ne_ hc d ?_ rfl
  intro e
  subst e
  revert g
  decide
 ·exact f b hb a c hc)
def QgP (B a d g:Nat)(enc lim:Int)(n:Nat)(st:BkS)(b:Array Value)(l P:List Int)(K:Nat)(X c:Int)(w:World)(r:Int)(w':World):Prop:=
 (r=0/\∃(A:Option Addr) (k j:Nat) (T:Int),T=(if QcF P=true then X else X+P.length-1)/\QbN enc lim (Qb enc st.ats) [QA X P A k]=0/\ClampOk (Qb enc (edA [QA X P A k] st.ats)) T j/\j<=nC (Qbb (Qb enc (edA [QA X P A k] st.ats)) (Qs (Qb enc (edA [QA X P A k] st.ats)) T false)) /\
  DeskIs w' B a d g enc lim (n+131072) (Qdo st [QA X P A k] c (QY (Qb enc (edA [QA X P A k] st.ats)) T j)) (b.setIfInBounds 2 (.int .i64 (QY (Qb enc (edA [QA X P A k] st.ats)) T j)))/\DFr B (· = a) w w') \/
 (r≠0/\(r=QfY enc l K\/∃A k,r=QbN enc lim (Qb enc st.ats) [QA X P A k])/\DeskIs w' B a d g enc lim n st b/\DFr B (fun _=>False) w w')
theorem Qkv {α : Type}(l:List α)(a b:Int):(seg a b l).length<=l.length:=by
 unfold seg
 rw[List.length_take,List.length_drop]
 omega
theorem Qgv {c:List (Int × Int)}{a b nv:Int}:(QcM c a b nv).length<=c.length+2:=by
 unfold QcM
 rw[List.length_append]
 have h1:=Qkv (c.map Prod.fst) (Qo c (Qs c a false)).from_ (Qo c (Qs c (max a (b-1)) false)).next
 rw[List.length_map] at h1
 have h2:=Qj5 nv
 split
 ·omega
 ·simp;omega
def Qd0 (B d f g e n:Nat)(enc lim:Int)(st:BkS)(h:Array Value)(R:Int->Option (Int × List Int))(i a:Int)(w:World)(w':World):Prop:=
 ∃c:Nat,DeskIs w' B d f g enc lim n st (h.setIfInBounds 2 (.int .i64 (QdP (Qb enc st.ats) (Qs (Qb enc st.ats) a false) c)))/\BankIs w' B e st.mb R i/\Fr (fun b=>b=d\/b=st.mb\/b=e) w w'
theorem Qjc (B y gb g z n b0 b1 b2:Nat)(enc lim a b nm k tu at_ nv:Int)(st:BkS)(dc:Array Value)(R:Int->Option (Int × List Int))(w:World)(h:DeskIs w B y gb g enc lim n st dc)(hk:BankIs w B z st.mb R tu)(h1:dc[1]? = some (.pointer (some ⟨z,0,none⟩)))(h2:dc[2]? = some (.int .i64 at_))(h9:dc[9]? = some (.int .i64 nv))(a7:1<=nv/\nv<=3)
  (k0:Blk w b0 23 #[.pointer (some ⟨y,0,none⟩)]) (Y:Blk w b1 29 #[.int .i64 a,.int .i64 b,.int .i64 1]) (k2:Blk w b2 3 #[.int .i64 nm])
  (ha:0<=a/\a<=b/\b<=(st.ats.length:Int)) (W:QaC nm=((k,false),true)) (a3:k≠46/\k≠58/\k≠47/\k≠95) (Q:QcM (Qb enc st.ats) a b nv≠[]) :
  Calls Tryz.prog 26 #[.pointer (some ⟨b0,0,none⟩),.pointer (some ⟨b1,0,none⟩),.pointer (some ⟨b2,0,none⟩)] w fun e w'=>e=.returned (.tuple #[])/\Qd0 B y gb g z n enc lim st dc (Qc7 R (ykF k) 1 (wrF 1 (QcM (Qb enc st.ats) a b nv))) (ykF k) a w w':=by
 have a4:=h.len
 unfold Qd0
 obtain⟨f,T⟩:=ZN (Qs (Qb enc st.ats) a false)
 rw[T]
 have b3:=Zh T
 clear T
 have a8:=Zh (Qco h a b 1 (.inr rfl) ha)
 have P:=Zh (fun(w':World) (d:ZB w w')=>Qfc (h.below d) a b nv ha h9 a7)
 have M := @Qgv (Qb enc st.ats) a b nv
 rw[Qr] at M
 obtain⟨xs,b4⟩:=ZN (QcM (Qb enc st.ats) a b nv)
 rw[b4] at P M Q ⊢
 have b7:0<xs.length:=List.length_pos_iff.2 Q
 have N:=Zh (fun(w':World) (d:ZB w w') (A:Option Addr) (m c:Nat) (K:IntsI w' A m xs)=>QhO B z st.mb R tu nm k 1 A m c xs w' (hk.below d) K (by have:=K.any.len;omega) W a3 (.inr rfl) (by have:=K.any.len;omega))
 obtain⟨R',b5⟩:=ZN (Qc7 R (ykF k) 1 (wrF 1 xs))
 obtain⟨V,H⟩:∃t,ykF k=t:=⟨_,rfl⟩
 rw[b5,H] at N ⊢
 have HH:=Zh h
 have HK:=Zh hk
 have hF : ∀w' r,ZB w w'->Fr (fun b=>b=st.mb\/b=z) w' r->r.cell? ⟨b0,0,none⟩=some (.pointer (some ⟨y,0,none⟩))/\r.cell? ⟨y,1,none⟩=some (.pointer (some ⟨z,0,none⟩))/\r.cell? ⟨b2,0,none⟩=some (.int .i64 nm)/\r.cell? ⟨b1,0,none⟩=some (.int .i64 a)/\r.cell? ⟨b1,1,none⟩=some (.int .i64 b)/\r.cell? ⟨b1,2,none⟩=some (.int .i64 1):=fun w' r d C=>by
  have x:=HK.out.below d
  exact⟨(x.keep C (k0.below d) (by decide)).cell 0,((x.keep C (HH.out.below d).desk (by decide)).cell 1).trans h1,(x.keep C (k2.below d) (by decide)).cell 0,(x.keep C (Y.below d) (by decide)).cell 0,(x.keep C (Y.below d) (by decide)).cell 1,(x.keep C (Y.below d) (by decide)).cell 2⟩
 have HF:=Zh hF
 have HB:=Zh (And.intro k0 Y)
 have H2:=Zh h2
 have HA:=Zh ha
 obtain⟨J,I,L,y3,y4,y5⟩:=hF w w (Below.refl _ _) (Fr.refl _ _)
 clear h hk h1 h2 h9 a7 k0 Y k2 hF b4 a4 W a3 ha Q M b7 b5 H
 go_enter Tryz.func26,Tryz.ntmps26
 go_wp2_with fail
 refine(a8.out).mono ?_
 rintro e w1 ⟨rfl,u⟩
 obtain⟨J,I,L,y3,y4,y5⟩:=HF.out w1 w1 u (Fr.refl _ _)
 go_upto_region 3 with fail
 clear J I L y3 y4 y5
 refine Qah (fun w'=>ZB w1 w') (fun k=>k==8 || k==9) ([(7,fun v w'=>RegV w' 1 v xs)]) (fun _ _=>False) (by kernel_rfl) (by kernel_rfl) (Below.drew (Below.refl _ _)) (fun _ _ h d=>Qf h d) (⟨RegV.st _ _,trivial⟩) (fun _ _ _ _ h=>h.elim) ?_
 repeat ((first
  |(refine QU (v:=?_) (by rfl) (by rfl) (by rfl) (fun w6 hSw=>?_) ?_;rotate_left;(·(obtain⟨J,I,L,y3,y4,y5⟩:=HF.out _ _ (Qf u hSw.1) (Fr.refl _ _);go_simp;try with_reducible rfl)))
  |refine Qak (by rfl) (by rfl) (by rfl) ?_);(try simp only[Act.put,pA,pB,pC]))
 refine Qcq (f:=?_) (args:=?_) (fun v w'=>RegV w' 1 v xs) (by rfl) (by rfl) (by rfl) (by rfl) (fun w6 hSw=>?_) (fun w6 hSw=>?_) (fun v6 hv6=>?_)
 rotate_left 2
 ·(skip;go_simp;first|done|(constructor<;>with_reducible rfl)|with_reducible rfl)
 ·(refine(P.out _ (Qf u hSw.1)).mono ?_;rintro e w' ⟨A7,m7,c7,rfl,K,-,U⟩;exact⟨_,rfl,⟨A7,m7,c7,rfl,K⟩,U⟩)
 obtain⟨wz,⟨A7,m7,c7,rfl,-⟩,-⟩:=hv6
 (try simp only[Act.put,pA,pB,pC])
 refine QbY (by rfl) ?_
 refine Qcj (f:=?_) (args:=?_) (fun v w'=>v=.int .i64 0/\∃wq,ZB w1 wq/\BankIs w' B z st.mb R' V/\Fr (fun b=>b=st.mb\/b=z) wq w') (by rfl) (fun w6 hSw=>?_) (fun w6 hSw=>?_) (fun v6 hv6=>?_)
 rotate_left 2
 ·(skip;go_simp;first|done|(constructor<;>with_reducible rfl)|with_reducible rfl)
 ·(have K:=(hSw.2 _ List.mem_cons_self);dsimp only at K;refine(N.out _ (Qf u hSw.1) A7 m7 c7 K.at_).mono ?_;rintro e w' ⟨rfl,U,b8⟩;exact .inl ⟨_,rfl,rfl,w6,hSw.1,U,b8⟩)
 obtain⟨wz,rfl,-⟩:=hv6
 (try simp only[Act.put,pA,pB,pC])
 refine Qcj (f:=?_) (args:=?_) (fun v w'=>v=.tuple #[]/\∃wq,ZB w1 wq/\BankIs w' B z st.mb R' V/\Fr (fun b=>b=st.mb\/b=z) wq w') (by rfl) (fun w6 hSw=>?_) (fun w6 hSw=>?_) (fun v6 hv6=>?_)
 rotate_left 2
 ·(skip;go_simp;first|done|(constructor<;>with_reducible rfl)|with_reducible rfl)
 ·(refine(Qb9 _).mono ?_;rintro e w' ⟨rfl,rfl⟩;exact .inl ⟨_,rfl,rfl,hSw.2⟩)
 obtain⟨wz,rfl,-⟩:=hv6
 (try simp only[Act.put,pA,pB,pC])
 refine QbW ?_
 rintro w4 ⟨-,wq,hq,D,C⟩
 have s:=Qf u hq
 have q:=(HH.out.below s).bank (HK.out.below s) C
 have O:=(HK.out.below s).keep C (HB.out.1.below s) (by decide)
 have Z:=(HK.out.below s).keep C (HB.out.2.below s) (by decide)
 have a2:Fr (fun b=>b=y\/b=st.mb\/b=z) w w4:=(Fr.of_below s).call C (fun i _ hs=>.inr hs)
 obtain⟨u0,u1,u2⟩:=QaR Z
 have u3:=O.cell 0
 simp only[List.getElem?_toArray,List.getElem?_cons_zero] at u3
 have F:=Zh (fun(w':World) (d:ZB w4 w')=>Qfx (q.below d) a b 1 HA.out)
 obtain⟨j,-,-,S⟩:=QdT q at_
 obtain⟨X,hX⟩:=ZN (QY (Qb enc st.ats) at_ j)
 rw[hX] at S
 have b6:=Zh (fun(w':World) (d:ZB w4 w')=>S w' (q.below d))
 have c1:=Zh (fun(w':World) (d:ZB w4 w')=>Qns Any g enc (Qb enc st.ats) X w' (q.below d).at_)
 have a9:Qs (Qb enc st.ats) a false<QL (Qb enc st.ats):=by
  have := @Qbf (Qb enc st.ats)
  unfold Qs
  simp
  omega
 have a1:=Zh (fun(w':World) (d:ZB w4 w') (c:Nat) (hc:c<=1073741824)=>Qk1 Any g enc (Qb enc st.ats) (Qs (Qb enc st.ats) a false) c w' (q.below d).at_ a9 hc)
 have HT:=Zh (fun(w':World) (d:ZB w4 w')=>Qae (q.below d))
 obtain⟨l,a0⟩:=ZN (Qs (Qb enc st.ats) (max a (b-1)) false)
 rw[b3.out] at F a1
 rw[a0] at F
 have hG : ∀w',ZB w4 w'->w'.cell? ⟨b0,0,none⟩=some (.pointer (some ⟨y,0,none⟩))/\w'.cell? ⟨y,2,none⟩=some (.int .i64 at_)/\w'.frozen? ⟨y,2,none⟩=false:=fun w' d=>⟨(O.below d).cell 0,((q.below d).desk.cell 2).trans H2.out,(q.below d).desk.frozen 2⟩
 have HG:=Zh hG
 have a5:=Zh q
 have c0:=Zh D
 have b9:=Zh a2
 clear hG q D a2 O Z C hq s HF HB a8 P N u S hX a9 a0 HA
 go_wp2_with fail
 refine(F.out _ (Below.refl _ _)).mono ?_
 rintro e w5 ⟨rfl,o⟩
 clear u0 u1 u2 u3 F b3
 go_upto_region 7 with fail
 refine Qah (fun w'=>ZB w5 w') (fun k=>k==16) ([(2,fun v _=>v=.pointer (some ⟨g,0,none⟩)),(5,fun v _=>v=.pointer (some ⟨g,0,none⟩)),(11,fun v _=>v=.int .i64 X),(12,fun v _=>∃c:Nat,v=.int .i64 (c:Int)/\c<=1073741824),(13,fun v _=>∃c:Nat,v=.int .i64 (QdP (Qb enc st.ats) f c))]) (fun _ _=>False) (by kernel_rfl) (by kernel_rfl) (Below.drew (Below.refl _ _)) (fun _ _ h d=>Qf h d) (⟨fun _ _ _ h _=>h,fun _ _ _ h _=>h,fun _ _ _ h _=>h,fun _ _ _ h _=>h,fun _ _ _ h _=>h,trivial⟩) (fun _ _ _ _ h=>h.elim) ?_
 repeat ((first
  |(refine QU (v:=?_) (by rfl) (by rfl) (by rfl) (fun w6 hSw=>?_) ?_;rotate_left;(·(obtain⟨J,I,L⟩:=HG.out _ (Qf o hSw.1);go_simp;try with_reducible rfl)))
  |refine Qak (by rfl) (by rfl) (by rfl) ?_);(try simp only[Act.put,pA,pB,pC]))
 refine QaP (f:=?_) (args:=?_) (.pointer (some ⟨g,0,none⟩)) (by rfl) (by rfl) (by rfl) (by rfl) (fun w6 hSw=>?_) (fun w6 hSw=>?_) ?_
 rotate_left 2
 ·(skip;go_simp;first|done|(constructor<;>with_reducible rfl)|with_reducible rfl)
 ·(refine(HT.out _ (Qf o hSw.1)).mono ?_;rintro e w' ⟨rfl,rfl⟩;exact⟨rfl,Below.refl _ _⟩)
 (try simp only[Act.put,pA,pB,pC])
 repeat ((first
  |(refine QU (v:=?_) (by rfl) (by rfl) (by rfl) (fun w6 hSw=>?_) ?_;rotate_left;(·(obtain⟨J,I,L⟩:=HG.out _ (Qf o hSw.1);go_simp;try with_reducible rfl)))
  |refine Qak (by rfl) (by rfl) (by rfl) ?_);(try simp only[Act.put,pA,pB,pC]))
 refine QaP (f:=?_) (args:=?_) (.pointer (some ⟨g,0,none⟩)) (by rfl) (by rfl) (by rfl) (by rfl) (fun w6 hSw=>?_) (fun w6 hSw=>?_) ?_
 rotate_left 2
 ·(skip;go_simp;first|done|(constructor<;>with_reducible rfl)|with_reducible rfl)
 ·(refine(HT.out _ (Qf o hSw.1)).mono ?_;rintro e w' ⟨rfl,rfl⟩;exact⟨rfl,Below.refl _ _⟩)
 (try simp only[Act.put,pA,pB,pC])
 repeat ((first
  |(refine QU (v:=?_) (by rfl) (by rfl) (by rfl) (fun w6 hSw=>?_) ?_;rotate_left;(·(obtain⟨J,I,L⟩:=HG.out _ (Qf o hSw.1);go_simp;try with_reducible rfl)))
  |refine Qak (by rfl) (by rfl) (by rfl) ?_);(try simp only[Act.put,pA,pB,pC]))
 refine QaP (f:=?_) (args:=?_) (.int .i64 X) (by rfl) (by rfl) (by rfl) (by rfl) (fun w6 hSw=>?_) (fun w6 hSw=>?_) ?_
 rotate_left 2
 ·(skip;go_simp;first|done|(constructor<;>with_reducible rfl)|with_reducible rfl)
 ·(refine(b6.out _ (Qf o hSw.1)).mono ?_;rintro e w' ⟨rfl,d⟩;exact⟨rfl,d⟩)
 (try simp only[Act.put,pA,pB,pC])
 refine Qcq (f:=?_) (args:=?_) (fun v _=>∃c:Nat,v=.int .i64 (c:Int)/\c<=1073741824) (by rfl) (by rfl) (by rfl) (by rfl) (fun w6 hSw=>?_) (fun w6 hSw=>?_) (fun v6 hv6=>?_)
 rotate_left 2
 ·(skip;go_simp;first|done|(constructor<;>with_reducible rfl)|with_reducible rfl)
 ·(refine(c1.out _ (Qf o hSw.1)).mono ?_;rintro e w' ⟨⟨c,rfl,hc⟩,d⟩;exact⟨_,rfl,⟨c,rfl,hc⟩,d⟩)
 obtain⟨wz,⟨c,rfl,hc⟩,-⟩:=hv6
 (try simp only[Act.put,pA,pB,pC])
 refine Qcq (f:=?_) (args:=?_) (fun v _=>∃c:Nat,v=.int .i64 (QdP (Qb enc st.ats) f c)) (by rfl) (by rfl) (by rfl) (by rfl) (fun w6 hSw=>?_) (fun w6 hSw=>?_) (fun v6 hv6=>?_)
 rotate_left 2
 ·(skip;go_simp;first|done|(constructor<;>with_reducible rfl)|with_reducible rfl)
 ·(refine(a1.out _ (Qf o hSw.1) c hc).mono ?_;rintro e w' ⟨rfl,d⟩;exact⟨_,rfl,⟨c,rfl⟩,d⟩)
 obtain⟨wz,⟨c',rfl⟩,-⟩:=hv6
 (try simp only[Act.put,pA,pB,pC])
 repeat ((first
  |(refine QU (v:=?_) (by rfl) (by rfl) (by rfl) (fun w6 hSw=>?_) ?_;rotate_left;(·(obtain⟨J,I,L⟩:=HG.out _ (Qf o hSw.1);go_simp;try with_reducible rfl)))
  |refine Qak (by rfl) (by rfl) (by rfl) ?_);(try simp only[Act.put,pA,pB,pC]))
 refine QbY (by rfl) ?_
 refine QfI (fun _ r=>∃w',ZB w4 w'/\r=w'.setCell ⟨y,2,none⟩ (.int .i64 (QdP (Qb enc st.ats) f c'))) (by rfl) (fun w6 hSw=>?_) (fun v6 hv6=>?_)
 ·(obtain⟨J,I,L⟩:=HG.out _ (Qf o hSw.1);go_simp;exact⟨w6,Qf o hSw.1,rfl⟩)
 skip
 (try simp only[Act.put,pA,pB,pC])
 refine QbW ?_
 rintro w7 ⟨w3,G,rfl⟩
 have hd:=(a5.out.below G).set (i:=2) (by decide) (.int .i64 (QdP (Qb enc st.ats) f c'))
 have D:=(c0.out.below G).set (i:=2) (a5.out.below G).desk (.int .i64 (QdP (Qb enc st.ats) f c'))
 have a6:Fr (fun b=>b=y\/b=st.mb\/b=z) w (w3.setCell ⟨y,2,none⟩ (.int .i64 (QdP (Qb enc st.ats) f c'))):=(b9.out.bel G).setCell (p:=⟨y,2,none⟩) (.inl (.inl rfl)) _
 have E:=Zh (And.intro hd (And.intro D a6))
 clear hd D a6
 go_wp2_with fail
 show bodyPost _ _ _ _ _ _
 exact bodyPost_end (results_none rfl _ _ _) rfl ⟨rfl,c',E.out.1,E.out.2.1,E.out.2.2⟩
theorem Qjp (B d u g m n:Nat)(enc lim a b nm k C at_ nv:Int)(st:BkS)(i:Array Value)(R:Int->Option (Int × List Int))(w:World)(h:DeskIs w B d u g enc lim n st i)(z:BankIs w B m st.mb R C)(h1:i[1]? = some (.pointer (some ⟨m,0,none⟩)))(h2:i[2]? = some (.int .i64 at_))(G:i[9]? = some (.int .i64 nv))(q:1<=nv/\nv<=3)
  (K:0<=a/\a<=b/\b<=(st.ats.length:Int)) (o:QaC nm=((k,false),true)) (v:k≠46/\k≠58/\k≠47/\k≠95) (r:QcM (Qb enc st.ats) a b nv≠[]) :
  Calls Tryz.prog 7 #[.pointer (some ⟨d,0,none⟩),.int .i64 nm,.agg #[.int .i64 a,.int .i64 b,.int .i64 1]] w fun e w'=>e=.returned (.int .i64 0)/\Qd0 B d u g m n enc lim st i (Qc7 R (ykF k) 1 (wrF 1 (QcM (Qb enc st.ats) a b nv))) (ykF k) a w w':=by
 have O : ∀(fn:Fn) (first cap:Array Value) (w:World),(Instr.makeFunc fn first cap).run Tryz.prog w=.ok (.func fn first cap) w:=fun _ _ _ _=>rfl
 have f:ZB w (((w.alloc (.cells #[.pointer (some ⟨d,0,none⟩)] 23)).alloc (.cells #[.int .i64 nm] 3)).alloc (.cells #[.int .i64 a,.int .i64 b,.int .i64 1] 29)):=Qa (Qa (Qa (Below.refl _ _)))
 have t:Blk (((w.alloc (.cells #[.pointer (some ⟨d,0,none⟩)] 23)).alloc (.cells #[.int .i64 nm] 3)).alloc (.cells #[.int .i64 a,.int .i64 b,.int .i64 1] 29)) w.heap.size 23 #[.pointer (some ⟨d,0,none⟩)]:=((Blk.new w _ _).alloc _).alloc _
 have p:Blk (((w.alloc (.cells #[.pointer (some ⟨d,0,none⟩)] 23)).alloc (.cells #[.int .i64 nm] 3)).alloc (.cells #[.int .i64 a,.int .i64 b,.int .i64 1] 29)) (w.heap.size+1) 3 #[.int .i64 nm]:=(Blk.new' (by simp)).alloc _
 have y:Blk (((w.alloc (.cells #[.pointer (some ⟨d,0,none⟩)] 23)).alloc (.cells #[.int .i64 nm] 3)).alloc (.cells #[.int .i64 a,.int .i64 b,.int .i64 1] 29)) (w.heap.size+1+1) 29 #[.int .i64 a,.int .i64 b,.int .i64 1]:=Blk.new' (by simp)
 have M:=Zh h
 have L:=Zh z
 have I:d<w.heap.size/\m<w.heap.size/\st.mb<w.heap.size:=⟨h.desk.lt,z.blk.lt,(Q8 z).1⟩
 obtain⟨xs,x⟩:=ZN (QcM (Qb enc st.ats) a b nv)
 have D:=fun(w':World) (S:DeskIs w' B d u g enc lim n st i) (N:BankIs w' B m st.mb R C) (t p y:Nat) k0 k1 k2=>Qjc B d u g m n t p y enc lim a b nm k C at_ nv st i R w' S N h1 h2 G q k0 k1 k2 K o v r
 rw[x] at D ⊢
 have J:=Zh D
 clear h z h1 h2 G q D x K o v r
 go_enter Tryz.func7,Tryz.ntmps7
 go_upto_region 1 with fail
 obtain⟨w3,l⟩:∃U,(((w.alloc (.cells #[.pointer (some ⟨d,0,none⟩)] 23)).alloc (.cells #[.int .i64 nm] 3)).alloc (.cells #[.int .i64 a,.int .i64 b,.int .i64 1] 29))=U:=⟨_,rfl⟩
 rw[l] at f t p y ⊢
 clear l
 have c:ZB w3 (w3.alloc (.cells #[.int .i64 0] 26)):=Qa (Below.refl _ _)
 have F:=Blk.new w3 26 #[.int .i64 0]
 have Q:=f.size
 have A := Zh (Qdc 26 #[.pointer (some ⟨w.heap.size,0,none⟩),.pointer (some ⟨w.heap.size+1+1,0,none⟩),.pointer (some ⟨w.heap.size+1,0,none⟩)] w3
  (fun w'=>Qd0 B d u g m n enc lim st i (Qc7 R (ykF k) 1 (wrF 1 xs)) (ykF k) a (w3.alloc (.cells #[.int .i64 0] 26)) w') (fun _ _=>False) Tryz.call26
  ((J.out _ (M.out.below (Qf f c)) (L.out.below (Qf f c)) _ _ _ (t.below c) (y.below c) (p.below c)).mono (fun _ _ hp=>.inl hp))
  (fun w' ⟨j,_,_,s⟩=>F.fr s (fun E=>by rcases E with e|e|e<;>omega)) (fun _ _ s=>s.elim))
 clear t p y F J L M
 go_wp2_with fail
 refine(A.out).mono ?_
 rintro e X (⟨rfl,H⟩|⟨_,_,_,s,_⟩)
 ·have T:=Zh H
  clear H
  go_wp2_with fail
  go_ret
  obtain⟨j,W,V,P⟩:=T.out
  exact⟨rfl,j,W,V,(Fr.of_below (Qf f c)).call P (fun _ _ E=>E)⟩
 ·exact s.elim
end Go.Proofs.YtgiihhikdoikgaaGreat
