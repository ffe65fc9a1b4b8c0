/-
  append in a drawn region, as a heavy operation.
-/
import Derived.Test.YtgiihhikdoikgaaGreatRows
import Derived.WalkKit
import Derived.WalkSpells
import Derived.WalkLawsBesides
import Derived.Lib.Hide
import Derived.Deep.AppendLies
import Derived.Deep.Draws
import Derived.Deep.Light
import Derived.Deep.DeepCutAuto
import Derived.Deep.LoopGhost
import Derived.Deep.RegionWith
import Derived.Deep.RegionHeld3
import Derived.Deep.QuietTactic
import Derived.BigQuiet
import Derived.Deep.DeepFit
import Derived.Deep.OwnRows
import Derived.OrdersHeld
import Derived.StillTail
import Derived.StillTactics
import Derived.OrdersIn
import Derived.TacticsIn
import Derived.Deep.CutBlock
import Derived.Laws.AppendOwn
import Derived.Maps.AppendAt
set_option linter.unusedSimpArgs false
set_option linter.unusedVariables false
set_option maxRecDepth 100000
set_option maxHeartbeats 32000000
namespace Go.Proofs.YtgiihhikdoikgaaGreat
open Go.RowKit
abbrev ZB (w v:World):Prop:=Below w.heap.size w v
theorem Zh {p:Prop}(h:p):Hid p:=Lib.hid h
theorem ZN {α:Sort _}(a:α):∃x,a=x:=⟨a,rfl⟩
theorem Qf {a b c:World}(h:ZB a b)(k:ZB b c):ZB a c:=h.trans (k.mono h.size)
theorem QaB {k:IntKind}{a b:Int}(h:a=b):Ending.returned (.int k a)=.returned (.int k b):=by rw[h]
theorem Qb3 {a b:Bool}(h:a=b):Ending.returned (.bool a)=.returned (.bool b):=by rw[h]
structure Fr (S:Nat->Prop) (w w':World):Prop where
 os:w'.os=w.os
 tape:w'.tape=w.tape
 output:w'.output=w.output
 size:w.heap.size<=w'.heap.size
 block : ∀k,k<w.heap.size->¬S k->w'.heap[k]? = w.heap[k]?
def No:Nat->Prop:=fun _=>False
section
variable {S S':Nat->Prop} {w w' w'':World}
theorem Fr.refl (S:Nat->Prop)(w:World):Fr S w w:=⟨rfl,rfl,rfl,Nat.le_refl _,fun _ _ _=>rfl⟩
theorem Fr.trans (h:Fr S w w')(k:Fr S w' w''):Fr S w w'':=
 ⟨k.os.trans h.os,k.tape.trans h.tape,k.output.trans h.output,Nat.le_trans h.size k.size,fun i a hn=>(k.block i (Nat.lt_of_lt_of_le a h.size) hn).trans (h.block i a hn)⟩
theorem Fr.more (h:Fr S w w')(b : ∀k,k<w.heap.size->S k->S' k):Fr S' w w':=⟨h.os,h.tape,h.output,h.size,fun i a hn=>h.block i a (fun c=>hn (b i a c))⟩
theorem Fr.bel (h:Fr S w w')(k:ZB w' w''):Fr S w w'':=
 ⟨k.os.trans h.os,k.tape.trans h.tape,k.output.trans h.output,Nat.le_trans h.size k.size,fun i a hn=>(k.block i (Nat.lt_of_lt_of_le a h.size)).trans (h.block i a hn)⟩
theorem Fr.alloc (h:Fr S w w')(o:Obj):Fr S w (w'.alloc o):=
 ⟨h.os,h.tape,h.output,Nat.le_trans h.size (by simp),fun i a hn=>(Below.heap_alloc w' o i (Nat.lt_of_lt_of_le a h.size)).trans (h.block i a hn)⟩
theorem Fr.drew (h:Fr S w w'):Fr S w w'.drew:=⟨h.os,h.tape,h.output,h.size,h.block⟩
theorem Fr.drewN (h:Fr S w w')(n:Nat):Fr S w (w'.drewN n):=⟨h.os,h.tape,h.output,h.size,h.block⟩
theorem Fr.setCell (h:Fr S w w'){p:Addr}(hp:S p.block\/w.heap.size<=p.block)(u:Value):Fr S w (w'.setCell p u):=
 ⟨h.os, h.tape, h.output, by simpa [World.setCell] using h.size, fun i a hn => (Below.heap_setCell w' p u i (by
  rintro rfl
  rcases hp with hp|hp
  ·exact hn hp
  ·omega)).trans (h.block i a hn)⟩
theorem Fr.set1 {g:Nat}{w w':World}(h:Fr (· = g) w w')(i:Nat)(u:Value):Fr (· = g) w (w'.setCell ⟨g,i,none⟩ u):=h.setCell (.inl rfl) u
theorem Fr.call {S':Nat->Prop}(h:Fr S w w')(k:Fr S' w' w'')(c : ∀i,i<w.heap.size->S' i->S i):Fr S w w'':=
 ⟨k.os.trans h.os,k.tape.trans h.tape,k.output.trans h.output,Nat.le_trans h.size k.size,fun i a hn=>(k.block i (Nat.lt_of_lt_of_le a h.size) (fun b=>hn (c i a b))).trans (h.block i a hn)⟩
theorem Fr.below (h:Fr S w w')(b : ∀k,k<w.heap.size->¬S k):ZB w w':=⟨h.os,h.tape,h.output,h.size,fun i a=>h.block i a (b i a)⟩
theorem Fr.of_below (h:ZB w w'):Fr S w w':=⟨h.os,h.tape,h.output,h.size,fun i a _=>h.block i a⟩
theorem Fr.grown {row:Option Nat}(h:Fr S w w')(a:w'.grownBy w'' row)(c : ∀k,row=some k->k<w.heap.size->S k):Fr S w w'':=
 ⟨a.os.trans h.os,a.tape.trans h.tape,a.output.trans h.output,Nat.le_trans h.size a.size,fun i b hn=>(a.block i (Nat.lt_of_lt_of_le b h.size) (fun e=>hn (c i e.symm b))).trans (h.block i b hn)⟩
theorem Fr.cell (h:Fr S w w'){b:Nat}(a:b<w.heap.size)(hn : ¬S b)(o:Nat):w'.cell? ⟨b,o,none⟩=w.cell? ⟨b,o,none⟩:=World.cell?_of_block (w:=w) (h.block b a hn)
end
theorem bfr {w w1 a:World}{S:Nat->Prop}(h:ZB w w1)(k:Fr S w1 a)(d : ∀i,S i->w.heap.size<=i):ZB w a:=
 ⟨k.os.trans h.os,k.tape.trans h.tape,k.output.trans h.output,Nat.le_trans h.size k.size,fun i b=>(k.block i (Nat.lt_of_lt_of_le b h.size) (fun c=>by have:=d i c;omega)).trans (h.block i b)⟩
def Blk (w:World)(g:Nat)(t:TypeId)(cs:Array Value):Prop:=w.heap[g]? = some (.cells cs t (0,0))
section
variable {w w':World} {g:Nat} {t:TypeId} {cs:Array Value} {S:Nat->Prop}
theorem Blk.lt (h:Blk w g t cs):g<w.heap.size:=by
 rcases Nat.lt_or_ge g w.heap.size with a|b
 ·exact a
 ·unfold Blk at h;rw[Array.getElem?_eq_none b] at h;cases h
theorem Blk.cell (h:Blk w g t cs)(i:Nat):w.cell? ⟨g,i,none⟩=cs[i]? := cell_of_row w g i cs t (0,0) h
theorem Blk.frozen (h:Blk w g t cs)(i:Nat):w.frozen? ⟨g,i,none⟩=false:=by
 unfold Blk at h
 simp[World.frozen?,h]
theorem Blk.new (w:World)(t:TypeId)(cs:Array Value):Blk (w.alloc (.cells cs t)) w.heap.size t cs:=heap_alloc_new w _
theorem Blk.drew (h:Blk w g t cs):Blk w.drew g t cs:=h
theorem Blk.drewN (h:Blk w g t cs)(n:Nat):Blk (w.drewN n) g t cs:=h
theorem Blk.alloc (h:Blk w g t cs)(o:Obj):Blk (w.alloc o) g t cs:=(Below.heap_alloc w o g h.lt).trans h
theorem Blk.set_ (h:Blk w g t cs)(i:Nat)(u:Value):Blk (w.setCell ⟨g,i,none⟩ u) g t (cs.setIfInBounds i u):=by
 unfold Blk at h ⊢
 simp[World.setCell,Array.getElem?_modify,h]
theorem Blk.far (h:Blk w g t cs){p:Addr}(hp:g≠p.block)(u:Value):Blk (w.setCell p u) g t cs:=(Below.heap_setCell w p u g hp).trans h
theorem Blk.below (h:Blk w g t cs)(a:ZB w w'):Blk w' g t cs:=(a.block g h.lt).trans h
theorem Blk.fr (h:Blk w g t cs)(a:Fr S w w')(hn : ¬S g):Blk w' g t cs:=(a.block g h.lt hn).trans h
theorem Blk.grown {row:Option Nat}(h:Blk w g t cs)(a:w.grownBy w' row)(b:some g≠row):Blk w' g t cs:=(a.block g h.lt b).trans h
theorem Blk.ne_ {d:Nat}{e:TypeId}{b:Array Value}(h:Blk w g t cs)(a:Blk w d e b)(c:t≠e):g≠d:=by
 rintro rfl
 unfold Blk at h a
 rw[h] at a
 injection a with a
 injection a with _ ht
 exact c ht
theorem Blk.eq_ {a:Array Value}(h:Blk w g t cs)(e:cs=a):Blk w g t a:=e▸h
end
theorem Q4 (a:Addr)(n:Nat):(a.add n).block=a.block:=by unfold Addr.add;split<;>rfl
theorem Qgb (a:Addr)(i j:Nat):(a.add i).add j=a.add (i+j):=by
 unfold Addr.add
 by_cases hi:i=0<;>by_cases hj:j=0<;>simp[hi,hj,Nat.add_assoc]
def Reads (w:World)(D:Nat->Prop)(size:Nat)(A:Option Addr)(n:Nat)(xs:List Value):Prop:=
 xs.length=n*size/\(0<n->∃a,A=some a/\D a.block/\∀j u,xs[j]? = some u->w.cell? (a.add j)=some u)
def Any:Nat->Prop:=fun _=>True
theorem Qac {w:World}{p:Addr}{v:Value}(h:w.cell? p=some v):p.block<w.heap.size:=by
 rcases Nat.lt_or_ge p.block w.heap.size with b|a
 ·exact b
 ·unfold World.cell? at h;rw[Array.getElem?_eq_none a] at h;cases h
section
variable {w w':World} {D D' S:Nat->Prop} {size n:Nat} {A:Option Addr} {xs:List Value}
theorem Reads.none_:Reads w D size A 0 []:=⟨by simp,fun h=>absurd h (by omega)⟩
theorem Reads.at_ {k:Nat}(h:Reads w D 1 A n xs)(f:k<n):∃a u,A=some a/\D a.block/\xs[k]? = some u/\w.cell? (a.add k)=some u:=by
 obtain⟨a,e,c,d⟩:=h.2 (by omega)
 have b:k<xs.length:=by have:=h.1;omega
 exact⟨a,xs[k],e,c,List.getElem?_eq_getElem b,d k _ (List.getElem?_eq_getElem b)⟩
theorem Reads.keep (h:Reads w D size A n xs)(f : ∀p:Addr,D p.block->p.block<w.heap.size->w'.cell? p=w.cell? p):Reads w' D size A n xs:=
 ⟨h.1,fun hn=>by
  obtain⟨d,e,a,c⟩:=h.2 hn
  exact⟨d,e,a,fun j u b=>(f _ (by rw[Q4];exact a) (Qac (c j u b))).trans (c j u b)⟩⟩
theorem Reads.more (h:Reads w D size A n xs)(i : ∀b,D b->b<w.heap.size->D' b)(f:0<size):Reads w D' size A n xs:=
 ⟨h.1,fun hn=>by
  obtain⟨d,e,c,a⟩:=h.2 hn
  have hp:0<n*size:=Nat.mul_pos hn f
  have:=Qac (a 0 _ (List.getElem?_eq_getElem (by have:=h.1;omega)))
  rw[Q4] at this
  exact⟨d,e,i _ c this,a⟩⟩
theorem Reads.below (h:Reads w D size A n xs)(b:ZB w w'):Reads w' D size A n xs:=h.keep fun _ _ a=>b.cell a
theorem Reads.fr (h:Reads w D size A n xs)(c:Fr S w w')(hn : ∀b,D b->b<w.heap.size->¬S b):Reads w' D size A n xs:=
 h.keep fun p hp a=>World.cell?_of_block (w:=w) (c.block p.block a (hn _ hp a))
theorem Reads.cut (h:Reads w D size A n xs){k cap:Nat}(e:k<=n)(f:n<=cap) :
  Reads w D size (if cap=k then A else A.map (·.add (k*size))) (n-k) (xs.drop (k*size)):=by
 refine⟨by rw[List.length_drop,h.1,Nat.sub_mul],fun hn=>?_⟩
 obtain⟨d,rfl,b,a⟩:=h.2 (by omega)
 rw[if_neg (by omega)]
 refine⟨d.add (k*size),rfl,by rw[Q4];exact b,fun j u c=>?_⟩
 rw[Qgb]
 exact a _ u (by rw[<-c,List.getElem?_drop])
theorem Reads.take (h:Reads w D size A n xs){k:Nat}(e:k<=n):Reads w D size A k (xs.take (k*size)):=by
 refine⟨by rw[List.length_take,h.1];have:=Nat.mul_le_mul_right size e;omega,fun hn=>?_⟩
 obtain⟨d,rfl,c,a⟩:=h.2 (by omega)
 refine⟨d,rfl,c,fun j u b=>a j u ?_⟩
 rw[List.getElem?_take] at b
 split at b
 ·exact b
 ·cases b
theorem Reads.of_own {base:Nat}{e:TypeId}{c:Nat}(h:w.ownsRow base e size (.slice A n c) n xs):Reads w (fun b=>base<=b) size A n xs:=by
 refine⟨h.1,fun hn=>?_⟩
 obtain⟨g,cap,d,f,i⟩:=h.form hn
 have a:A=some ⟨g,0,none⟩:=by injection d
 subst a
 exact⟨_,rfl,by first|exact f|omega,h.cells (g:=g) rfl⟩
end
def Ints (w:World)(D:Nat->Prop)(A:Option Addr)(n:Nat)(l:List Int):Prop:=Reads w D 1 A n (l.map (Value.int .i64))
theorem Ints.len {w:World}{D:Nat->Prop}{A:Option Addr}{n:Nat}{l:List Int}(h:Ints w D A n l):l.length=n:=by have:=h.1;simpa using this
theorem Ints.at_ {w:World}{D:Nat->Prop}{A:Option Addr}{n:Nat}{l:List Int}{k:Nat}(h:Ints w D A n l)(f:k<n):∃b,A=some b/\D b.block/\w.cell? (b.add k)=some (.int .i64 (l.getD k 0)):=by
 obtain⟨b,u,e,c,a,d⟩:=Reads.at_ h f
 refine⟨b,e,c,?_⟩
 rw[d,List.getD_eq_getElem?_getD]
 rw[List.getElem?_map] at a
 cases hl:l[k]? with
 |none=>rw[hl] at a;cases a
 |some v=>rw[hl] at a;simp at a;simp[a]
theorem pA {α : Type}(l:List α)(i:Nat)(a : α):l.toArray.setIfInBounds i a=(l.set i a).toArray:=List.setIfInBounds_toArray ..
theorem pB {α : Type}(a b : α)(l:List α):(a::l).set 0 b=b::l:=List.set_cons_zero ..
theorem pC {α : Type}(a b : α)(l:List α)(n:Nat):(a::l).set (n+1) b=a::l.set n b:=List.set_cons_succ ..
def QfF (P:Program)(S:World->Prop)(v:Value):Result Next->Prop
 | .ok (.value u) w'=>u=v/\S w'
 | .ok (.enter f args) w'=>Calls P f args w' fun e a=>e=.returned v/\S a
 |_=>False
def Steady (P:Program)(ops:Array Oper)(S:World->Prop)(o:Oper)(v:Value)(a:Act):Prop:=
 (Region.wanted o (yielded ops a.tmps)=true/\∀w,S w->QfF P S v ((execOp a.eval o).run P w))\/(Region.wanted o (yielded ops a.tmps)=false/\v=undef)
section
variable {P:Program} {ops:Array Oper} {md:Region.Mode} {S:World->Prop} {Q:Exit->Act->World->Prop}
theorem Steady.of_same {o:Oper}{v:Value}{a b:Act}(e:Steady P ops S o v a)(c:execOp b.eval o=execOp a.eval o)
  (d:Region.wanted o (yielded ops b.tmps)=Region.wanted o (yielded ops a.tmps)):Steady P ops S o v b:=by
 unfold Steady at *
 rw[c,d]
 exact e
theorem Steady.wpOp {i:Nat}{o:Oper}{v:Value}{a:Act}{K:Act->World->Prop}{w:World}(d:ops[i]? = some o)(g:Steady P ops S o v a)(c:S w)
  (h : ∀w',S w'->K (a.put o.dst v) w'):Go.wpOp P ops Q i K a w:=by
 unfold Go.wpOp
 simp only[d]
 rcases g with ⟨b,hv⟩|⟨b,rfl⟩
 ·simp only[b,if_true]
  refine .inl ?_
  have h1:=hv w c
  unfold Oper.wp
  generalize (execOp a.eval o).run P w=r at *
  cases r with
  |ok n w'=>
   cases n<;>simp only[QfF] at h1<;>simp only[Oper.upon]
   case value u=>obtain⟨rfl,h2⟩:=h1;exact h _ h2
   case enter f args=>exact Calls.mono h1 fun e w'' ⟨he,h2⟩=>by subst he;exact h _ h2
  |halt x w'=>simp only[QfF] at h1
 ·simp only[b,Bool.false_eq_true,if_false]
  exact h w c
def Lin (P:Program)(ops:Array Oper)(S:World->Prop)(L:Act->Prop):List Nat->Act->Prop
 | [],a=>L a
 |i::is,a=>∃o v,ops[i]? = some o/\Steady P ops S o v a/\Lin P ops S L is (a.put o.dst v)
theorem Lin.pull {L:Act->Prop}(c : ∀(j:Nat) (o:Oper) l b,ops[j]? = some o->o.op≠.select l b){j:Nat} :
  ∀(is:List Nat) (a:Act),j ∈ is->is.Pairwise (· < ·)->(∀i ∈ is,i<j->∀oi oj,ops[i]? = some oi->ops[j]? = some oj->oi.apart ops oj=true)->Lin P ops S L is a ->
   ∃o v,ops[j]? = some o/\Steady P ops S o v a/\Lin P ops S L (is.erase j) (a.put o.dst v):=by
 intro is
 induction is with
 |nil=>intro a n;cases n
 |cons i is ih=>
  intro a n hp h H
  by_cases hij:i=j
  ·subst hij
   rw[List.erase_cons_head]
   exact H
  ·have g:j ∈ is:=(List.mem_cons.1 n).resolve_left (fun e=>hij e.symm)
   obtain⟨s,r⟩:=List.pairwise_cons.1 hp
   obtain⟨oi,vi,d,p,w⟩:=H
   obtain⟨oj,vj,f,q,m⟩:=ih _ g r (fun k u=>h k (List.mem_cons_of_mem _ u)) w
   obtain⟨h1,h2,t⟩:=Oper.apart_spec (h i List.mem_cons_self (s j g) oi oj d f)
   refine⟨oj,vj,f,q.of_same (execOp_put oj (fun l b=>c j oj l b f) a oi.dst vi h1).symm (wanted_put oj a oi.dst vi h1).symm,?_⟩
   rw[List.erase_cons_tail (by simpa using hij)]
   refine⟨oi,vi,d,p.of_same (execOp_put oi (fun l b=>c i oi l b d) a oj.dst vj t) (wanted_put oi a oj.dst vj t),?_⟩
   rw[<-Act.put_comm a vi vj h2]
   exact m
def QcT (md:Region.Mode)(ops:Array Oper):Bool:=
 Region.noSelect ops && (List.range ops.size).all fun j=>match ops[j]? with
  |none=>true
  |some oj=>(oj.after.all fun e => !Region.binds md e || decide (e.on<j)) && (List.range j).all fun i=>oj.after.any (fun e=>Region.binds md e && e.on==i) || match ops[i]? with
   |none=>true
   |some oi=>oi.apart ops oj
theorem Qb0 (h:QcT md ops=true):Region.noSelect ops=true/\(∀j oj,ops[j]? = some oj->∀e ∈ oj.after,Region.binds md e=true->e.on<j) /\
  ∀i j oi oj,i<j->ops[i]? = some oi->ops[j]? = some oj->(∀e ∈ oj.after,Region.binds md e=true->e.on≠i)->oi.apart ops oj=true:=by
 unfold QcT at h
 rw[Bool.and_eq_true] at h
 have h2:=List.all_eq_true.1 h.2
 refine⟨h.1,fun j oj c e g b=>?_,fun i j oi oj f l c k=>?_⟩
 ·have d:=h2 j (List.mem_range.2 (Array.getElem?_eq_some_iff.1 c).1)
  simp only[c,Bool.and_eq_true] at d
  have a:=Array.all_eq_true_iff_forall_mem.1 d.1 e g
  simp only[b,Bool.not_true,Bool.false_or,decide_eq_true_eq] at a
  exact a
 ·have d:=h2 j (List.mem_range.2 (Array.getElem?_eq_some_iff.1 c).1)
  simp only[c,Bool.and_eq_true] at d
  have a:=List.all_eq_true.1 d.2 i (List.mem_range.2 f)
  simp only[l,Bool.or_eq_true] at a
  rcases a with a|a
  ·obtain⟨e,g,b⟩:=Array.any_eq_true'.1 a
   simp only[Bool.and_eq_true,beq_iff_eq] at b
   exact absurd b.2 (k e g b.1)
  ·exact a
theorem Qid (M:QcT md ops=true) : ∀(fuel:Nat) (is:List Nat) (listed:Array Bool) (a:Act) (w:World),is.length<=fuel->listed.size=ops.size ->
  (∀j,j<ops.size->(listed.getD j true=false↔j ∈ is))->(∀j ∈ is,j<ops.size)->is.Pairwise (· < ·)->S w->Lin P ops S (fun a=>∀w,S w->Q .normal a w) is a->wpAny P md ops Q fuel listed a w:=by
 obtain⟨q,K,I⟩:=Qb0 M
 intro fuel
 have s : ∀(is:List Nat) (listed:Array Bool),listed.size=ops.size->(∀j,j<ops.size->(listed.getD j true=false↔j ∈ is))->(∀j ∈ is,j<ops.size)->is.Pairwise (· < ·)->Region.ready md ops listed=[]->is=[]:=by
  intro is listed d b c hp C
  cases is with
  |nil=>rfl
  |cons i is=>
   exfalso
   have g:=c i List.mem_cons_self
   have:i ∈ Region.ready md ops listed:=by
    refine mem_ready.2 ⟨(b i g).2 List.mem_cons_self,ops[i],Array.getElem?_eq_getElem g,fun e F x=>?_⟩
    have h1:=K i _ (Array.getElem?_eq_getElem g) e F x
    cases h2:listed.getD e.on false with
    |true=>rfl
    |false=>
     have l:=(b e.on (by omega)).1 (getD_in (by omega) h2)
     rcases List.mem_cons.1 l with l|l
     ·omega
     ·have:=(List.pairwise_cons.1 hp).1 _ l;omega
   rw[C] at this
   cases this
 induction fuel with
 |zero=>
  intro is listed a w N d b c hp u H
  have e:is=[]:=List.eq_nil_of_length_eq_zero (by omega)
  subst e
  refine⟨?_,H w u⟩
  rw[List.eq_nil_iff_forall_not_mem]
  intro j z
  obtain⟨h1,o,E,_⟩:=mem_ready.1 z
  have:=(b j (Array.getElem?_eq_some_iff.1 E).1).1 h1
  cases this
 |succ fuel ih=>
  intro is listed a w N d b c hp u H
  refine⟨fun C=>?_,fun j z=>?_⟩
  ·have e:=s is listed d b c hp C
   subst e
   exact H w u
  ·obtain⟨h1,oj,n,r⟩:=mem_ready.1 z
   have y:=(Array.getElem?_eq_some_iff.1 n).1
   have p:=(b j y).1 h1
   obtain ⟨o, v, E, L, O⟩ := Lin.pull (Region.noSelect_spec q) is a p hp (fun i g D oi m A f=>by
    refine I i j oi m D A f (fun e F x B=>?_)
    have:m=oj:=Option.some.inj (f.symm.trans n)
    subst this
    have h2:=r e F x
    have l:=(b i (c i g)).2 g
    rw[B] at h2
    rw[getD_both l] at h2
    cases h2) H
   refine L.wpOp E u (fun w' G=>?_)
   have J:is.Nodup:=hp.imp (fun h=>Nat.ne_of_lt h)
   refine ih (is.erase j) _ _ w' (by rw[List.length_erase_of_mem p];omega) (by simpa using d) (fun k t=>?_) (fun k t=>c k (List.mem_of_mem_erase t)) (hp.sublist List.erase_sublist) G O
   rw[J.mem_erase_iff]
   by_cases hkj:k=j
   ·subst hkj
    simp[d,t]
   ·rw[getD_set_ne true (Ne.symm hkj),b k t]
    simp[hkj]
def Qoc (P:Program)(ops:Array Oper)(S:World->Prop)(L:Act->Prop):List Oper->Act->Prop
 | [],a=>L a
 |o::os,a=>∃v,Steady P ops S o v a/\Qoc P ops S L os (a.put o.dst v)
theorem QnM {L:Act->Prop} : ∀(os:List Oper) (k:Nat) (a:Act),(∀j,os[j]? = ops[k+j]?)->Qoc P ops S L os a->Lin P ops S L (List.range' k os.length) a:=by
 intro os
 induction os with
 |nil=>intro k a _ h;exact h
 |cons o os ih=>
  intro k a b h
  obtain⟨v,c,h⟩:=h
  rw[List.length_cons,List.range'_succ]
  refine⟨o,v,by have:=b 0;simpa using this.symm,c,ih (k+1) _ (fun j=>?_) h⟩
  have:=b (j+1)
  rw[List.getElem?_cons_succ] at this
  rw[this,Nat.add_right_comm,Nat.add_assoc]
theorem Qv {id:Nat}{a:Act}{w:World}{l:List Oper}(S:World->Prop)(hm:P.follows .mixedOrders=true)(c:QcT .any l.toArray=true)(d:S w.drew)
  (h:Qoc P l.toArray S (fun a=>∀w,S w->Q .normal a w) l a):(Code.region id l.toArray true).wp P Q a w:=by
 refine wp_region_any hm (Qid c _ (List.range' 0 l.length) _ a _ (by simp) (by simp) (fun j b=>?_) (fun j b=>by simpa using b) (List.pairwise_lt_range' ..) d (QnM l 0 a (fun j=>by simp) h))
 simp at b
 simp[b]
theorem Qav {L:Act->Prop}{a:Act}(h:L a):Qoc P ops S L [] a:=h
theorem Q9 {L:Act->Prop}{o:Oper}{os:List Oper}{a:Act}{v:Value}(c:Region.wanted o (yielded ops a.tmps)=true)(d : ∀w,S w->(execOp a.eval o).run P w=.ok (.value v) w)
  (h:Qoc P ops S L os (a.put o.dst v)):Qoc P ops S L (o::os) a:=⟨v,.inl ⟨c,fun w b=>by rw[d w b];exact⟨rfl,b⟩⟩,h⟩
theorem Qaw {L:Act->Prop}{o:Oper}{os:List Oper}{a:Act}(b:Region.wanted o (yielded ops a.tmps)=false)(h:Qoc P ops S L os (a.put o.dst undef)):Qoc P ops S L (o::os) a:=
 ⟨undef,.inr ⟨b,rfl⟩,h⟩
theorem QO {L:Act->Prop}{o:Oper}{os:List Oper}{a:Act}{f:FuncId}{args:Array Value}{v:Value}(d:Region.wanted o (yielded ops a.tmps)=true)(c : ∀w,S w->(execOp a.eval o).run P w=.ok (.enter f args) w)
  (g : ∀w,S w->Calls P f args w fun e w'=>e=.returned v/\S w') (h:Qoc P ops S L os (a.put o.dst v)):Qoc P ops S L (o::os) a:=
 ⟨v,.inl ⟨d,fun w b=>by rw[c w b];exact g w b⟩,h⟩
end
section
variable {P:Program} {ops:Array Oper} {md:Region.Mode} {S0:World->Prop} {hv fin fr:Nat->Bool} {Q:Exit->Act->World->Prop}
def RS (P:Program)(ops:Array Oper)(S0:World->Prop)(o:Oper)(v:Value)(a:Act):Prop:=
 (Region.wanted o (yielded ops a.tmps)=true/\∀w,S0 w->(execOp a.eval o).run P w=.ok (.value v) w)\/(Region.wanted o (yielded ops a.tmps)=false/\v=undef)
def HRun (P:Program)(T:Value->World->Prop):Result Next->Prop
 | .ok (.value u) w'=>T u w'
 | .ok .skip w'=>T undef w'
 | .ok (.enter f args) w'=>Calls P f args w' fun e a=>∃v,e=.returned v/\T v a
 |_=>False
theorem HRun.some {T:Value->World->Prop}{r:Result Next}(h:HRun P T r):∃v w,T v w:=by
 cases r with
 |ok n w'=>
  cases n<;>simp only[HRun] at h
  case value u=>exact⟨u,w',h⟩
  case skip=>exact⟨_,w',h⟩
  case enter f args=>
   obtain⟨e,a,fr,⟨v,_,b⟩,_⟩:=h []
   exact⟨v,a,b⟩
 |halt x w'=>simp only[HRun] at h
def HS (P:Program)(ops:Array Oper)(S:World->Prop)(o:Oper)(T:Value->World->Prop)(a:Act):Prop:=
 Region.wanted o (yielded ops a.tmps)=true/\∀w,S w->HRun P T ((execOp a.eval o).run P w)
theorem RS.of_same {o:Oper}{v:Value}{a b:Act}(e:RS P ops S0 o v a)(c:execOp b.eval o=execOp a.eval o)
  (d:Region.wanted o (yielded ops b.tmps)=Region.wanted o (yielded ops a.tmps)):RS P ops S0 o v b:=by
 unfold RS at *
 rw[c,d]
 exact e
theorem RS.uniq {o:Oper}{v v':Value}{a:Act}{w:World}(h:RS P ops S0 o v a)(d:RS P ops S0 o v' a)(c:S0 w):v=v':=by
 rcases h with ⟨h1,h2⟩|⟨h1,rfl⟩<;>rcases d with ⟨b,e⟩|⟨b,rfl⟩
 ·have:=(h2 w c).symm.trans (e w c)
  injection this with this
  injection this
 ·rw[h1] at b;cases b
 ·rw[h1] at b;cases b
 ·rfl
theorem HS.of_same {S:World->Prop}{o:Oper}{T:Value->World->Prop}{a b:Act}(e:HS P ops S o T a)(c:execOp b.eval o=execOp a.eval o)
  (d:Region.wanted o (yielded ops b.tmps)=Region.wanted o (yielded ops a.tmps)):HS P ops S o T b:=by
 unfold HS at *
 rw[c,d]
 exact e
def Lin2 (P:Program)(ops:Array Oper)(S0:World->Prop)(hv fin fr:Nat->Bool)(L:Act->World->Prop):(World->Prop)->List Nat->Act->Prop
  |S,[],a=>∀w,S w->L a w
  |S,i::is,a=>∃o,ops[i]? = some o /\
      ((∃v,RS P ops (fun w=>fr i=true\/S0 w) o v a/\Lin2 P ops S0 hv fin fr L S is (a.put o.dst v)) \/
       (hv i=true/\∃T,HS P ops S o T a/\(fin i=true\/∀v w,T v w->S0 w)/\∀v,(∃w,T v w)->Lin2 P ops S0 hv fin fr L (T v) is (a.put o.dst v)))
theorem Lin2.pull {L:Act->World->Prop}(d : ∀(j:Nat) (o:Oper) n b,ops[j]? = some o->o.op≠.select n b){j:Nat} :
    ∀(is:List Nat) (S:World->Prop) (a:Act),j ∈ is->is.Pairwise (· < ·)->(∀i ∈ is,i<j->∀oi oj,ops[i]? = some oi->ops[j]? = some oj->oi.apart ops oj=true) ->
      (∀i ∈ is,i<j->hv i=true->hv j=false)->(∀i ∈ is,i<j->fin i=false\/fr j=true)->(∃w,S w)->(∀w,S w->fr j=true\/S0 w)->Lin2 P ops S0 hv fin fr L S is a ->
      ∃ o, ops[j]? = some o /\ ((∃v,RS P ops (fun w=>fr j=true\/S0 w) o v a/\Lin2 P ops S0 hv fin fr L S (is.erase j) (a.put o.dst v)) \/
       (hv j=true/\∃T,HS P ops S o T a/\(fin j=true\/∀v w,T v w->S0 w)/\∀v,(∃w,T v w)->Lin2 P ops S0 hv fin fr L (T v) (is.erase j) (a.put o.dst v))):=by
  intro is
  induction is with
  |nil=>intro S a M;cases M
  |cons i is ih=>
    intro S a M hp x z p V F H
    by_cases hij:i=j
    · subst hij
      rw[List.erase_cons_head]
      exact H
    · have A:j ∈ is:=(List.mem_cons.1 M).resolve_left (fun e=>hij e.symm)
      obtain⟨U,I⟩:=List.pairwise_cons.1 hp
      have g:=U j A
      rw[List.erase_cons_tail (by simpa using hij)]
      obtain⟨oi,f,H⟩:=H
      rcases H with ⟨vi,D,H⟩|⟨W,T,J,u,H⟩
      · obtain⟨oj,c,r⟩:=ih S _ A I (fun k q=>x k (List.mem_cons_of_mem _ q)) (fun k q=>z k (List.mem_cons_of_mem _ q)) (fun k q=>p k (List.mem_cons_of_mem _ q)) V F H
        obtain⟨h1,h2,y⟩:=Oper.apart_spec (x i List.mem_cons_self g oi oj f c)
        refine⟨oj,c,?_⟩
        rcases r with ⟨vj,m,r⟩|⟨s,T,J,u,r⟩
        · refine .inl ⟨vj,m.of_same (execOp_put oj (fun n b=>d j oj n b c) a oi.dst vi h1).symm (wanted_put oj a oi.dst vi h1).symm,oi,f,.inl ⟨vi,D.of_same (execOp_put oi (fun n b=>d i oi n b f) a oj.dst vj y) (wanted_put oi a oj.dst vj y),?_⟩⟩
          rw[<-Act.put_comm a vi vj h2]
          exact r
        · refine .inr ⟨s,T,J.of_same (execOp_put oj (fun n b=>d j oj n b c) a oi.dst vi h1).symm (wanted_put oj a oi.dst vi h1).symm,u,fun v hv=>?_⟩
          refine⟨oi,f,.inl ⟨vi,D.of_same (execOp_put oi (fun n b=>d i oi n b f) a oj.dst v y) (wanted_put oi a oj.dst v y),?_⟩⟩
          rw[<-Act.put_comm a vi v h2]
          exact r v hv
      · have O:hv j=false:=z i List.mem_cons_self g W
        have R : ∀v w,T v w->fr j=true\/S0 w:=by
          rcases u with h|h
          · rcases p i List.mem_cons_self g with h1|h1
            · rw[h1] at h;cases h
            · exact fun _ _ _=>.inl h1
          · exact fun v w Y=>.inr (h v w Y)
        obtain⟨w0,E⟩:=V
        obtain⟨X,w1,K⟩:=(J.2 w0 E).some
        have key : ∀v,(∃w,T v w)->∃oj vj,ops[j]? = some oj/\RS P ops (fun w=>fr j=true\/S0 w) oj vj a/\oi.apart ops oj=true/\Lin2 P ops S0 hv fin fr L (T v) (is.erase j) ((a.put oi.dst v).put oj.dst vj):=by
          intro v t
          obtain⟨oj,c,r⟩:=ih (T v) _ A I (fun k q=>x k (List.mem_cons_of_mem _ q)) (fun k q=>z k (List.mem_cons_of_mem _ q)) (fun k q=>p k (List.mem_cons_of_mem _ q)) t (fun w h=>R v w h) (H v t)
          have l:=x i List.mem_cons_self g oi oj f c
          obtain⟨h1,h2,y⟩:=Oper.apart_spec l
          rcases r with ⟨vj,m,r⟩|⟨s,_⟩
          · exact⟨oj,vj,c,m.of_same (execOp_put oj (fun n b=>d j oj n b c) a oi.dst v h1).symm (wanted_put oj a oi.dst v h1).symm,l,r⟩
          · rw[O] at s;cases s
        obtain⟨oj,vj,c,m,l,_⟩:=key X ⟨w1,K⟩
        obtain⟨h1,h2,y⟩:=Oper.apart_spec l
        refine⟨oj,c,.inl ⟨vj,m,oi,f,.inr ⟨W,T,J.of_same (execOp_put oi (fun n b=>d i oi n b f) a oj.dst vj y) (wanted_put oi a oj.dst vj y),u,fun v t=>?_⟩⟩⟩
        obtain⟨N,B,G,C,_,r⟩:=key v t
        have Z:N=oj:=Option.some.inj (G.symm.trans c)
        subst Z
        have e2:B=vj:=C.uniq m (F w0 E)
        subst e2
        rw[<-Act.put_comm a v B h2]
        exact r
def Qcg (md:Region.Mode)(ops:Array Oper)(i:Nat):Nat->Nat->Bool
 | 0,_=>false
 |f+1,j=>match ops[j]? with
  |none=>false
  |some oj=>oj.after.any fun e=>Region.binds md e && (e.on==i || Qcg md ops i f e.on)
def Qrz (md:Region.Mode)(ops:Array Oper)(hv fin fr:Nat->Bool):Bool:=
 QcT md ops && (List.range ops.size).all fun j=>(List.range j).all fun i=>
  (!(hv i && hv j) || Qcg md ops i ops.size j) && (!(fin i) || fr j) && (!(fin j) || Qcg md ops i ops.size j || fr i)
def QdD (md:Region.Mode)(ops:Array Oper)(listed:Array Bool):Prop:=∀j oj,ops[j]? = some oj->listed.getD j false=true->∀e ∈ oj.after,Region.binds md e=true->listed.getD e.on false=true
theorem Qa1 {listed:Array Bool}(k:QdD md ops listed){i:Nat} : ∀(f j:Nat) oj,ops[j]? = some oj->(∀e ∈ oj.after,Region.binds md e=true->listed.getD e.on false=true)->Qcg md ops i f j=true->listed.getD i false=true:=by
 intro f
 induction f with
 |zero=>intro j oj _ _ h;cases h
 |succ f ih=>
  intro j oj c a h
  simp only[Qcg,c] at h
  obtain⟨e,d,b⟩:=Array.any_eq_true'.1 h
  rw[Bool.and_eq_true,Bool.or_eq_true,beq_iff_eq] at b
  rcases b.2 with h1|h1
  ·rw[<-h1];exact a e d b.1
  ·have g:=a e d b.1
   cases ho:ops[e.on]? with
   |none=>
    cases f with
    |zero=>cases h1
    |succ f=>simp only[Qcg,ho] at h1;cases h1
   |some o'=>exact ih e.on o' ho (k e.on o' ho g) h1
theorem QhS (h:Qrz md ops hv fin fr=true):QcT md ops=true/\∀i j oj,i<j->ops[j]? = some oj->(hv i=true->hv j=true->Qcg md ops i ops.size j=true)/\(fin i=false\/fr j=true)/\(fin j=true->Qcg md ops i ops.size j=true\/fr i=true):=by
 unfold Qrz at h
 rw[Bool.and_eq_true] at h
 refine⟨h.1,fun i j oj d e=>?_⟩
 have h1:=List.all_eq_true.1 (List.all_eq_true.1 h.2 j (List.mem_range.2 (Array.getElem?_eq_some_iff.1 e).1)) i (List.mem_range.2 d)
 simp only[e,Bool.and_eq_true,Bool.or_eq_true,Bool.not_eq_true',Bool.and_eq_false_iff] at h1
 obtain⟨⟨h2,g⟩,c⟩:=h1
 refine⟨fun a b=>?_,g,fun f=>?_⟩
 ·rcases h2 with (h2|h2)|h2
  ·rw[a] at h2;cases h2
  ·rw[b] at h2;cases h2
  ·exact h2
 ·rcases c with (c|c)|c
  ·rw[f] at c;cases c
  ·exact .inl c
  ·exact .inr c
theorem Qg6 (hB:Qrz md ops hv fin fr=true) : ∀(fuel:Nat) (S:World->Prop) (is:List Nat) (listed:Array Bool) (a:Act) (w:World),is.length<=fuel->listed.size=ops.size ->
  (∀j,j<ops.size->(listed.getD j true=false↔j ∈ is))->(∀j ∈ is,j<ops.size)->is.Pairwise (· < ·)->QdD md ops listed->((∀i ∈ is,fr i=true)\/∀w,S w->S0 w)->S w->Lin2 P ops S0 hv fin fr (Q .normal) S is a->wpAny P md ops Q fuel listed a w:=by
 obtain⟨a3,z⟩:=QhS hB
 obtain⟨N,a7,a9⟩:=Qb0 a3
 intro fuel
 have R : ∀(is:List Nat) (listed:Array Bool),listed.size=ops.size->(∀j,j<ops.size->(listed.getD j true=false↔j ∈ is))->(∀j ∈ is,j<ops.size)->is.Pairwise (· < ·)->Region.ready md ops listed=[]->is=[]:=by
  intro is listed q b g hp hr
  cases is with
  |nil=>rfl
  |cons i is=>
   exfalso
   have t:=g i List.mem_cons_self
   have:i ∈ Region.ready md ops listed:=by
    refine mem_ready.2 ⟨(b i t).2 List.mem_cons_self,ops[i],Array.getElem?_eq_getElem t,fun e E M=>?_⟩
    have h1:=a7 i _ (Array.getElem?_eq_getElem t) e E M
    cases h2:listed.getD e.on false with
    |true=>rfl
    |false=>
     have m:=(b e.on (by omega)).1 (getD_in (by omega) h2)
     rcases List.mem_cons.1 m with m|m
     ·omega
     ·have:=(List.pairwise_cons.1 hp).1 _ m;omega
   rw[hr] at this
   cases this
 induction fuel with
 |zero=>
  intro S is listed a w hf q b g hp A J D H
  have e:is=[]:=List.eq_nil_of_length_eq_zero (by omega)
  subst e
  refine⟨?_,H w D⟩
  rw[List.eq_nil_iff_forall_not_mem]
  intro j hj
  obtain⟨h1,o,ho,_⟩:=mem_ready.1 hj
  have:=(b j (Array.getElem?_eq_some_iff.1 ho).1).1 h1
  cases this
 |succ fuel ih=>
  intro S is listed a w hf q b g hp A J D H
  refine⟨fun hr=>?_,fun j hj=>?_⟩
  ·have e:=R is listed q b g hp hr
   subst e
   exact H w D
  ·obtain⟨h1,oj,c,p⟩:=mem_ready.1 hj
   have Z:=(Array.getElem?_eq_some_iff.1 c).1
   have G:=(b j Z).1 h1
   have Y : ∀w,S w->fr j=true\/S0 w:=by
    rcases J with h|h
    ·exact fun _ _=>.inl (h j G)
    ·exact fun w L=>.inr (h w L)
   have a1:(∀i ∈ is.erase j,fr i=true)\/∀w,S w->S0 w:=J.imp (fun h k y=>h k (List.mem_of_mem_erase y)) id
   have I : ∀i ∈ is,listed.getD i false≠true:=by
    intro i t h2
    have m:=(b i (g i t)).2 t
    rw[getD_both m] at h2
    cases h2
   obtain ⟨o, ho, F⟩ := Lin2.pull (Region.noSelect_spec N) is S a G hp (fun i t s oi V a4 C=>by
    refine a9 i j oi V s a4 C (fun e E M a5=>?_)
    have:V=oj:=Option.some.inj (C.symm.trans c)
    subst this
    have h2:=p e E M
    rw[a5] at h2
    exact I i t h2)
    (fun i t s h2=>by
     cases m:hv j with
     |false=>rfl
     |true=>
      exfalso
      exact I i t (Qa1 A _ j oj c p ((z i j oj s c).1 h2 m)))
    (fun i t s=>(z i j oj s c).2.1) ⟨w,D⟩ Y H
   have e1:o=oj:=Option.some.inj (ho.symm.trans c)
   subst e1
   have W:is.Nodup:=hp.imp (fun h=>Nat.ne_of_lt h)
   have U:QdD md ops (listed.setIfInBounds j true):=by
    intro k ok a2 y e E M
    have a0:listed.getD e.on false=true:=by
     by_cases d:k=j
     ·subst d
      have:ok=o:=Option.some.inj (a2.symm.trans c)
      subst this
      exact p e E M
     ·rw[getD_set_ne false (Ne.symm d)] at y
      exact A k ok a2 y e E M
    by_cases hej:e.on=j
    ·rw[hej]
     simp[q,Z]
    ·rw[getD_set_ne false (Ne.symm hej)]
     exact a0
   have K : ∀k,k<ops.size->((listed.setIfInBounds j true).getD k true=false↔k ∈ is.erase j):=by
    intro k y
    rw[W.mem_erase_iff]
    by_cases d:k=j
    ·subst d
     simp[q,y]
    ·rw[getD_set_ne true (Ne.symm d),b k y]
     simp[d]
   have go:=fun(S':World->Prop) (a':Act) (w':World) (h0:(∀i ∈ is.erase j,fr i=true)\/∀w,S' w->S0 w) (a6:S' w') (HH:Lin2 P ops S0 hv fin fr (Q .normal) S' (is.erase j) a')=>
    ih S' (is.erase j) (listed.setIfInBounds j true) a' w' (by rw[List.length_erase_of_mem G];omega) (by simpa using q) K (fun k y=>g k (List.mem_of_mem_erase y)) (hp.sublist List.erase_sublist) U h0 a6 HH
   unfold Go.wpOp
   simp only[c]
   rcases F with ⟨v,hy,F⟩|⟨b1,T,⟨L,hT⟩,a8,F⟩
   ·rcases hy with ⟨L,hr⟩|⟨L,rfl⟩
    ·simp only[L,if_true]
     refine .inl ?_
     unfold Oper.wp
     rw[hr w (Y w D)]
     exact go S _ w a1 D F
    ·simp only[L,Bool.false_eq_true,if_false]
     exact go S _ w a1 D F
   ·simp only[L,if_true]
    refine .inl ?_
    have l : ∀v,(∀k ∈ is.erase j,fr k=true)\/∀w,T v w->S0 w:=by
     intro v
     rcases a8 with B|B
     ·refine .inl ?_
      intro k y
      obtain⟨d,X⟩:=W.mem_erase_iff.1 y
      rcases Nat.lt_or_ge k j with h2|h2
      ·rcases(z k j o h2 c).2.2 B with m|m
       ·exact absurd (Qa1 A _ j o c p m) (I k X)
       ·exact m
      ·have m:j<k:=by omega
       have b0:=g k X
       rcases(z j k ops[k] m (Array.getElem?_eq_getElem b0)).2.1 with h4|h4
       ·rw[B] at h4
        cases h4
       ·exact h4
     ·exact .inr (B v)
    have h2:=hT w D
    unfold Oper.wp
    generalize (execOp a.eval o).run P w=r at *
    cases r with
    |ok n w'=>
     cases n<;>simp only[HRun] at h2<;>simp only[Oper.upon]
     case value u=>exact go (T u) _ w' (l u) h2 (F u ⟨w',h2⟩)
     case skip=>exact go (T undef) _ w' (l undef) h2 (F undef ⟨w',h2⟩)
     case enter f args=>
      refine Calls.mono h2 fun e O E=>?_
      obtain⟨v,rfl,ht⟩:=E
      exact go (T v) _ O (l v) ht (F v ⟨O,ht⟩)
    |halt x w'=>simp only[HRun] at h2
def wpL (P:Program)(ops:Array Oper)(S0:World->Prop)(hv fin fr:Nat->Bool)(L:Act->World->Prop):Nat->(World->Prop)->List Oper->Act->Prop
  |_,S,[],a=>∀w,S w->L a w
  |k,S,o::os,a=>(∃v,RS P ops (fun w=>fr k=true\/S0 w) o v a/\wpL P ops S0 hv fin fr L (k+1) S os (a.put o.dst v)) \/
      (hv k=true/\∃T,HS P ops S o T a/\(fin k=true\/∀v w,T v w->S0 w)/\∀v,(∃w,T v w)->wpL P ops S0 hv fin fr L (k+1) (T v) os (a.put o.dst v))
theorem QlV {L:Act->World->Prop} : ∀(os:List Oper) (k:Nat) (S:World->Prop) (a:Act),(∀j,os[j]? = ops[k+j]?)->wpL P ops S0 hv fin fr L k S os a->Lin2 P ops S0 hv fin fr L S (List.range' k os.length) a:=by
 intro os
 induction os with
 |nil=>intro k S a _ h;exact h
 |cons o os ih=>
  intro k S a e h
  rw[List.length_cons,List.range'_succ]
  have b : ∀j,os[j]? = ops[k+1+j]? := fun j=>by
   have:=e (j+1)
   rw[List.getElem?_cons_succ] at this
   rw[this,Nat.add_right_comm,Nat.add_assoc]
  refine⟨o,by have:=e 0;simpa using this.symm,?_⟩
  rcases h with ⟨v,i,h⟩|⟨f,T,g,d,h⟩
  ·exact .inl ⟨v,i,ih (k+1) S _ b h⟩
  ·exact .inr ⟨f,T,g,d,fun v c=>ih (k+1) (T v) _ b (h v c)⟩
theorem Qg {id:Nat}{a:Act}{w:World}{l:List Oper}(S0 S:World->Prop)(hv fin fr:Nat->Bool)(hm:P.follows .mixedOrders=true)(e:Qrz .any l.toArray hv fin fr=true)(f:S w.drew)(d : ∀w,S w->S0 w)
  (h:wpL P l.toArray S0 hv fin fr (Q .normal) 0 S l a):(Code.region id l.toArray true).wp P Q a w:=by
 refine wp_region_any hm (Qg6 e _ S (List.range' 0 l.length) _ a _ (by simp) (by simp) (fun j b=>?_) (fun j b=>by simpa using b) (List.pairwise_lt_range' ..) (fun j oj b c=>?_) (.inr d) f (QlV l 0 S a (fun j=>by simp) h))
 ·simp at b
  simp[b]
 ·exfalso
  rw[Array.getD_eq_getD_getElem?] at c
  rw[Array.getElem?_replicate] at c
  split at c<;>simp at c
theorem Qu {L:Act->World->Prop}{k:Nat}{S:World->Prop}{a:Act}(h : ∀w,S w->L a w):wpL P ops S0 hv fin fr L k S [] a:=h
theorem Qc {L:Act->World->Prop}{k:Nat}{S:World->Prop}{o:Oper}{os:List Oper}{a:Act}{v:Value}(b:fr k=false)(d:Region.wanted o (yielded ops a.tmps)=true)(e : ∀w,S0 w->(execOp a.eval o).run P w=.ok (.value v) w)
  (h:wpL P ops S0 hv fin fr L (k+1) S os (a.put o.dst v)):wpL P ops S0 hv fin fr L k S (o::os) a:=.inl ⟨v,.inl ⟨d,fun w c=>e w (c.resolve_left (by rw[b];simp))⟩,h⟩
theorem Qd {L:Act->World->Prop}{k:Nat}{S:World->Prop}{o:Oper}{os:List Oper}{a:Act}{v:Value}(b:Region.wanted o (yielded ops a.tmps)=true)(c : ∀w,(execOp a.eval o).run P w=.ok (.value v) w)
  (h:wpL P ops S0 hv fin fr L (k+1) S os (a.put o.dst v)):wpL P ops S0 hv fin fr L k S (o::os) a:=.inl ⟨v,.inl ⟨b,fun w _=>c w⟩,h⟩
theorem Qe {L:Act->World->Prop}{k:Nat}{S:World->Prop}{o:Oper}{os:List Oper}{a:Act}(b:Region.wanted o (yielded ops a.tmps)=false)(h:wpL P ops S0 hv fin fr L (k+1) S os (a.put o.dst undef)):wpL P ops S0 hv fin fr L k S (o::os) a:=
 .inl ⟨undef,.inr ⟨b,rfl⟩,h⟩
theorem Qn {L:Act->World->Prop}{k:Nat}{S:World->Prop}{o:Oper}{os:List Oper}{a:Act}{f:FuncId}{args:Array Value}(T:Value->World->Prop)(g:hv k=true)(j:Region.wanted o (yielded ops a.tmps)=true)(i : ∀w,S w->(execOp a.eval o).run P w=.ok (.enter f args) w)
  (d : ∀w,S w->Calls P f args w fun e w'=>∃v,e=.returned v/\T v w') (c:fin k=true\/∀v w,T v w->S0 w) (h : ∀v,(∃w,T v w)->wpL P ops S0 hv fin fr L (k+1) (T v) os (a.put o.dst v)):wpL P ops S0 hv fin fr L k S (o::os) a:=
 .inr ⟨g,T,⟨j,fun w b=>by rw[i w b];exact d w b⟩,c,h⟩
theorem QW {L:Act->World->Prop}{k:Nat}{S:World->Prop}{o:Oper}{os:List Oper}{a:Act}{f:FuncId}{args:Array Value}{v:Value}(i:hv k=true)(l:Region.wanted o (yielded ops a.tmps)=true)(j : ∀w,S w->(execOp a.eval o).run P w=.ok (.enter f args) w)
  (b : ∀w,S w->S0 w) (g : ∀w,S w->Calls P f args w fun e w'=>e=.returned v/\S w') (h:wpL P ops S0 hv fin fr L (k+1) S os (a.put o.dst v)):wpL P ops S0 hv fin fr L k S (o::os) a:=
 .inr ⟨i,fun u w=>u=v/\S w,⟨l,fun w c=>by
  rw[j w c]
  exact Calls.mono (g w c) fun e w' ⟨h1,h2⟩=>⟨v,h1,rfl,h2⟩⟩,.inr (fun u w h=>b w h.2),fun u d=>by
   obtain⟨w,rfl,_⟩:=d
   have:(fun w=>u=u/\S w)=S:=by funext w;simp
   dsimp only
   rw[this]
   exact h⟩
theorem Ql {L:Act->World->Prop}{k:Nat}{S:World->Prop}{o:Oper}{os:List Oper}{a:Act}(T:Value->World->Prop)(c:hv k=true)(d:Region.wanted o (yielded ops a.tmps)=true)(e : ∀w,S w->HRun P T ((execOp a.eval o).run P w))
  (b:fin k=true\/∀v w,T v w->S0 w) (h : ∀v,(∃w,T v w)->wpL P ops S0 hv fin fr L (k+1) (T v) os (a.put o.dst v)):wpL P ops S0 hv fin fr L k S (o::os) a:=
 .inr ⟨c,T,⟨d,e⟩,b,h⟩
end
def Qrs (P:Program)(v:Value)(w:World):Result Next->Prop
 | .ok (.enter f args) w'=>w'=w/\Calls P f args w fun e a=>e=.returned v/\ZB w a
 |_=>False
section
variable {P:Program} {ops:Array Oper} {md:Region.Mode} {S0:World->Prop} {hv fin fr sc:Nat->Bool} {V:Nat->Value} {Q:Exit->Act->World->Prop}
def SC (P:Program)(ops:Array Oper)(S0:World->Prop)(o:Oper)(v:Value)(a:Act):Prop:=
 Region.wanted o (yielded ops a.tmps)=true/\∀w,S0 w->Qrs P v w ((execOp a.eval o).run P w)
def St (P:Program)(ops:Array Oper)(S0:World->Prop)(fr sc:Nat->Bool)(V:Nat->Value)(i:Nat)(o:Oper)(v:Value)(a:Act):Prop:=
 (sc i=false/\RS P ops (fun w=>fr i=true\/S0 w) o v a)\/(sc i=true/\v=V i/\SC P ops S0 o v a)
theorem St.of_same {i:Nat}{o:Oper}{v:Value}{a b:Act}(f:St P ops S0 fr sc V i o v a)(c:execOp b.eval o=execOp a.eval o)
  (d:Region.wanted o (yielded ops b.tmps)=Region.wanted o (yielded ops a.tmps)):St P ops S0 fr sc V i o v b:=by
 rcases f with ⟨h1,h2⟩|⟨h1,h2,e⟩
 ·exact .inl ⟨h1,h2.of_same c d⟩
 ·refine .inr ⟨h1,h2,?_⟩
  unfold SC at *
  rw[c,d]
  exact e
theorem St.uniq {i:Nat}{o:Oper}{v v':Value}{a:Act}{w:World}(h:St P ops S0 fr sc V i o v a)(e:St P ops S0 fr sc V i o v' a)(d:fr i=true\/S0 w):v=v':=by
 rcases h with ⟨h1,h2⟩|⟨h1,h2,_⟩<;>rcases e with ⟨b,c⟩|⟨b,c,_⟩
 ·exact h2.uniq c d
 ·rw[h1] at b;cases b
 ·rw[h1] at b;cases b
 ·rw[h2,c]
def Lin3 (P:Program)(ops:Array Oper)(S0:World->Prop)(hv fin fr sc:Nat->Bool)(V:Nat->Value)(L:Act->World->Prop):(World->Prop)->List Nat->Act->Prop
  |S,[],a=>∀w,S w->L a w
  |S,i::is,a=>∃o,ops[i]? = some o /\
      ((∃v,St P ops S0 fr sc V i o v a/\Lin3 P ops S0 hv fin fr sc V L S is (a.put o.dst v)) \/
       (hv i=true/\∃T,HS P ops S o T a/\(fin i=true\/(∀v w,T v w->S0 w)/\∀v w w',T v w->ZB w w'->T v w')/\∀v,(∃w,T v w)->Lin3 P ops S0 hv fin fr sc V L (T v) is (a.put o.dst v)))
theorem Lin3.pull {L:Act->World->Prop}(d : ∀(j:Nat) (o:Oper) n b,ops[j]? = some o->o.op≠.select n b){j:Nat} :
    ∀(is:List Nat) (S:World->Prop) (a:Act),j ∈ is->is.Pairwise (· < ·)->(∀i ∈ is,i<j->∀oi oj,ops[i]? = some oi->ops[j]? = some oj->oi.apart ops oj=true) ->
      (∀i ∈ is,i<j->hv i=true->hv j=false)->(∀i ∈ is,i<j->fin i=false\/fr j=true)->(∃w,S w)->(∀w,S w->fr j=true\/S0 w)->Lin3 P ops S0 hv fin fr sc V L S is a ->
      ∃ o, ops[j]? = some o /\ ((∃v,St P ops S0 fr sc V j o v a/\Lin3 P ops S0 hv fin fr sc V L S (is.erase j) (a.put o.dst v)) \/
       (hv j=true/\∃T,HS P ops S o T a/\(fin j=true\/(∀v w,T v w->S0 w)/\∀v w w',T v w->ZB w w'->T v w')/\∀v,(∃w,T v w)->Lin3 P ops S0 hv fin fr sc V L (T v) (is.erase j) (a.put o.dst v))):=by
  intro is
  induction is with
  |nil=>intro S a M;cases M
  |cons i is ih=>
    intro S a M hp x z p W F H
    by_cases hij:i=j
    · subst hij
      rw[List.erase_cons_head]
      exact H
    · have A:j ∈ is:=(List.mem_cons.1 M).resolve_left (fun e=>hij e.symm)
      obtain⟨U,I⟩:=List.pairwise_cons.1 hp
      have g:=U j A
      rw[List.erase_cons_tail (by simpa using hij)]
      obtain⟨oi,f,H⟩:=H
      rcases H with ⟨vi,D,H⟩|⟨X,T,J,u,H⟩
      · obtain⟨oj,c,r⟩:=ih S _ A I (fun k q=>x k (List.mem_cons_of_mem _ q)) (fun k q=>z k (List.mem_cons_of_mem _ q)) (fun k q=>p k (List.mem_cons_of_mem _ q)) W F H
        obtain⟨h1,h2,y⟩:=Oper.apart_spec (x i List.mem_cons_self g oi oj f c)
        refine⟨oj,c,?_⟩
        rcases r with ⟨vj,m,r⟩|⟨s,T,J,u,r⟩
        · refine .inl ⟨vj,m.of_same (execOp_put oj (fun n b=>d j oj n b c) a oi.dst vi h1).symm (wanted_put oj a oi.dst vi h1).symm,oi,f,.inl ⟨vi,D.of_same (execOp_put oi (fun n b=>d i oi n b f) a oj.dst vj y) (wanted_put oi a oj.dst vj y),?_⟩⟩
          rw[<-Act.put_comm a vi vj h2]
          exact r
        · refine .inr ⟨s,T,J.of_same (execOp_put oj (fun n b=>d j oj n b c) a oi.dst vi h1).symm (wanted_put oj a oi.dst vi h1).symm,u,fun v hv=>?_⟩
          refine⟨oi,f,.inl ⟨vi,D.of_same (execOp_put oi (fun n b=>d i oi n b f) a oj.dst v y) (wanted_put oi a oj.dst v y),?_⟩⟩
          rw[<-Act.put_comm a vi v h2]
          exact r v hv
      · have O:hv j=false:=z i List.mem_cons_self g X
        have R : ∀v w,T v w->fr j=true\/S0 w:=by
          rcases u with h|h
          · rcases p i List.mem_cons_self g with h1|h1
            · rw[h1] at h;cases h
            · exact fun _ _ _=>.inl h1
          · exact fun v w Z=>.inr (h.1 v w Z)
        obtain⟨w0,E⟩:=W
        obtain⟨Y,w1,K⟩:=(J.2 w0 E).some
        have key : ∀v,(∃w,T v w)->∃oj vj,ops[j]? = some oj/\St P ops S0 fr sc V j oj vj a/\oi.apart ops oj=true/\Lin3 P ops S0 hv fin fr sc V L (T v) (is.erase j) ((a.put oi.dst v).put oj.dst vj):=by
          intro v t
          obtain⟨oj,c,r⟩:=ih (T v) _ A I (fun k q=>x k (List.mem_cons_of_mem _ q)) (fun k q=>z k (List.mem_cons_of_mem _ q)) (fun k q=>p k (List.mem_cons_of_mem _ q)) t (fun w h=>R v w h) (H v t)
          have l:=x i List.mem_cons_self g oi oj f c
          obtain⟨h1,h2,y⟩:=Oper.apart_spec l
          rcases r with ⟨vj,m,r⟩|⟨s,_⟩
          · exact⟨oj,vj,c,m.of_same (execOp_put oj (fun n b=>d j oj n b c) a oi.dst v h1).symm (wanted_put oj a oi.dst v h1).symm,l,r⟩
          · rw[O] at s;cases s
        obtain⟨oj,vj,c,m,l,_⟩:=key Y ⟨w1,K⟩
        obtain⟨h1,h2,y⟩:=Oper.apart_spec l
        refine⟨oj,c,.inl ⟨vj,m,oi,f,.inr ⟨X,T,J.of_same (execOp_put oi (fun n b=>d i oi n b f) a oj.dst vj y) (wanted_put oi a oj.dst vj y),u,fun v t=>?_⟩⟩⟩
        obtain⟨N,B,G,C,_,r⟩:=key v t
        have e1:N=oj:=Option.some.inj (G.symm.trans c)
        subst e1
        have e2:B=vj:=C.uniq m (F w0 E)
        subst e2
        rw[<-Act.put_comm a v B h2]
        exact r
theorem QgY (hB:Qrz md ops hv fin fr=true)(b4 : ∀j,j<ops.size->sc j=true->fr j=false) : ∀(fuel:Nat) (S:World->Prop) (is:List Nat) (listed:Array Bool) (a:Act) (w:World),is.length<=fuel->listed.size=ops.size ->
  (∀j,j<ops.size->(listed.getD j true=false↔j ∈ is))->(∀j ∈ is,j<ops.size)->is.Pairwise (· < ·)->QdD md ops listed->((∀i ∈ is,fr i=true)\/(∀w,S w->S0 w)/\∀w w',S w->ZB w w'->S w')->S w->Lin3 P ops S0 hv fin fr sc V (Q .normal) S is a->wpAny P md ops Q fuel listed a w:=by
 obtain⟨a6,E⟩:=QhS hB
 obtain⟨W,b0,b2⟩:=Qb0 a6
 intro fuel
 have X : ∀(is:List Nat) (listed:Array Bool),listed.size=ops.size->(∀j,j<ops.size->(listed.getD j true=false↔j ∈ is))->(∀j ∈ is,j<ops.size)->is.Pairwise (· < ·)->Region.ready md ops listed=[]->is=[]:=by
  intro is listed q b g hp R
  cases is with
  |nil=>rfl
  |cons i is=>
   exfalso
   have t:=g i List.mem_cons_self
   have:i ∈ Region.ready md ops listed:=by
    refine mem_ready.2 ⟨(b i t).2 List.mem_cons_self,ops[i],Array.getElem?_eq_getElem t,fun e B K=>?_⟩
    have h1:=b0 i _ (Array.getElem?_eq_getElem t) e B K
    cases h2:listed.getD e.on false with
    |true=>rfl
    |false=>
     have m:=(b e.on (by omega)).1 (getD_in (by omega) h2)
     rcases List.mem_cons.1 m with m|m
     ·omega
     ·have:=(List.pairwise_cons.1 hp).1 _ m;omega
   rw[R] at this
   cases this
 induction fuel with
 |zero=>
  intro S is listed a w hf q b g hp F G A H
  have e:is=[]:=List.eq_nil_of_length_eq_zero (by omega)
  subst e
  refine⟨?_,H w A⟩
  rw[List.eq_nil_iff_forall_not_mem]
  intro j hj
  obtain⟨h1,o,ho,_⟩:=mem_ready.1 hj
  have:=(b j (Array.getElem?_eq_some_iff.1 ho).1).1 h1
  cases this
 |succ fuel ih=>
  intro S is listed a w hf q b g hp F G A H
  refine⟨fun R=>?_,fun j hj=>?_⟩
  ·have e:=X is listed q b g hp R
   subst e
   exact H w A
  ·obtain⟨h1,oj,c,p⟩:=mem_ready.1 hj
   have O:=(Array.getElem?_eq_some_iff.1 c).1
   have C:=(b j O).1 h1
   have a3 : ∀w,S w->fr j=true\/S0 w:=by
    rcases G with h|h
    ·exact fun _ _=>.inl (h j C)
    ·exact fun w I=>.inr (h.1 w I)
   have U:(∀i ∈ is.erase j,fr i=true)\/(∀w,S w->S0 w)/\∀w w',S w->ZB w w'->S w':=G.imp (fun h k z=>h k (List.mem_of_mem_erase z)) id
   have M : ∀i ∈ is,listed.getD i false≠true:=by
    intro i t h2
    have m:=(b i (g i t)).2 t
    rw[getD_both m] at h2
    cases h2
   obtain ⟨o, ho, J⟩ := Lin3.pull (Region.noSelect_spec W) is S a C hp (fun i t s oi Z a7 L=>by
    refine b2 i j oi Z s a7 L (fun e B K a8=>?_)
    have:Z=oj:=Option.some.inj (L.symm.trans c)
    subst this
    have h2:=p e B K
    rw[a8] at h2
    exact M i t h2)
    (fun i t s h2=>by
     cases m:hv j with
     |false=>rfl
     |true=>
      exfalso
      exact M i t (Qa1 F _ j oj c p ((E i j oj s c).1 h2 m)))
    (fun i t s=>(E i j oj s c).2.1) ⟨w,A⟩ a3 H
   have e1:o=oj:=Option.some.inj (ho.symm.trans c)
   subst e1
   have a0:is.Nodup:=hp.imp (fun h=>Nat.ne_of_lt h)
   have Y:QdD md ops (listed.setIfInBounds j true):=by
    intro k ok a5 z e B K
    have a4:listed.getD e.on false=true:=by
     by_cases d:k=j
     ·subst d
      have:ok=o:=Option.some.inj (a5.symm.trans c)
      subst this
      exact p e B K
     ·rw[getD_set_ne false (Ne.symm d)] at z
      exact F k ok a5 z e B K
    by_cases hej:e.on=j
    ·rw[hej]
     simp[q,O]
    ·rw[getD_set_ne false (Ne.symm hej)]
     exact a4
   have N : ∀k,k<ops.size->((listed.setIfInBounds j true).getD k true=false↔k ∈ is.erase j):=by
    intro k z
    rw[a0.mem_erase_iff]
    by_cases d:k=j
    ·subst d
     simp[q,z]
    ·rw[getD_set_ne true (Ne.symm d),b k z]
     simp[d]
   have go:=fun(S':World->Prop) (a':Act) (w':World) (h0:(∀i ∈ is.erase j,fr i=true)\/(∀w,S' w->S0 w)/\∀w w',S' w->ZB w w'->S' w') (a9:S' w') (HH:Lin3 P ops S0 hv fin fr sc V (Q .normal) S' (is.erase j) a')=>
    ih S' (is.erase j) (listed.setIfInBounds j true) a' w' (by rw[List.length_erase_of_mem C];omega) (by simpa using q) N (fun k z=>g k (List.mem_of_mem_erase z)) (hp.sublist List.erase_sublist) Y h0 a9 HH
   unfold Go.wpOp
   simp only[c]
   rcases J with ⟨v,hy,J⟩|⟨b5,T,⟨I,hT⟩,b1,J⟩
   ·rcases hy with ⟨hs,hy⟩|⟨hs,rfl,I,R⟩
    ·rcases hy with ⟨I,R⟩|⟨I,rfl⟩
     ·simp only[I,if_true]
      refine .inl ?_
      unfold Oper.wp
      rw[R w (a3 w A)]
      exact go S _ w U A J
     ·simp only[I,Bool.false_eq_true,if_false]
      exact go S _ w U A J
    ·simp only[I,if_true]
     refine .inl ?_
     have a1 : (∀ w, S w -> S0 w) /\ ∀ w w', S w -> ZB w w' -> S w' := G.resolve_left (fun h=>by
      have:=h j C
      rw[b4 j O hs] at this
      cases this)
     have h2:=R w (a1.1 w A)
     unfold Oper.wp
     generalize (execOp a.eval o).run P w=r at *
     cases r with
     |ok n w'=>
      cases n<;>simp only[Qrs] at h2<;>simp only[Oper.upon]
      case enter f args=>
       obtain⟨rfl,h2⟩:=h2
       refine Calls.mono h2 fun e D B=>?_
       obtain⟨rfl,K⟩:=B
       exact go S _ D U (a1.2 _ _ A K) J
     |halt x w'=>simp only[Qrs] at h2
   ·simp only[I,if_true]
    refine .inl ?_
    have l : ∀v,(∀k ∈ is.erase j,fr k=true)\/(∀w,T v w->S0 w)/\∀w w',T v w->ZB w w'->T v w':=by
     intro v
     rcases b1 with y|y
     ·refine .inl ?_
      intro k z
      obtain⟨d,a2⟩:=a0.mem_erase_iff.1 z
      rcases Nat.lt_or_ge k j with h2|h2
      ·rcases(E k j o h2 c).2.2 y with m|m
       ·exact absurd (Qa1 F _ j o c p m) (M k a2)
       ·exact m
      ·have m:j<k:=by omega
       have b3:=g k a2
       rcases(E j k ops[k] m (Array.getElem?_eq_getElem b3)).2.1 with h4|h4
       ·rw[y] at h4
        cases h4
       ·exact h4
     ·exact .inr ⟨y.1 v,y.2 v⟩
    have h2:=hT w A
    unfold Oper.wp
    generalize (execOp a.eval o).run P w=r at *
    cases r with
    |ok n w'=>
     cases n<;>simp only[HRun] at h2<;>simp only[Oper.upon]
     case value u=>exact go (T u) _ w' (l u) h2 (J u ⟨w',h2⟩)
     case skip=>exact go (T undef) _ w' (l undef) h2 (J undef ⟨w',h2⟩)
     case enter f args=>
      refine Calls.mono h2 fun e D B=>?_
      obtain⟨v,rfl,ht⟩:=B
      exact go (T v) _ D (l v) ht (J v ⟨D,ht⟩)
    |halt x w'=>simp only[HRun] at h2
def Qje (P:Program)(ops:Array Oper)(S0:World->Prop)(hv fin fr sc:Nat->Bool)(V:Nat->Value)(L:Act->World->Prop):Nat->(World->Prop)->List Oper->Act->Prop
  |_,S,[],a=>∀w,S w->L a w
  |k,S,o::os,a=>(∃v,St P ops S0 fr sc V k o v a/\Qje P ops S0 hv fin fr sc V L (k+1) S os (a.put o.dst v)) \/
      (hv k=true/\∃T,HS P ops S o T a/\(fin k=true\/(∀v w,T v w->S0 w)/\∀v w w',T v w->ZB w w'->T v w')/\∀v,(∃w,T v w)->Qje P ops S0 hv fin fr sc V L (k+1) (T v) os (a.put o.dst v))
theorem Qms {L:Act->World->Prop} : ∀(os:List Oper) (k:Nat) (S:World->Prop) (a:Act),(∀j,os[j]? = ops[k+j]?)->Qje P ops S0 hv fin fr sc V L k S os a->Lin3 P ops S0 hv fin fr sc V L S (List.range' k os.length) a:=by
 intro os
 induction os with
 |nil=>intro k S a _ h;exact h
 |cons o os ih=>
  intro k S a e h
  rw[List.length_cons,List.range'_succ]
  have b : ∀j,os[j]? = ops[k+1+j]? := fun j=>by
   have:=e (j+1)
   rw[List.getElem?_cons_succ] at this
   rw[this,Nat.add_right_comm,Nat.add_assoc]
  refine⟨o,by have:=e 0;simpa using this.symm,?_⟩
  rcases h with ⟨v,i,h⟩|⟨f,T,g,d,h⟩
  ·exact .inl ⟨v,i,ih (k+1) S _ b h⟩
  ·exact .inr ⟨f,T,g,d,fun v c=>ih (k+1) (T v) _ b (h v c)⟩
theorem Qb7 {id:Nat}{a:Act}{w:World}{l:List Oper}(S0 S:World->Prop)(hv fin fr sc:Nat->Bool)(V:Nat->Value)(hm:P.follows .mixedOrders=true)(g:Qrz .any l.toArray hv fin fr=true)(f:((List.range l.length).all fun j => !(sc j) || !(fr j))=true)(i:S w.drew)(d : ∀w,S w->S0 w)(e : ∀w w',S w->ZB w w'->S w')
  (h:Qje P l.toArray S0 hv fin fr sc V (Q .normal) 0 S l a):(Code.region id l.toArray true).wp P Q a w:=by
 refine wp_region_any hm (QgY g (fun j b k=>by
  have h1:=List.all_eq_true.1 f j (List.mem_range.2 (by simpa using b))
  rw[k] at h1
  simpa using h1) _ S (List.range' 0 l.length) _ a _ (by simp) (by simp) (fun j b=>?_) (fun j b=>by simpa using b) (List.pairwise_lt_range' ..) (fun j oj b c=>?_) (.inr ⟨d,e⟩) i (Qms l 0 S a (fun j=>by simp) h))
 ·simp at b
  simp[b]
 ·exfalso
  rw[Array.getD_eq_getD_getElem?] at c
  rw[Array.getElem?_replicate] at c
  split at c<;>simp at c
theorem QgC {L:Act->World->Prop}{k:Nat}{S:World->Prop}{a:Act}(h : ∀w,S w->L a w):Qje P ops S0 hv fin fr sc V L k S [] a:=h
theorem Qbm {L:Act->World->Prop}{k:Nat}{S:World->Prop}{o:Oper}{os:List Oper}{a:Act}{v:Value}(d:sc k=false)(b:fr k=false)(e:Region.wanted o (yielded ops a.tmps)=true)(f : ∀w,S0 w->(execOp a.eval o).run P w=.ok (.value v) w)
  (h:Qje P ops S0 hv fin fr sc V L (k+1) S os (a.put o.dst v)):Qje P ops S0 hv fin fr sc V L k S (o::os) a:=.inl ⟨v,.inl ⟨d,.inl ⟨e,fun w c=>f w (c.resolve_left (by rw[b];simp))⟩⟩,h⟩
theorem Qbp {L:Act->World->Prop}{k:Nat}{S:World->Prop}{o:Oper}{os:List Oper}{a:Act}{v:Value}(b:sc k=false)(c:Region.wanted o (yielded ops a.tmps)=true)(d : ∀w,(execOp a.eval o).run P w=.ok (.value v) w)
  (h:Qje P ops S0 hv fin fr sc V L (k+1) S os (a.put o.dst v)):Qje P ops S0 hv fin fr sc V L k S (o::os) a:=.inl ⟨v,.inl ⟨b,.inl ⟨c,fun w _=>d w⟩⟩,h⟩
theorem Qb1 {L:Act->World->Prop}{k:Nat}{S:World->Prop}{o:Oper}{os:List Oper}{a:Act}(b:sc k=false)(c:Region.wanted o (yielded ops a.tmps)=false)(h:Qje P ops S0 hv fin fr sc V L (k+1) S os (a.put o.dst undef)):Qje P ops S0 hv fin fr sc V L k S (o::os) a:=
 .inl ⟨undef,.inl ⟨b,.inr ⟨c,rfl⟩⟩,h⟩
theorem QbL {L:Act->World->Prop}{k:Nat}{S:World->Prop}{o:Oper}{os:List Oper}{a:Act}{f:FuncId}{args:Array Value}{v:Value}(i:sc k=true)(g:v=V k)(j:Region.wanted o (yielded ops a.tmps)=true)(d : ∀w,S0 w->(execOp a.eval o).run P w=.ok (.enter f args) w)
  (c : ∀w,S0 w->Calls P f args w fun e w'=>e=.returned v/\ZB w w') (h:Qje P ops S0 hv fin fr sc V L (k+1) S os (a.put o.dst v)):Qje P ops S0 hv fin fr sc V L k S (o::os) a:=
 .inl ⟨v,.inr ⟨i,g,j,fun w b=>by rw[d w b];exact⟨rfl,c w b⟩⟩,h⟩
theorem QbF {L:Act->World->Prop}{k:Nat}{S:World->Prop}{o:Oper}{os:List Oper}{a:Act}(T:Value->World->Prop)(c:hv k=true)(d:Region.wanted o (yielded ops a.tmps)=true)(e : ∀w,S w->HRun P T ((execOp a.eval o).run P w))
  (b:fin k=true\/(∀v w,T v w->S0 w)/\∀v w w',T v w->ZB w w'->T v w') (h : ∀v,(∃w,T v w)->Qje P ops S0 hv fin fr sc V L (k+1) (T v) os (a.put o.dst v)):Qje P ops S0 hv fin fr sc V L k S (o::os) a:=
 .inr ⟨c,T,⟨d,e⟩,b,h⟩
end
def KeepBut (T:TypeId)(w w':World):Prop:=∀(b:Nat) (o:Obj),w.heap[b]? = some o->(∀a f,o≠Obj.cells a T f)->w'.heap[b]? = some o
theorem KeepBut.of_fr {T:TypeId}{w w':World}{g:Nat}{i:Array Value}(h:Fr (· = g) w w')(f:Blk w g T i):KeepBut T w w':=by
 intro b o a hn
 have c:b<w.heap.size:=by
  rcases Nat.lt_or_ge b w.heap.size with c|d
  ·exact c
  ·rw[Array.getElem?_eq_none d] at a;cases a
 rw[h.block b c (fun e=>?_)]
 ·exact a
 ·subst e
  unfold Blk at f
  rw[f] at a
  injection a with a
  exact hn _ _ a.symm
theorem KeepBut.of_below {T:TypeId}{w w':World}(h:ZB w w'):KeepBut T w w':=by
 intro b o d _
 have a:b<w.heap.size:=by
  rcases Nat.lt_or_ge b w.heap.size with a|c
  ·exact a
  ·rw[Array.getElem?_eq_none c] at d;cases d
 rw[h.block b a]
 exact d
theorem QfH (l:List Int)(m:Nat)(h:m<l.length):l.drop m=l.getD m 0::l.drop (m+1):=by
 rw[List.drop_eq_getElem_cons h,List.getD_eq_getElem?_getD,List.getElem?_eq_getElem h];rfl
theorem Qh {w w1:World}{p:Addr}{v:Value}(a:ZB w w1)(h:w.cell? p=some v):w1.cell? p=some v:=(a.cell (Qac h)).trans h
theorem QD {w w1:World}(h:Below w.drew.heap.size w.drew w1):ZB w w1:=⟨h.os,h.tape,h.output,h.size,h.block⟩
theorem QeM {w w1:World}{p q:Addr}{u v:Value}(a:ZB w w1)(h:w.cell? p=some u/\w.cell? q=some v):w1.cell? p=some u/\w1.cell? q=some v:=
 ⟨Qh a h.1,Qh a h.2⟩
theorem Qb6 (a:Addr)(n:Nat)(h:0<n):a.add n=⟨a.block,a.off+n,none⟩:=by unfold Addr.add;rw[if_neg (by omega)]
theorem Qa3:(Tryz.prog.info? 3).map (fun i=>(i.zero,i.size,i.bytes))=some (some (.int .i64 0),1,8):=by kernel_rfl
def OutAt (w:World)(base g:Nat)(xs:List Int):Prop:=∃v,Blk w g 36 #[v]/\w.ownsRow base 3 1 v xs.length (xs.map (Value.int .i64))
theorem OutAt.keep {w w':World}{base g:Nat}{xs:List Int}{T:TypeId}(h:OutAt w base g xs)(b:KeepBut T w w')(h1:T≠36)(h2:T≠3):OutAt w' base g xs:=by
 obtain⟨v,c,i,a⟩:=h
 refine⟨v,b g _ c (fun m f e=>h1 (by injection e with _ e;exact e.symm)),i,?_⟩
 rcases a with a|⟨r,cap,cur,k,l,d,j⟩
 ·exact .inl a
 ·exact .inr ⟨r,cap,cur,k,l,b r _ d (fun m f e=>h2 (by injection e with _ e;exact e.symm)),j⟩
theorem Qk {w:World}{base g:Nat}{e t:TypeId}{i:Array Value}{size n:Nat}{v:Value}{xs:List Value}(h:w.ownsRow base e size v n xs)(c:Blk w g t i)(a:e≠t):v.ownBlock≠some g:=by
 rcases h.2 with ⟨rfl,_⟩|⟨b,cap,cur,rfl,_,f,_⟩
 ·simp[Value.ownBlock]
 ·intro d
  have:b=g:=by simpa[Value.ownBlock] using d
  subst this
  exact Blk.ne_ (t:=e) f c a rfl
theorem QaV {w:World}{base r:Nat}{e:TypeId}{size n:Nat}{v:Value}{xs:List Value}(h:w.ownsRow base e size v n xs)(a:v.ownBlock=some r):base<=r:=by
 rcases h.2 with ⟨rfl,_⟩|⟨b,cap,cur,rfl,c,_⟩
 ·simp[Value.ownBlock] at a
 ·have:b=r:=by simpa[Value.ownBlock] using a
  omega
def Byt (l:List Int):Prop:=∀x ∈ l,0<=x/\x<256
theorem Byt.drop {l:List Int}(h:Byt l)(k:Nat):Byt (l.drop k):=fun x a=>h x (List.mem_of_mem_drop a)
theorem Byt.take {l:List Int}(h:Byt l)(k:Nat):Byt (l.take k):=fun x a=>h x (List.mem_of_mem_take a)
theorem Byt.at_ {l:List Int}(h:Byt l)(k:Nat):0<=l.getD k 0/\l.getD k 0<256:=by
 rw[List.getD_eq_getElem?_getD]
 cases e:l[k]? with
 |none=>simp
 |some v=>simpa using h v (List.mem_of_getElem? e)
def Bts (w:World)(D:Nat->Prop)(A:Option Addr)(n:Nat)(l:List Int):Prop:=Reads w D 1 A n (l.map (Value.int .u8))
theorem Bts.len {w:World}{D:Nat->Prop}{A:Option Addr}{n:Nat}{l:List Int}(h:Bts w D A n l):l.length=n:=by have:=h.1;simpa using this
theorem Bts.at_ {w:World}{D:Nat->Prop}{A:Option Addr}{n:Nat}{l:List Int}{k:Nat}(h:Bts w D A n l)(f:k<n):∃b,A=some b/\D b.block/\w.cell? (b.add k)=some (.int .u8 (l.getD k 0)):=by
 obtain⟨b,u,e,c,a,d⟩:=Reads.at_ h f
 refine⟨b,e,c,?_⟩
 rw[d,List.getD_eq_getElem?_getD]
 rw[List.getElem?_map] at a
 cases hl:l[k]? with
 |none=>rw[hl] at a;cases a
 |some v=>rw[hl] at a;simp at a;simp[a]
def bdN (c:Int):Int:=if c<128 then 1 else if c<194 then 0 else if c<224 then 2 else if c<240 then 3 else if c<=244 then 4 else 0
def QdF (c:Int):Int:=if c<194 then 0 else if c<224 then 128 else if c=224 then 160 else if c=240 then 144 else if c<=244 then 128 else 0
def QdE (c:Int):Int:=if c<194 then 0 else if c<224 then 191 else if c=237 then 159 else if c=244 then 143 else if c<244 then 191 else 0
theorem Qsy {j k m:IntKind}{a b c x y z:Int}(h1:a=x)(h2:b=y)(d:c=z):Ending.returned (.tuple #[.int j a,.int k b,.int m c])=.returned (.tuple #[.int j x,.int k y,.int m z]):=by rw[h1,h2,d]
theorem QdM {j k:IntKind}{a b x y:Int}(h1:a=x)(h2:b=y):Ending.returned (.tuple #[.int j a,.int k b])=.returned (.tuple #[.int j x,.int k y]):=by rw[h1,h2]
theorem Qlq (c:Int)(w:World)(a:0<=c)(h1:c<256) :
  Calls Tryz.prog 232 #[.int .u8 c] w fun e w'=>e=.returned (.tuple #[.int .i64 (bdN c),.int .u8 (QdF c),.int .u8 (QdE c)])/\w=w':=by
 go_enter Tryz.func232,Tryz.ntmps232
 go_wp2
 all_goals
  go_light
  go_ret3
  refine⟨Qsy ?_ ?_ ?_,rfl⟩
  all_goals
   first|show _=bdN c|show _=QdF c|show _=QdE c
   simp only[bdN,QdF,QdE]
   (try simp only[beq_iff_eq,beq_eq_false_iff_ne,ne_eq] at *)
   (repeat' split)<;>first|rfl|omega
theorem QnY (x:Int)(a:0<=x)(h1:x<256):bits .and .u8 x 192=x-x % 64:=by
 have h : ∀i:Fin 256,bits .and .u8 (i.val:Int) 192=(i.val:Int)-(i.val:Int) % 64:=by decide +kernel
 have:=h ⟨x.toNat,by omega⟩
 simpa[Int.toNat_of_nonneg a] using this
def Qao:Nat->List Int->Nat
 | 0,_=>0
 |_+1,[]=>0
 |m+1,c::r=>if 128<=c/\c<192 then Qao m r+1 else 0
theorem Qnh (m:Nat)(l:List Int):Qao m l<=l.length:=by
 induction m generalizing l with
 |zero=>simp[Qao]
 |succ m ih=>cases l with
  |nil=>simp[Qao]
  |cons c r=>simp only[Qao];split<;>simp[ih]
def Qar (l:List Int):Int:=
 if bdN (l.getD 0 0)<2 then bdN (l.getD 0 0)
 else if l.length<2\/l.getD 1 0<QdF (l.getD 0 0)\/QdE (l.getD 0 0)<l.getD 1 0 then 1
 else 2+Qao (bdN (l.getD 0 0)-2).toNat (l.drop 2)
theorem Qbk (l:List Int)(m:Nat)(h:m<l.length):l.drop m=l.getD m 0::l.drop (m+1):=by
 rw[List.drop_eq_getElem_cons h,List.getD_eq_getElem?_getD,List.getElem?_eq_getElem h];rfl
def Qs6 (l:List Int)(N:Int)(n:Nat)(w0:World)(k:Nat)(q:Value)(wr:World):Prop:=
 ∃h:Nat,wr=w0/\q=.int .i64 (h:Int)/\2<=h/\(h:Int)<=N/\h<=n/\N<=h+k/\2+Qao (N-2).toNat (l.drop 2)=h+Qao (N-h).toNat (l.drop h)
theorem add_zero (a:Addr):a.add 0=a:=by simp[Addr.add]
theorem Qhl (c:Int):0<=bdN c/\bdN c<=4:=by unfold bdN;(repeat' split)<;>omega
theorem QqM (D:Nat->Prop)(A:Option Addr)(n c:Nat)(l:List Int)(w:World)(y:Bts w D A n l)(H:Byt l)(hn:n<=2147483648)(X:0<n) :
  Calls Tryz.prog 231 #[.slice A n c] w fun e w'=>e=.returned (.tuple #[.int .i64 (Qar l),.int .i64 (bdN (l.getD 0 0))])/\w=w':=by
 have U:l.length<=n:=Nat.le_of_eq y.len
 have T:n<=l.length:=Nat.le_of_eq y.len.symm
 obtain⟨ad,rfl,hD,O⟩:=y.at_ X
 obtain⟨x0,i⟩:∃x,l.getD 0 0=x:=⟨_,rfl⟩
 have g:=H.at_ 0
 rw[i,add_zero] at O
 rw[i] at g
 obtain⟨N,B⟩:∃x,bdN x0=x:=⟨_,rfl⟩
 obtain⟨lo,j⟩:∃x,QdF x0=x:=⟨_,rfl⟩
 obtain⟨Q,f⟩:∃x,QdE x0=x:=⟨_,rfl⟩
 have u:=Qhl x0
 rw[B] at u
 have t:=fun w=>Qlq x0 w g.1 g.2
 rw[B,j,f] at t
 have b:Qar l=if N<2 then N else if l.length<2\/l.getD 1 0<lo\/Q<l.getD 1 0 then 1 else 2+Qao (N-2).toNat (l.drop 2):=by
  unfold Qar
  rw[i,B,j,f]
 rw[i,B]
 have m:=Zh b
 clear b B j f i
 have E:=Zh t
 clear t
 obtain⟨V,a0⟩:=u
 by_cases hN2:N<2
 ·go_enter Tryz.func231,Tryz.ntmps231
  go_wp2_with fail
  refine(E.out _).mono ?_
  rintro e w1 ⟨rfl,rfl⟩
  go_wp2_with fail
  go_ret2
  exact⟨QdM (by rw[m.out,if_pos (by omega)]) rfl,rfl⟩
 ·by_cases hlen:n<2
  ·have M:(n:Int)<2:=by omega
   go_enter Tryz.func231,Tryz.ntmps231
   go_wp2_with fail
   refine(E.out _).mono ?_
   rintro e w1 ⟨rfl,rfl⟩
   go_wp2_with fail
   go_ret2
   exact⟨QdM (by rw[m.out,if_neg (by omega),if_pos (.inl (by omega))]) rfl,rfl⟩
  ·obtain⟨J,a,_,s⟩:=y.at_ (show 1<n by omega)
   injection a with a
   subst a
   rw[Qb6 ad 1 (by omega)] at s
   obtain⟨P,r⟩:∃x,l.getD 1 0=x:=⟨_,rfl⟩
   have F:=H.at_ 1
   rw[r] at s F
   have I:=Zh r
   clear r
   have M : ¬(n:Int)<2:=by omega
   by_cases j:P<lo
   ·go_enter Tryz.func231,Tryz.ntmps231
    go_wp2_with fail
    refine(E.out _).mono ?_
    rintro e w1 ⟨rfl,rfl⟩
    go_wp2_with fail
    go_ret2
    exact⟨QdM (by rw[m.out,if_neg (by omega),if_pos (.inr (.inl (by rw[I.out];exact j)))]) rfl,rfl⟩
   ·by_cases f:Q<P
    ·go_enter Tryz.func231,Tryz.ntmps231
     go_wp2_with fail
     refine(E.out _).mono ?_
     rintro e w1 ⟨rfl,rfl⟩
     go_wp2_with fail
     go_ret2
     exact⟨QdM (by rw[m.out,if_neg (by omega),if_pos (.inr (.inr (by rw[I.out];exact f)))]) rfl,rfl⟩
    ·go_enter Tryz.func231,Tryz.ntmps231
     go_wp2_with fail
     refine(E.out _).mono ?_
     rintro e w1 ⟨rfl,rfl⟩
     go_wp2_with fail
     have b:Qar l=2+Qao (N-2).toNat (l.drop 2):=by
      rw[m.out,if_neg (by omega),if_neg (by rw[I.out];omega)]
     have m:=Zh b
     clear b s
     go_loopg [7] (N-2).toNat (fun k q wr=>Qs6 l N n w k q wr)
     case atStart=>exact⟨2,rfl,rfl,Nat.le_refl _,by omega,by omega,by omega,rfl⟩
     case round=>
      obtain⟨h,rfl,rfl,h2,W,Z,hk,v⟩:=hrel
      have G:=Zh v
      clear v
      by_cases c1:(h:Int)<N
      ·by_cases c2:h<n
       ·obtain⟨J,a,_,L⟩:=y.at_ c2
        injection a with a
        subst a
        obtain⟨x,K⟩:=ZN (l.getD h 0)
        have p:=H.at_ h
        rw[K] at L p
        have d:=QnY x p.1 p.2
        have C:l.drop h=x::l.drop (h+1):=by rw[<-K];exact Qbk l h (by omega)
        have S:=Zh C
        clear K C
        by_cases R:128<=x/\x<192
        ·have Y:(bits .and .u8 x 192==128)=true:=by rw[beq_iff_eq,d];omega
         clear d
         go_wp2_with fail
         go_roundg (N-(h+1)).toNat
         case measure=>omega
         case rel=>
          refine⟨h+1,rfl,by go_num,by omega,by omega,by omega,by omega,?_⟩
          rw[G.out,S.out,show (N-(h:Int)).toNat=(N-((h+1:Nat):Int)).toNat+1 by omega,Qao,if_pos R]
          omega
        ·have Y:(bits .and .u8 x 192==128)=false:=by rw[beq_eq_false_iff_ne,d];omega
         clear d
         have o:Qao (N-h).toNat (l.drop h)=0:=by
          rw[S.out]
          cases (N-(h:Int)).toNat<;>simp[Qao]
          omega
         have z:=Zh o
         clear o
         go_wp2_with fail
         go_ret2
         exact⟨QdM (by have:=G.out;have:=z.out;rw[m.out];omega) rfl,rfl⟩
       ·have o:Qao (N-h).toNat (l.drop h)=0:=by
         rw[List.drop_eq_nil_of_le (by omega)]
         cases (N-(h:Int)).toNat<;>simp[Qao]
        have z:=Zh o
        clear o
        have R : ¬(h:Int)<n:=by omega
        go_wp2_with fail
        go_ret2
        exact⟨QdM (by have:=G.out;have:=z.out;rw[m.out];omega) rfl,rfl⟩
      ·have o:Qao (N-h).toNat (l.drop h)=0:=by
        rw[show (N-(h:Int)).toNat=0 by omega]
        rfl
       have z:=Zh o
       clear o
       go_wp2_with fail
       go_ret2
       exact⟨QdM (by have:=G.out;have:=z.out;rw[m.out];omega) rfl,rfl⟩
theorem QfK (i:Nat)(d:i<=30)(x:Int)(c:0<=x)(h1:x<2147483648):bits .and .i64 x (2 ^ i-1)=x % 2 ^ i:=
 bits_mask .i64 31 (by decide) (fun n a b=>by rw[IntKind.wrap_i64];omega) i (by omega) x c h1
theorem Qne (x:Int)(a:0<=x)(h1:x<256):bits .and .i64 x 31=x % 32:=QfK 5 (by omega) x a (by omega)
theorem Qmz (x:Int)(a:0<=x)(h1:x<256):bits .and .i64 x 15=x % 16:=QfK 4 (by omega) x a (by omega)
theorem Qpi (x:Int)(a:0<=x)(h1:x<256):bits .and .i64 x 7=x % 8:=QfK 3 (by omega) x a (by omega)
theorem Qry (x y:Int)(c:0<=x)(h1:x<33554432)(h2:0<=y)(d:y<64):bits .or .i64 (x*64) y=x*64+y:=
 bits_join .i64 31 (by decide) (fun n a b=>by rw[IntKind.wrap_i64];omega) 6 (x*64) y (by omega) (by omega) (by omega) h2 (by omega) (by omega)
def Qb5 (N x:Int):Int:=if N=2 then x % 32 else if N=3 then x % 16 else if N=4 then x % 8 else x
def QkI (a c:Int):Int:=a*64+c % 64
def Qcp (l:List Int):Int:=((l.drop 1).take (bdN (l.getD 0 0)-1).toNat).foldl QkI (Qb5 (bdN (l.getD 0 0)) (l.getD 0 0))
def Qey (l:List Int):Bool:=decide (bdN (l.getD 0 0)=0\/Qar l<bdN (l.getD 0 0))
def QcH (l:List Int):Int:=if Qey l=true then -1-l.getD 0 0 else Qcp l
def Qbj (l:List Int):Int:=if Qey l=true then 1 else bdN (l.getD 0 0)
theorem Qpr (i:Nat)(h:i<=2):(64:Int) ^ i<=4096:=by
 have h2:(64:Nat) ^ i<=64 ^ 2:=Nat.pow_le_pow_right (by omega) h
 have e:(64:Nat) ^ 2=4096:=by decide
 have a:((64:Int) ^ i)=((64 ^ i:Nat):Int):=by simp
 omega
theorem QpA (N x:Int)(a:0<=x)(h1:x<256):0<=Qb5 N x/\Qb5 N x<256:=by unfold Qb5;(repeat' split)<;>omega
theorem Qev (l:List Int)(h:0<l.length):Qar l<=l.length:=by
 unfold Qar
 have:=Qnh (bdN (l.getD 0 0)-2).toNat (l.drop 2)
 simp only[List.length_drop] at this
 (repeat' split)<;>omega
def V8R (l r:List Int)(c:Int)(w0:World)(k:Nat)(d b:Value)(wr:World):Prop:=
 ∃(i:Nat) (a:Int),wr=w0/\b=.int .i64 (i:Int)/\d=.int .i64 a/\i<=r.length/\r.length-i<=k/\(r.take i).foldl QkI c=a/\0<=a/\a<256*64 ^ i
theorem Qlt (D:Nat->Prop)(A:Option Addr)(n c:Nat)(l:List Int)(w:World)(J:Bts w D A n l)(U:Byt l)(hn:n<=2147483648)(h0:0<n)(a8:n<=c) :
    Calls Tryz.prog 226 #[.agg #[],.slice A n c] w fun e w'=>e=.returned (.tuple #[.int .i64 (QcH l),.int .i64 (Qbj l)])/\ZB w w':=by
  have a9:l.length<=n:=Nat.le_of_eq J.len
  have b0:n<=l.length:=Nat.le_of_eq J.len.symm
  obtain⟨ad,rfl,hD,y⟩:=J.at_ h0
  obtain⟨x0,d⟩:∃x,l.getD 0 0=x:=⟨_,rfl⟩
  have b:=U.at_ 0
  rw[d,add_zero] at y
  rw[d] at b
  obtain⟨N,C⟩:∃x,bdN x0=x:=⟨_,rfl⟩
  obtain⟨H,R⟩:∃x,Qar l=x:=⟨_,rfl⟩
  have L:=Qhl x0
  rw[C] at L
  have a4:=Zh C
  have X:=Zh R
  have m:=QqM D (some ad) n c l (w.alloc (.cells #[] 209)) (Reads.below J ((Below.refl _ w).alloc (Nat.le_refl _) _)) U hn h0
  rw[d,C,R] at m
  have f:QcH l=if Qey l=true then -1-x0 else Qcp l:=by unfold QcH;rw[d]
  have g:Qbj l=if Qey l=true then 1 else N:=by unfold Qbj;rw[d,C]
  have s:Qey l=decide (N=0\/H<N):=by unfold Qey;rw[d,C,R]
  have HA:=Zh f
  have HS:=Zh g
  have T:=Zh s
  have HW:=Zh m
  clear f g s m
  obtain⟨b3,b2⟩:=L
  clear C R
  have hW:ZB w (w.alloc (.cells #[] 209)):=(Below.refl _ w).alloc (Nat.le_refl _) _
  have K:=Qh hW y
  by_cases hr:N=0\/H<N
  · have f:QcH l = -1-x0:=by rw[HA.out,T.out,if_pos (by simpa using hr)]
    have g:Qbj l=1:=by rw[HS.out,T.out,if_pos (by simpa using hr)]
    have u:=Zh f
    have B:=Zh g
    clear f g
    have z:(N==0)=true\/((N==0)=false/\H<N):=by
      cases h:(N==0)
      · rw[beq_eq_false_iff_ne] at h;exact .inr ⟨rfl,by omega⟩
      · exact .inl rfl
    clear hr
    rcases z with z|⟨z,b7⟩
    all_goals
      go_enter Tryz.func226,Tryz.ntmps226
      go_wp2_with fail
      refine(HW.out).mono ?_
      rintro e w1 ⟨rfl,rfl⟩
      go_wp2_with fail
      go_ret2
      exact⟨QdM (by rw[u.out]) (by rw[B.out]),(Below.refl _ w).alloc (Nat.le_refl _) _⟩
  · have f:QcH l=Qcp l:=by rw[HA.out,T.out,if_neg (by simpa using hr)]
    have g:Qbj l=N:=by rw[HS.out,T.out,if_neg (by simpa using hr)]
    have u:=Zh f
    have B:=Zh g
    clear f g
    have q1:(N==0)=false:=by rw[beq_eq_false_iff_ne];omega
    have q2 : ¬H<N:=by omega
    have q:Qcp l=((l.drop 1).take (N-1).toNat).foldl QkI (Qb5 N x0):=by unfold Qcp;rw[d,a4.out]
    have HV:=Zh q
    have HH:Hid (H<=n):=Zh (by rw[<-X.out];have:=Qev l (by omega);omega)
    clear q d
    obtain⟨r,P⟩:=ZN ((l.drop 1).take (N-1).toNat)
    go_enter Tryz.func226,Tryz.ntmps226
    go_wp2_with fail
    refine(HW.out).mono ?_
    rintro e w1 ⟨rfl,rfl⟩
    have Z:=Qne x0 b.1 b.2
    have V:=Qmz x0 b.1 b.2
    have a7:=Qpi x0 b.1 b.2
    go_upto_block 0 with fail
    go_cut [8] (fun s8 wx=>s8=.int .i64 (Qb5 N x0)/\wx=w.alloc (.cells #[] 209))
    case first=>
      go_wp2_with fail
      all_goals
        go_light
        go_meet
        refine⟨congrArg (Value.int .i64) ?_,rfl⟩
        (try simp only[beq_iff_eq,beq_eq_false_iff_ne,ne_eq] at *)
        unfold Qb5
        (repeat' split)<;>first|rfl|omega
    case rest=>
      obtain⟨rfl,rfl⟩:=hcut
      clear Z V a7 y K
      have b4:N<=n:=by have:=HH.out;omega
      have q3:(1:Int)<=N:=by simp only[beq_eq_false_iff_ne,ne_eq] at q1;omega
      have q4:N<=(c:Int):=by omega
      obtain⟨M,rfl⟩:∃M:Nat,N=(M:Int)+1:=⟨(N-1).toNat,by omega⟩
      have p:(l.drop 1).take M=r:=by rw[<-P];congr 1;omega
      have v:r.length=M:=by rw[<-p,List.length_take,List.length_drop];omega
      have b1:r.length<=M:=Nat.le_of_eq v
      have a6:M<=r.length:=Nat.le_of_eq v.symm
      have W:Byt r:=by rw[<-p];exact(U.drop 1).take M
      have a5:=Reads.below J hW
      have E:=Zh p
      clear P p v
      have q5:0<=(M:Int)+1:=by omega
      have q6:((M:Int)+1).toNat-1=M:=by omega
      by_cases hc1:c=1
      all_goals
        go_wp2_with fail
        go_loopg [8,49] M (fun k q8 a3 wr=>V8R l r (Qb5 ((M:Int)+1) x0) (w.alloc (.cells #[] 209)) k q8 a3 wr)
        case atStart=>
          have:=QpA ((M:Int)+1) x0 b.1 b.2
          exact⟨0,_,rfl,rfl,rfl,by omega,by omega,rfl,this.1,by simpa using this.2⟩
        case round=>
          obtain⟨i,a,rfl,rfl,rfl,hi,b6,j,a1,b5⟩:=hrel
          have O:=Zh j
          clear j
          by_cases hlt:i<M
          · first
              |(exfalso;omega)
              | (obtain⟨b8,o,_,G⟩:=Bts.at_ a5 (show 1+i<n by omega)
                 injection o with o
                 subst o
                 rw[Qb6 ad (1+i) (by omega),<-Nat.add_assoc] at G
                 obtain⟨x,S⟩:=ZN (r.getD i 0)
                 have I:l.getD (1+i) 0=x:=by
                   rw[<-S,<-E.out,List.getD_eq_getElem?_getD,List.getD_eq_getElem?_getD,List.getElem?_take,if_pos hlt,List.getElem?_drop]
                 have t:=W.at_ i
                 rw[S] at t
                 rw[I] at G
                 have F:(r.take (i+1)).foldl QkI (Qb5 ((M:Int)+1) x0)=a*64+x % 64:=by
                   rw[List.take_succ_eq_append_getElem (by omega),List.foldl_append,O.out,<-S,List.getD_eq_getElem?_getD,List.getElem?_eq_getElem (by omega)]
                   rfl
                 have a2:=Zh F
                 clear F S I
                 have hp:=Qpr i (by omega)
                 have Y:a<33554432:=by omega
                 have hm:0<=x % 64/\x % 64<64:=by omega
                 have k1:=u8_and63 x t.1 t.2
                 have k2:=Qry a (x % 64) a1 Y hm.1 hm.2
                 go_wp2_with fail
                 go_roundg (M-(i+1))
                 case measure=>omega
                 case rel=>
                   refine⟨i+1,_,rfl,by go_num,rfl,by omega,by omega,?_,?_,?_⟩
                   · exact a2.out
                   · omega
                   · rw[Int.pow_succ];omega)
          · have a0:i=M:=by omega
            subst a0
            have j:=O.out
            rw[List.take_of_length_le (by omega)] at j
            have Q:=Zh j
            clear j
            go_wp2_with fail
            go_ret2
            refine⟨QdM ?_ (by rw[B.out]),hW⟩
            rw[u.out,HV.out,show ((i:Int)+1-1).toNat=i by omega,E.out]
            exact Q.out.symm
theorem Qi6 (u:Nat)(h:u<65536):u &&& (2 ^ 64-1-1023)=u-u % 1024:=by
 have e:u-u % 1024=(u / 1024)*2 ^ 10:=by omega
 rw[e]
 apply Nat.eq_of_testBit_eq
 intro i
 rw[Nat.testBit_and,Nat.testBit_mul_two_pow]
 have hm:(2 ^ 64-1-1023:Nat)=(2 ^ 54-1)*2 ^ 10:=by decide
 rw[hm,Nat.testBit_mul_two_pow,Nat.testBit_two_pow_sub_one]
 by_cases hi:10<=i
 ·have:u.testBit i=(u / 1024).testBit (i-10):=by
   have:u / 1024=u >>> 10:=by rw[Nat.shiftRight_eq_div_pow]
   rw[this,Nat.testBit_shiftRight];congr 1;omega
  simp only[hi,decide_true,Bool.true_and,this]
  by_cases h2:i-10<54
  ·simp[h2]
  ·have : (u / 1024).testBit (i - 10) = false := Nat.testBit_lt_two_pow (by
    have:(2:Nat)^54<=2 ^ (i-10):=Nat.pow_le_pow_right (by omega) (by omega)
    have:(2:Nat)^54=18014398509481984:=by decide
    omega)
   simp[this]
 ·simp[hi]
theorem Qdn (u:Int)(b:0<=u)(h1:u<65536):bits .andNot .i64 u 1023=u-u % 1024:=by
 obtain⟨a,rfl⟩:=Int.eq_ofNat_of_zero_le b
 have c:a<65536:=by omega
 have hm:=Qi6 a c
 show IntKind.i64.wrap ((BitVec.ofInt 64 (a:Int) &&& ~~~BitVec.ofInt 64 ((1023:Nat):Int)).toNat:Int)=_
 rw[BitVec.toNat_and,BitVec.toNat_not,BitVec.ofInt_natCast,BitVec.ofInt_natCast,BitVec.toNat_ofNat,BitVec.toNat_ofNat,Nat.mod_eq_of_lt (show a<2 ^ 64 by omega),Nat.mod_eq_of_lt (show 1023<2 ^ 64 by decide),hm,IntKind.wrap_i64]
 omega
theorem Qmy (x y:Int)(d:0<=x)(h1:x<256)(h2:0<=y)(g:y<256):bits .or .i64 x (y*256)=x+y*256:=by
 have e:bits .or .i64 (y*256) x=y*256+x:=bits_join .i64 31 (by decide) (fun n a b=>by rw[IntKind.wrap_i64];omega) 8 (y*256) x (by omega) (by omega) (by omega) d (by omega) (by omega)
 obtain⟨a,rfl⟩:=Int.eq_ofNat_of_zero_le d
 obtain⟨b,rfl⟩:=Int.eq_ofNat_of_zero_le h2
 have f : ∀n:Int,0<=n->n<2 ^ 31->IntKind.i64.wrap n=n:=fun n a b=>by rw[IntKind.wrap_i64];omega
 have c:((b:Int)*256)=((b*256:Nat):Int):=by omega
 rw[c] at e ⊢
 rw[(bits_nat .i64 31 (by decide) f _ _ (by omega) (by omega)).2] at e ⊢
 rw[Nat.or_comm,e]
 omega
theorem Q6 {B:Nat}{a w:World}(h:Below B a w)(n:Nat):Below B a (w.drewN n):=⟨h.os,h.tape,h.output,h.size,h.block⟩
theorem Qfv (x:Int)(a:0<=x)(h1:x<65536):bits .and .i64 x 1023=x % 1024:=QfK 10 (by omega) x a (by omega)
theorem Bts.cut_ {w:World}{D:Nat->Prop}{a:Addr}{n k:Nat}{l:List Int}(h:Bts w D (some a) n l)(b:0<k)(c:k<=n):Bts w D (some ⟨a.block,a.off+k,none⟩) (n-k) (l.drop k):=by
 have:=Reads.cut h c (Nat.le_succ n)
 rw[if_neg (by omega)] at this
 simpa[Qb6 a k b,Bts] using this
def Qa4 (o:Int)(l:List Int):Int:=if o=0 then l.getD 0 0+l.getD 1 0*256 else l.getD 1 0+l.getD 0 0*256
theorem QcG (o:Int)(l:List Int)(h:Byt l):0<=Qa4 o l/\Qa4 o l<65536:=by
 have:=h.at_ 0
 have:=h.at_ 1
 unfold Qa4
 split<;>omega
theorem Qkb (o:Int)(D:Nat->Prop)(A:Option Addr)(n c:Nat)(l:List Int)(w:World)(s:o=0\/o=1)(q:Bts w D A n l)(m:Byt l)(hn:n<=2147483648)(y:2<=n) :
  Calls Tryz.prog 238 #[.agg #[.int .i64 o],.slice A n c] w fun e w'=>e=.returned (.int .i64 (Qa4 o l))/\ZB w w':=by
 obtain⟨u,rfl,E,d⟩:=q.at_ (show 0<n by omega)
 obtain⟨r,a,_,b⟩:=q.at_ (show 1<n by omega)
 injection a with a
 subst a
 rw[add_zero] at d
 rw[Qb6 u 1 (by omega)] at b
 obtain⟨x0,f⟩:∃x,l.getD 0 0=x:=⟨_,rfl⟩
 obtain⟨j,g⟩:∃x,l.getD 1 0=x:=⟨_,rfl⟩
 have i:=m.at_ 0
 have h:=m.at_ 1
 rw[f] at d i
 rw[g] at b h
 have C:(0:Int)<n:=by omega
 have G:(1:Int)<n:=by omega
 have k:ZB w (w.alloc (.cells #[.int .i64 o] 211)):=(Below.refl _ w).alloc (Nat.le_refl _) _
 have F:=Qh k d
 have v:=Qh k b
 have B:=Qmy x0 j i.1 i.2 h.1 h.2
 have z:=Qmy j x0 h.1 h.2 i.1 i.2
 have p:Qa4 o l=if o=0 then x0+j*256 else j+x0*256:=by unfold Qa4;rw[f,g]
 have t:=Zh p
 clear p f g d b
 rcases s with rfl|rfl
 all_goals
  go_enter Tryz.func238,Tryz.ntmps238
  go_wp2_with fail
  go_quiet (fail)
  go_wp2_with fail
  go_ret
  refine⟨QaB ?_,Q6 k _⟩
  rw[t.out]
  rfl
def Qfy (u:Int):Bool:=decide (u / 1024=54)
def Qod (u:Int):Bool:=decide (u / 1024=55)
theorem QgE (u:Int)(w:World)(a:0<=u)(h1:u<65536):Calls Tryz.prog 239 #[.int .i64 u] w fun e w'=>e=.returned (.bool (Qfy u))/\w=w':=by
 have k:=Qdn u a h1
 go_enter Tryz.func239,Tryz.ntmps239
 go_wp2
 go_ret
 refine⟨Qb3 ?_,rfl⟩
 show ((u-u % 1024)==55296)=Qfy u
 unfold Qfy
 rw[Bool.eq_iff_iff,beq_iff_eq,decide_eq_true_eq]
 omega
theorem Qq0 (u:Int)(w:World)(a:0<=u)(h1:u<65536):Calls Tryz.prog 240 #[.int .i64 u] w fun e w'=>e=.returned (.bool (Qod u))/\w=w':=by
 have k:=Qdn u a h1
 go_enter Tryz.func240,Tryz.ntmps240
 go_wp2
 go_ret
 refine⟨Qb3 ?_,rfl⟩
 show ((u-u % 1024)==56320)=Qod u
 unfold Qod
 rw[Bool.eq_iff_iff,beq_iff_eq,decide_eq_true_eq]
 omega
def QbR (o:Int)(l:List Int):Bool:=Qfy (Qa4 o l) && decide (4<=l.length) && Qod (Qa4 o (l.drop 2))
def Qbc (o:Int)(l:List Int):Int:=
 if l.length=1 then -1-l.getD 0 0 else if QbR o l=true then 65536+Qa4 o l % 1024*1024+Qa4 o (l.drop 2) % 1024 else Qa4 o l
def Qaf (o:Int)(l:List Int):Int:=if l.length=1 then 1 else if QbR o l=true then 4 else 2
theorem Qfz (o:Int)(D:Nat->Prop)(A:Option Addr)(n c:Nat)(l:List Int)(w:World)(J:o=0\/o=1)(C:Bts w D A n l)(m:Byt l)(hn:n<=2147483648)(O:0<n)(L:n<=c) :
  Calls Tryz.prog 233 #[.agg #[.int .i64 o],.slice A n c] w fun e w'=>e=.returned (.tuple #[.int .i64 (Qbc o l),.int .i64 (Qaf o l)])/\ZB w w':=by
 have N:l.length<=n:=Nat.le_of_eq C.len
 have M:n<=l.length:=Nat.le_of_eq C.len.symm
 obtain⟨H,rfl,W,h⟩:=C.at_ O
 rw[add_zero] at h
 obtain⟨x0,g⟩:∃x,l.getD 0 0=x:=⟨_,rfl⟩
 have R:=m.at_ 0
 rw[g] at h R
 have k:ZB w (w.alloc (.cells #[.int .i64 o] 211)):=(Below.refl _ w).alloc (Nat.le_refl _) _
 have Y:=Qh k h
 have r:=Reads.below C k
 clear h
 by_cases hn1:n=1
 ·have f:Qbc o l = -1-x0:=by unfold Qbc;rw[if_pos (by omega),g]
  have d:Qaf o l=1:=by unfold Qaf;rw[if_pos (by omega)]
  have s:=Zh f
  have HS:=Zh d
  clear f d g
  have S:((n:Int)==1)=true:=by rw[beq_iff_eq];omega
  have V:(0:Int)<n:=by omega
  clear hn1
  go_enter Tryz.func233,Tryz.ntmps233
  go_wp2_with fail
  go_ret2
  exact⟨QdM (by rw[s.out]) (by rw[HS.out]),k⟩
 ·have S:((n:Int)==1)=false:=by rw[beq_eq_false_iff_ne];omega
  have ub:=QcG o l m
  obtain⟨u,q⟩:=ZN (Qa4 o l)
  rw[q] at ub
  have i:=Qkb o D (some H) n c l _ J r m hn (by omega)
  rw[q] at i
  have j:=Zh i
  have f:Qbc o l=if QbR o l=true then 65536+u % 1024*1024+Qa4 o (l.drop 2) % 1024 else u:=by unfold Qbc;rw[if_neg (by omega),q]
  have d:Qaf o l=if QbR o l=true then 4 else 2:=by unfold Qaf;rw[if_neg (by omega)]
  have p:QbR o l=(Qfy u && decide (4<=l.length) && Qod (Qa4 o (l.drop 2))):=by unfold QbR;rw[q]
  have s:=Zh f
  have HS:=Zh d
  have G:=Zh p
  clear f d p g q i
  cases hh:Qfy u
  ·have hp:QbR o l=false:=by rw[G.out,hh];rfl
   have b:=Zh hp
   clear hp
   go_enter Tryz.func233,Tryz.ntmps233
   go_wp2_with fail
   refine(j.out).mono ?_
   rintro e w1 ⟨rfl,a⟩
   go_wp2_with fail
   refine(QgE u _ ub.1 ub.2).mono ?_
   rintro e I ⟨rfl,rfl⟩
   go_wp2_with fail
   go_ret2
   exact⟨QdM (by rw[s.out,b.out];rfl) (by rw[HS.out,b.out];rfl),k.trans (a.mono (by simp))⟩
  ·by_cases h4:n<4
   ·have hp:QbR o l=false:=by rw[G.out,hh,show decide (4<=l.length)=false by simp;omega];rfl
    have b:=Zh hp
    clear hp
    have P:(n:Int)<4:=by omega
    go_enter Tryz.func233,Tryz.ntmps233
    go_wp2_with fail
    refine(j.out).mono ?_
    rintro e w1 ⟨rfl,a⟩
    go_wp2_with fail
    refine(QgE u _ ub.1 ub.2).mono ?_
    rintro e I ⟨rfl,rfl⟩
    go_wp2_with fail
    go_ret2
    exact⟨QdM (by rw[s.out,b.out];rfl) (by rw[HS.out,b.out];rfl),k.trans (a.mono (by simp))⟩
   ·have P : ¬(n:Int)<4:=by omega
    have vb:=QcG o (l.drop 2) (m.drop 2)
    obtain⟨v,B⟩:=ZN (Qa4 o (l.drop 2))
    rw[B] at vb
    have hp:QbR o l=Qod v:=by rw[G.out,hh,show decide (4<=l.length)=true by simp;omega,B];rfl
    have b:=Zh hp
    have K:=Zh B
    clear hp B
    have X:(2:Int)<=n:=by omega
    have Z:(n:Int)<=c:=by omega
    have U:=Qfv u ub.1 ub.2
    have m2:=Qfv v vb.1 vb.2
    have T : ¬c=2:=by omega
    have E:Bts (w.alloc (.cells #[.int .i64 o] 211)) D (some ⟨H.block,H.off+2,none⟩) (n-2) (l.drop 2):=Bts.cut_ r (by omega) (by omega)
    go_enter Tryz.func233,Tryz.ntmps233
    go_wp2_with fail
    refine(j.out).mono ?_
    rintro e w1 ⟨rfl,a⟩
    go_wp2_with fail
    refine(QgE u _ ub.1 ub.2).mono ?_
    rintro e I ⟨rfl,rfl⟩
    go_wp2_with fail
    have t:Blk w1 w.heap.size 211 #[.int .i64 o]:=(Blk.new w _ _).below a
    have c0:=t.cell 0
    simp at c0
    have F:=Reads.below E a
    go_cut [7] (fun Q wx=>Q=.int .i64 v/\ZB w1 wx)
    case first=>
     go_region_held3 (fun w'=>w'.cell? ⟨w.heap.size,0,none⟩=some (.int .i64 o)) (first|assumption|exact Qh (by assumption) (by assumption)) (first|(go_at_call 238;refine(Qkb o D _ (n-2) (c-2) (l.drop 2) _ J ?hx1 (m.drop 2) ?hx2 ?hx3).mono ?_;exact F;omega;omega;rintro e w3 ⟨rfl,y⟩))
     all_goals
      go_wp2_with fail
      go_meet
      exact⟨by rw[K.out],QD (by assumption)⟩
    case rest=>
     obtain⟨rfl,y⟩:=hcut
     have z:ZB w wc:=(k.trans (a.mono (by simp))).trans (y.mono (by have:=a.size;simp at this;omega))
     cases hlo:Qod v
     all_goals
      go_wp2_with fail
      refine(Qq0 v _ vb.1 vb.2).mono ?_
      rintro e w4 ⟨rfl,rfl⟩
      go_wp2_with fail
      go_ret2
      exact⟨QdM (by rw[s.out,b.out,hlo,K.out];rfl) (by rw[HS.out,b.out,hlo];rfl),z⟩
def Qma (l:List Int):Int:=l.getD 0 0
theorem Qlf (D:Nat->Prop)(A:Option Addr)(n c:Nat)(l:List Int)(w:World)(i:Bts w D A n l)(f:Byt l)(h:0<n) :
  Calls Tryz.prog 242 #[.agg #[],.slice A n c] w fun e w'=>e=.returned (.tuple #[.int .i64 (Qma l),.int .i64 1])/\ZB w w':=by
 obtain⟨p,rfl,m,a⟩:=i.at_ h
 rw[add_zero] at a
 obtain⟨x0,b⟩:∃x,l.getD 0 0=x:=⟨_,rfl⟩
 have j:=f.at_ 0
 rw[b] at a j
 have g:=Zh b
 have d:ZB w (w.alloc (.cells #[] 212)):=(Below.refl _ w).alloc (Nat.le_refl _) _
 have o:=Qh d a
 clear a b
 have k:(0:Int)<n:=by omega
 go_enter Tryz.func242,Tryz.ntmps242
 go_wp2_with fail
 go_ret2
 exact⟨QdM (by unfold Qma;rw[g.out]) rfl,d⟩
theorem QfX {P:Program}{T:Value->World->Prop}{o:Oper}{a:Act}{s x:Operand}{t:TypeId}{v sl v':Value}{w w':World}
  (d:o.op=.call { callee:=.builtin .append,args := #[s,x],argTypes := #[t,t] }) (c:a.eval s=v) (b:a.eval x=sl) (f:(Builtin.append_ #[t,t] o.type #[v,sl]).run P w=.ok v' w') (e:T v' w'):HRun P T ((execOp a.eval o).run P w):=by
 unfold execOp
 simp only[d,resolve,invoke,builtin,Sem.run_bind,Sem.run_pure,Result.andThen_ok,List.map_toArray,List.map_cons,List.map_nil,c,b,f]
 exact e
theorem Q5 {P:Program}{T:Value->World->Prop}{o:Oper}{a:Act}{s x:Operand}{w:World}(t:TypeId)
  (G:o.op=.call { callee:=.builtin .append,args := #[s,x],argTypes := #[t,t] })
  (base:Nat) (e:TypeId) (i:TypeInfo) (z:Value) (size bytes:Nat) (F:P.underlying t=some (.slice e)) (C:P.info? e=some i) (H:i.zero=some z)
  (g:i.size=size) (q:i.bytes=bytes) (y:z.cells.size=size) (p:0<size)
  (v:Value) (n:Nat) (xs:List Value) (K:a.eval s=v) (k:w.ownsRow base e size v n xs)
  (r:Addr) (m c:Nat) (news:List Value) (D:a.eval x=.slice (some r) m c) (E:news.length=m*size) (d : ∀j u,news[j]? = some u->w.cell? (r.add j)=some u) (h1 : ∀u ∈ news,u.oneCell'=true)
  (l:n+m<=maxLen) (b:(n+m)*bytes<=140737488355328) (f:base<=w.heap.size)
  (h : ∀v' w',w'.ownsRow base e size v' (n+m) (xs++news)->w.grownBy w' v.ownBlock->(v'=.slice none 0 0↔v=.slice none 0 0/\m=0)->(v'.ownBlock=v.ownBlock\/v'.ownBlock=some w.heap.size)->T v' w'):HRun P T ((execOp a.eval o).run P w):=by
 obtain⟨v',w',B,h2,J,I,A⟩:=run_append_own_at (P:=P) w base t o.type e i z size bytes F C H g q y p v n xs k r m c news E d h1 l b f
 exact QfX G K D B (h v' w' h2 J I A)
end Go.Proofs.YtgiihhikdoikgaaGreat
