/-
  copyistlaw12.same: are two lists equal? Tags of a text.
-/
import Derived.Test.YtgiihhikdoikgaaGreatLRf2
import Derived.Test.YtgiihhikdoikgaaGreatLRow4
import Derived.Carry
import Derived.Laws.IdiomRangeMap
import Derived.Deep.AppendLies
import Derived.Deep.RegionLaw
import Derived.Test.YtgiihhikdoikgaaGreatLSeek
set_option linter.unusedSimpArgs false
set_option linter.unusedVariables false
set_option maxRecDepth 100000
set_option maxHeartbeats 32000000
namespace Go.Proofs.YtgiihhikdoikgaaGreat
open Go.RowKit
def Apart (u v:Value):Prop:=∀b,u.ownBlock=some b->v.ownBlock≠some b
theorem Apart.symm {u v:Value}(h:Apart u v):Apart v u:=fun b h1 h2=>h b h2 h1
theorem Qsb {w:World}{base r:Nat}{e:TypeId}{size n:Nat}{v:Value}{xs:List Value}(h:w.ownsRow base e size v n xs)(a:v.ownBlock=some r):r<w.heap.size:=by
 rcases h.2 with ⟨rfl,_⟩|⟨b,cap,cur,rfl,d,c,_⟩
 ·simp[Value.ownBlock] at a
 ·have:b=r:=by simpa[Value.ownBlock] using a
  subst this
  exact(Array.getElem?_eq_some_iff.1 c).1
theorem Apart.grow {w:World}{base e size n:Nat}{u v c:Value}{xs:List Value}(h:Apart u v)(d:w.ownsRow base e size v n xs)(a:c.ownBlock=u.ownBlock\/∃H,c.ownBlock=some H/\w.heap.size<=H):Apart c v:=by
 intro b h1 h2
 rcases a with a|⟨H,a,f⟩
 ·exact h b (a▸h1) h2
 ·rw[a] at h1
  injection h1 with h1
  have:=Qsb d h2
  omega
theorem QdW {w w':World}{row:Option Nat}{base e size n:Nat}{v:Value}{xs:List Value}(h:w.ownsRow base e size v n xs)(c:w.grownBy w' row)(a : ∀b,v.ownBlock=some b->row≠some b):w'.ownsRow base e size v n xs:=by
 refine⟨h.1,?_⟩
 rcases h.2 with d|⟨g,cap,cur,rfl,h1,h2,f⟩
 ·exact .inl d
 ·refine .inr ⟨g,cap,cur,rfl,h1,?_,f⟩
  rw[c.block g (Array.getElem?_eq_some_iff.1 h2).1 (fun e=>a g rfl e.symm)]
  exact h2
def RTx (w:World)(g:Nat)(enc lim:Int)(va vt:Value):Prop:=Blk w g 166 #[.int .i64 enc,.int .i64 lim,va,vt,.slice none 0 0]
def R5R (enc lim:Int)(l:List Int)(w:World)(k:Nat)(a:Value)(wr:World):Prop:=
 ∃(p:Nat) (pre:List (Int × Int)) (va vt:Value),a=.int .i64 (p:Int)/\Hid (dec enc l=pre++dec enc (l.drop p)/\(pre.map Prod.snd).sum=(p:Int))/\p<=l.length/\pre.length<=p/\l.length-p<=k/\RTx wr w.heap.size enc lim va vt /\
  Hid (wr.ownsRow (w.heap.size+1) 3 1 va pre.length ((pre.map Prod.fst).map (Value.int .i64)))/\Hid (wr.ownsRow (w.heap.size+1) 3 1 vt pre.length (((QbS 0 0 pre).map Prod.snd).map (Value.int .i64)))/\Apart va vt/\ZB w wr/\w.heap.size+1<=wr.heap.size
def RText (w:World)(B g:Nat)(enc lim:Int)(ats tgs:List Int):Prop:=
 ∃va vt,RTx w g enc lim va vt/\w.ownsRow B 3 1 va ats.length (ats.map (Value.int .i64))/\w.ownsRow B 3 1 vt tgs.length (tgs.map (Value.int .i64))
def Qsg (enc lim:Int)(l:List Int)(w:World)(e:Ending)(w':World):Prop:=
 e=.returned (.tuple #[.pointer (some ⟨w.heap.size,0,none⟩),.int .i64 0])/\RText w' w.heap.size w.heap.size enc lim ((dec enc l).map Prod.fst) ((QbS 0 0 (dec enc l)).map Prod.snd)/\ZB w w'
theorem Qan {w:World}{B a e size n:Nat}{v:Value}{xs:List Value}(h:w.ownsRow B e size v n xs)(b:a<=B):w.ownsRow a e size v n xs:=by
 refine⟨h.1,?_⟩
 rcases h.2 with c|⟨g,cap,cur,rfl,h1,h2⟩
 ·exact .inl c
 ·exact .inr ⟨g,cap,cur,rfl,Nat.le_trans b h1,h2⟩
theorem Qag {w:World}{B e size n g i:Nat}{t:TypeId}{c:Array Value}{v u:Value}{xs:List Value}(h:w.ownsRow B e size v n xs)(b:Blk w g t c)(a:e≠t):(w.setCell ⟨g,i,none⟩ u).ownsRow B e size v n xs:=
 ownsRow_setCell_other h (Qk h b a) _
theorem Qg3 (w:World)(v:Value)(T:TypeId){H:Nat}(a:w.heap.size=H) : ∀j u,[v][j]? = some u->(w.alloc (.cells #[v] T)).cell? ((⟨H,0,none⟩:Addr).add j)=some u:=by
 subst a
 exact cell_one_new _ _ _
theorem QkT (enc lim:Int)(D:Nat->Prop)(A:Option Addr)(n c:Nat)(l:List Int)(w:World)(he:enc=1\/enc=2\/enc=3\/enc=4)(hl:Bts w D A n l)(hB:Byt l)(b3:(n:Int)<=lim/\lim<=65536)(T:n<=c) :
  Calls Tryz.prog 137 #[.int .i64 enc,.slice A n c,.int .i64 lim] w fun e w'=>Qsg enc lim l w e w':=by
 have b6:=hl.len
 have hn:n<=65536:=by omega
 have q2:(lim<0)=False:=by simp;omega
 have q3:(65536<lim)=False:=by simp;omega
 have q4:(lim<(n:Int))=False:=by simp;omega
 have q0:(enc<1)=False:=by simp;omega
 have q1:(4<enc)=False:=by simp;omega
 obtain⟨i0,hi,L,P,M⟩:=info_parts Qa3
 have HE:=Zh he
 clear he
 go_enter Tryz.func137,Tryz.ntmps137
 go_wp2_with fail
 go_loopg [9] n (fun k q wr=>R5R enc lim l w k q wr)
 case atStart=>
  refine⟨0,[],.slice none 0 0,.slice none 0 0,rfl,Zh ⟨by simp,rfl⟩,Nat.zero_le _,Nat.le_refl _,by omega,Blk.new w _ _,Zh (World.ownsRow_nil _ _ _ _),Zh (World.ownsRow_nil _ _ _ _),fun b h=>by simp[Value.ownBlock] at h,Qa (Below.refl _ _),by simp⟩
 case round=>
  obtain⟨p,pre,va,vt,rfl,f,b9,a1,hk,hT,U,V,a0,hb,b5⟩:=hrel
  by_cases hlt:p<n
  ·have hz:=QZ enc (l.drop p) (by rw[List.length_drop];omega)
   have R:=Qmq enc D A n c p l wr HE.out (Reads.below hl hb) hB (by omega) T hlt
   have B:=QaN enc (l.drop p) (by rw[List.length_drop];omega)
   obtain⟨a,ha⟩:=ZN (Qa8 enc (l.drop p))
   obtain⟨z,O⟩:∃z:Nat,QB enc (l.drop p)=(z:Int):=⟨(QB enc (l.drop p)).toNat,by omega⟩
   rw[ha,O] at R B
   rw[O,List.length_drop] at hz
   rw[List.drop_drop,Int.toNat_natCast] at B
   have HC:=Zh R
   have HD:=Zh B
   clear R B ha O
   go_wp2_with fail
   refine(HC.out).mono ?_
   rintro e w3 ⟨rfl,s⟩
   have m:=hT.below s
   have X:=QT U.out s
   have I:=QT V.out s
   have b8:=s.size
   have Y:=Qf hb s
   have c2:=m.cell 2
   have f2:=m.frozen 2
   have c3:=m.cell 3
   simp at c2 c3
   have q5:((z:Int)<1)=False:=by simp;omega
   have N:=Zh X
   have S:=Zh I
   clear X I
   have b2:=m.lt
   go_wp2_with (at_builtin;refine wpList_append_own_at _ rfl (.tmp 49) (.tmp 51) 36 rfl (w.heap.size+1) 3 i0 (.int .i64 0) 1 8 Tryz.underlying36 hi L P M rfl (by decide) va pre.length _ rfl (N.out.alloc _) ⟨w3.heap.size,0,none⟩ 1 1 [.int .i64 a] rfl rfl (cell_one_new _ _ _) (by simp[Value.oneCell']) (by unfold maxLen;omega) (by omega) (by simp;omega) ?_)
   intro t w4 j d _ o
   have x:Blk w4 w.heap.size 166 _:=(m.alloc _).grown d (fun e=>Qk N.out m (by decide) e.symm)
   have E:=QdW (S.out.alloc _) d (fun b h1 h2=>a0 b h2 h1)
   have G:Apart t vt:=a0.grow S.out (o.imp id (fun h=>⟨_,h,by simp⟩))
   have a4:ZB w w4:=Qy (Qa Y) d (fun k hk=>by have:=QaV N.out hk;omega)
   have c0:w.heap.size+1<=w4.heap.size:=by have:=d.size;simp at this;omega
   have b4:w3.heap.size<=w4.heap.size:=by have:=d.size;simp at this;omega
   have d2:=x.cell 2
   have g2:=x.frozen 2
   have y:=x.set_ 2 t
   have H:=Qag (i:=2) (u:=t) j x (by decide)
   have K:=Qag (i:=2) (u:=t) E x (by decide)
   have a6:ZB w (w4.setCell ⟨w.heap.size,2,none⟩ t):=a4.setCell (Nat.le_refl _) _
   simp at d2
   have b7:=Zh j
   have W:=Zh H
   have Q:=Zh K
   have e5:=y.cell 3
   have e6:=y.frozen 3
   simp at e5
   obtain⟨r,cap,b1,_,_⟩:=j.form (by omega)
   subst b1
   clear j E d o H K c2 c3 f2
   go_wp2_with (at_builtin;refine wpList_append_own_at _ rfl (.tmp 59) (.tmp 61) 36 rfl (w.heap.size+1) 3 i0 (.int .i64 0) 1 8 Tryz.underlying36 hi L P M rfl (by decide) vt pre.length _ rfl (Q.out.alloc _) ⟨w4.heap.size,0,none⟩ 1 1 [.int .i64 (p:Int)] rfl rfl (Qg3 _ _ _ (by simp[World.setCell])) (by simp[Value.oneCell']) (by unfold maxLen;omega) (by omega) (by simp;omega) ?_)
   intro a3 w6 v d _ o
   have hT6:Blk w6 w.heap.size 166 _:=(y.alloc _).grown d (fun e=>Qk Q.out y (by decide) e.symm)
   have J:=QdW (W.out.alloc _) d (fun b h1 h2=>G b h1 h2)
   have Z:Apart a3 (.slice (some ⟨r,0,none⟩) (pre.length+1) cap):=G.symm.grow W.out (o.imp id (fun h=>⟨_,h,by simp⟩))
   have a9:ZB w w6:=Qy (Qa a6) d (fun k hk=>by have:=QaV Q.out hk;omega)
   have a2:w.heap.size+1<=w6.heap.size:=by have:=d.size;simp[World.setCell] at this;omega
   obtain⟨r2,g,a7,_,_⟩:=v.form (by omega)
   subst a7
   have d3:=hT6.cell 3
   have g3:=hT6.frozen 3
   simp at d3
   have a8:=hT6.set_ 3 (.slice (some ⟨r2,0,none⟩) (pre.length+1) g)
   have C:=Qag (i:=3) (u:=.slice (some ⟨r2,0,none⟩) (pre.length+1) g) J hT6 (by decide)
   have F:=Qag (i:=3) (u:=.slice (some ⟨r2,0,none⟩) (pre.length+1) g) v hT6 (by decide)
   have hb7:ZB w (w6.setCell ⟨w.heap.size,3,none⟩ (.slice (some ⟨r2,0,none⟩) (pre.length+1) g)):=a9.setCell (Nat.le_refl _) _
   have a5:=Zh C
   have b0:=Zh F
   clear v J d o C F e5 e6 d2 g2 hi L P M
   go_wp2_with fail
   go_roundg (n-(p+z))
   case measure=>omega
   case rel=>
    refine⟨p+z,pre++[(a,(z:Int))],_,_,by go_num,Zh ⟨?_,?_⟩,by omega,by simp;omega,by omega,a8.eq_ rfl,Zh ?_,Zh ?_,Z.symm,hb7,by simpa[World.setCell] using a2⟩
    ·rw[f.out.1,HD.out,List.append_assoc];rfl
    ·rw[List.map_append,List.sum_append,f.out.2];simp
    ·have:=a5.out
     simpa using this
    ·have:=b0.out
     rw[Qe3,f.out.2]
     simpa[QbS] using this
  ·obtain rfl:p=l.length:=by omega
   have hp:=f.out
   rw[List.drop_length,QcY,List.append_nil] at hp
   go_wp2_with fail
   go_ret2
   refine⟨rfl,⟨va,vt,hT,?_,?_⟩,hb⟩<;>rw[hp.1]
   ·rw[List.length_map];exact Qan U.out (by omega)
   ·rw[List.length_map,Qa5];exact Qan V.out (by omega)
def Qeb (enc lim:Int)(n:Nat):Int:=if enc<1\/4<enc then 10 else if lim<0\/65536<lim then 1 else if lim<(n:Int) then 50 else 0
theorem Qex {enc lim:Int}{n:Nat}(h:Qeb enc lim n=0):(enc=1\/enc=2\/enc=3\/enc=4)/\(n:Int)<=lim/\lim<=65536:=by
 unfold Qeb at h
 split at h
 ·cases h
 ·split at h
  ·cases h
  ·split at h
   ·cases h
   ·omega
def EmptyMap (w:World)(r:Nat):Prop:=w.heap[r]? = some (.map #[] 0)
theorem EmptyMap.lt {w:World}{r:Nat}(h:EmptyMap w r):r<w.heap.size:=(Array.getElem?_eq_some_iff.1 h).1
theorem EmptyMap.below {w w':World}{r:Nat}(h:EmptyMap w r)(a:ZB w w'):EmptyMap w' r:=(a.block r h.lt).trans h
theorem EmptyMap.fr {w w':World}{S:Nat->Prop}{r:Nat}(h:EmptyMap w r)(a:Fr S w w')(hn : ¬S r):EmptyMap w' r:=(a.block r h.lt hn).trans h
theorem EmptyMap.alloc {w:World}{r:Nat}(h:EmptyMap w r)(o:Obj):EmptyMap (w.alloc o) r:=(Below.heap_alloc w o r h.lt).trans h
theorem EmptyMap.far {w:World}{r:Nat}(h:EmptyMap w r){p:Addr}(hp:r≠p.block)(u:Value):EmptyMap (w.setCell p u) r:=(Below.heap_setCell w p u r hp).trans h
theorem EmptyMap.ne_blk {w:World}{r g:Nat}{T:TypeId}{b:Array Value}(h:EmptyMap w r)(a:Blk w g T b):r≠g:=by
 rintro rfl
 unfold EmptyMap at h
 unfold Blk at a
 rw[h] at a
 cases a
theorem EmptyMap.new (w:World):EmptyMap (w.alloc (.map #[] 0)) w.heap.size:=heap_alloc_new w _
theorem EmptyMap.range {w:World}{r:Nat}{t k e:TypeId}(h:EmptyMap w r)(a:Tryz.prog.underlying t=some (.map k e)):(Instr.range t (.map (some r))).run Tryz.prog w=.ok (.pointer (some ⟨w.heap.size,0,none⟩)) (w.alloc (.mapIter (some r) 0 #[] 0)):=run_range_map w t k e r #[] 0 a h
theorem EmptyMap.next {w:World}{r:Nat}(h:EmptyMap w r)(ty:TypeId):(Instr.next (.pointer (some ⟨w.heap.size,0,none⟩)) false ty).run Tryz.prog (w.alloc (.mapIter (some r) 0 #[] 0))=.ok (.tuple #[.bool false]) (w.alloc (.mapIter (some r) 0 #[] 0)):=by
 rcases run_next_map (P:=Tryz.prog) w ty r 0 0 #[] #[] 0 h (fun x a=>by cases a) (Nat.le_refl _) with ⟨_,c⟩|⟨e,b,_⟩
 ·exact c
 ·simp[leftOf] at b
theorem Blk.new' {w:World}{t:TypeId}{a:Array Value}{H:Nat}(h:w.heap.size=H):Blk (w.alloc (.cells a t)) H t a:=h▸Blk.new w t a
def Qs7:Value->Bool
 | .int .u8 _=>false
 |_=>true
def NoU8 (a:Array Value):Prop:=a.toList.all Qs7=true
theorem NoU8.ne {b:Array Value}(h:NoU8 b)(i:Nat)(x:Int):b[i]? ≠ some (Value.int .u8 x):=by
 intro a
 have h1:=List.all_eq_true.1 h (Value.int .u8 x) (by rw[<-Array.getElem?_toList] at a;exact List.mem_of_getElem? a)
 cases h1
theorem QiU {w:World}{g:Nat}{T:TypeId}{a:Array Value}(b:Blk w g T a){p:Addr}{v:Value}(hp:p.block=g)(h:w.cell? p=some v):a[p.off]? = some v:=by
 subst hp
 unfold World.cell? at h
 rw[show w.heap[p.block]? = _ from b] at h
 dsimp only at h
 split at h
 ·cases h
 ·exact h
theorem Bts.other {w w':World}{D:Nat->Prop}{A:Option Addr}{n k:Nat}{l:List Int}{T:TypeId}{d:Array Value}(h:Bts w D A n l)(p:Fr (· = k) w w')(f:Blk w k T d)(i:NoU8 d):Bts w' D A n l:=by
 refine⟨h.1,fun hn=>?_⟩
 obtain⟨b,e,m,g⟩:=h.2 hn
 refine⟨b,e,m,fun j u a=>?_⟩
 have h1:=g j u a
 have h2:(b.add j).block≠k:=by
  intro o
  have c:=QiU f o h1
  rw[List.getElem?_map] at a
  cases hl:l[j]? with
  |none=>rw[hl] at a;cases a
  |some x=>
   rw[hl] at a
   injection a with a
   rw[<-a] at c
   exact i.ne _ _ c
 exact(World.cell?_of_block (w:=w) (p.block _ (Qac h1) h2)).trans h1
theorem TextIn.other {w w':World}{D:Nat->Prop}{g k:Nat}{enc lim:Int}{t:Tr}{a:Option Addr}{add:Value}{T:TypeId}{d:Array Value}(h:TextIn w D g enc lim t a add)(c:Fr (· = k) w w')(b:Blk w k T d)(h1:T≠104)(h2:T≠147)(f:NoU8 d):TextIn w' D g enc lim t a add:=
 ⟨h.blk.fr c (fun e=>Blk.ne_ b h.blk h1 e.symm),h.enc4,NodeAt.keepBut (KeepBut.of_fr c b) h2 t a h.node,h.len,h.tot,h.ok,fun p hp=>Bts.other (h.bts p hp) c b f⟩
theorem TextL.other {w w':World}{D:Nat->Prop}{g k:Nat}{enc lim:Int}{j ats:List (Int × Int)}{T:TypeId}{l:Array Value}(h:TextL w D g enc lim j ats)(i:Fr (· = k) w w')(d:Blk w k T l)(h1:T≠104)(h2:T≠147)(m:NoU8 l)(q:T≠5:=by decide):TextL w' D g enc lim j ats:=by
 obtain⟨t,a,add,h,b,e⟩:=h
 refine⟨t,a,add,h.other i d h1 h2 m,fun p hp o n=>?_,e⟩
 obtain⟨c,f⟩:=b p hp o n
 exact⟨c,f.fr i (fun e=>Blk.ne_ d f q e.symm)⟩
def Qqi (w:World)(a b m:Nat)(depth:Int):Prop:=
 Blk w a 97 #[.pointer (some ⟨b,0,none⟩),.int .i64 depth,.slice none 0 0,.slice none 0 0,.map (some m),.slice none 0 0,.pointer none,.int .i64 0,.int .i64 0,.int .i64 0]/\EmptyMap w m
def QbO (enc lim depth:Int)(n:Nat):Int:=if depth<1\/200<depth then 1 else Qeb enc lim n
def Qn4 (enc lim depth:Int)(l:List Int)(w:World)(e:Ending)(w':World):Prop:=
 ∃a c m,e=.returned (.tuple #[.pointer (some ⟨a,0,none⟩),.int .i64 0])/\Qqi w' a c m depth/\TextL w' (fun b=>w.heap.size<=b) c enc lim (dec enc l) (QbS 0 0 (dec enc l))/\w.heap.size<=a/\w.heap.size<=c/\w.heap.size<=m/\ZB w w'
theorem Qnm (enc lim depth:Int)(D:Nat->Prop)(A:Option Addr)(n c:Nat)(l:List Int)(w:World)(q:Bts w D A n l)(r:Byt l)(f:n<=c)(a:QbO enc lim depth n=0) :
  Calls Tryz.prog 73 #[.int .i64 enc,.slice A n c,.int .i64 lim,.int .i64 depth] w fun e w'=>Qn4 enc lim depth l w e w':=by
 have i : ¬(depth<1\/200<depth):=by
  intro h
  unfold QbO at a
  rw[if_pos h] at a
  cases a
 have j:Qeb enc lim n=0:=by
  unfold QbO at a
  rw[if_neg i] at a
  exact a
 obtain⟨k,b⟩:=Qex j
 have g:=QoH enc lim D A n c l w k q r b f
 have v:(depth<1)=False:=by simp;omega
 have x:(200<depth)=False:=by simp;omega
 have u := @run_makeMap Tryz.prog
 have s:=Zh g
 clear g j k a i
 go_enter Tryz.func73,Tryz.ntmps73
 go_wp2_with fail
 refine(s.out).mono ?_
 rintro e w1 ⟨t,rfl,p,o,d⟩
 go_wp2_with fail
 go_ret2
 have m:=d.size
 refine⟨_,t,w1.heap.size,rfl,⟨Blk.new' (by simp),(EmptyMap.new w1).alloc _⟩,p.below (Qa (Qa (Below.refl _ _))),Nat.le_succ_of_le m,o,m,Qa (Qa d)⟩
def Qni (w:World)(a mk:Nat):Prop:=Blk w a 125 #[.map (some mk),.int .i64 0]/\EmptyMap w mk
def Qom (w:World)(e:Ending)(w':World):Prop:=∃a mk,e=.returned (.pointer (some ⟨a,0,none⟩))/\Qni w' a mk/\w.heap.size<=a/\w.heap.size<=mk/\ZB w w'
theorem Qpj (w:World):Calls Tryz.prog 74 #[] w fun e w'=>Qom w e w':=by
 have a := @run_makeMap Tryz.prog
 go_enter Tryz.func74,Tryz.ntmps74
 go_wp2_with fail
 go_ret
 exact⟨_,w.heap.size,rfl,⟨Blk.new' (by simp),(EmptyMap.new w).alloc _⟩,Nat.le_succ _,Nat.le_refl _,Qa (Qa (Below.refl _ _))⟩
def Qhq (A:List Int)(fb:Int):Int:=if Qja A=0 then fb else Qja A
theorem QjF (D:Nat->Prop)(g:Nat)(enc:Int)(f:List (Int × Int))(fb:Int)(w:World)(h:TextAt w D g enc f) :
  Calls Tryz.prog 75 #[.pointer (some ⟨g,0,none⟩),.int .i64 fb] w fun e w'=>e=.returned (.int .i64 (Qhq (f.map Prod.fst) fb))/\ZB w w':=by
 have a:=Qc0 D g enc f 0 w h (Nat.zero_le _)
 have c:=Qob h.pos
 obtain⟨L,k⟩:=ZN (Qo f 0)
 rw[k] at a c
 have b:Qhq (f.map Prod.fst) fb=if L.brk=0 then fb else L.brk:=by unfold Qhq;rw[<-c]
 rw[b]
 obtain⟨x0,l,m,j⟩:=L
 unfold Ln.cells at a
 dsimp only at a ⊢
 have i:=Zh a
 clear a c k b
 go_enter Tryz.func75,Tryz.ntmps75
 go_wp2_with fail
 refine(i.out).mono ?_
 rintro e w1 ⟨rfl,d⟩
 by_cases h0:j=0
 ·have q:(j != 0)=false:=by simp[h0]
  go_wp2_with fail
  go_ret
  exact⟨rfl,Qa d⟩
 ·have q:(j != 0)=true:=by rw[bne_iff_ne];exact h0
  go_wp2_with fail
  go_ret
  exact⟨rfl,Qa d⟩
def QrG (w:World)(b a c:Nat)(native:Int):Prop:=
 Blk w b 42 #[.pointer (some ⟨a,0,none⟩),.pointer (some ⟨c,0,none⟩),.int .i64 0,.slice none 0 0,.slice none 0 0,.slice none 0 0,.int .i64 0,.bool false,.bool false,.int .i64 native]
def QeB (enc lim native depth:Int)(n:Nat):Int:=if native<1\/3<native then 1 else QbO enc lim depth n
structure NewDesk (B:Nat) (enc lim native depth:Int) (l:List Int) (w':World) (gd gb gt m gk mk:Nat):Prop where
 desk:QrG w' gd gb gk (Qhq ((dec enc l).map Prod.fst) native)
 book:Qqi w' gb gt m depth
 text:TextL w' (fun b=>B<=b) gt enc lim (dec enc l) (QbS 0 0 (dec enc l))
 bank:Qni w' gk mk
 ge:B<=gd/\B<=gb/\B<=gt/\B<=m/\B<=gk/\B<=mk/\m≠mk
def QmE (enc lim native depth:Int)(l:List Int)(w:World)(e:Ending)(w':World):Prop:=
 ∃a b c m d mk,e=.returned (.tuple #[.pointer (some ⟨a,0,none⟩),.int .i64 0])/\NewDesk w.heap.size enc lim native depth l w' a b c m d mk/\ZB w w'
theorem QcO (w:World)(a b:Nat)(c:Array Value)(h:Blk w a 97 c)(d:c[0]? = some (.pointer (some ⟨b,0,none⟩))) :
  Calls Tryz.prog 11 #[.pointer (some ⟨a,0,none⟩)] w fun e w'=>e=.returned (.pointer (some ⟨b,0,none⟩))/\w=w':=by
 have c0:=h.cell 0
 rw[d] at c0
 go_enter Tryz.func11,Tryz.ntmps11
 go_wp2_with fail
 go_ret
 exact⟨rfl,rfl⟩
theorem QoS (enc lim native depth:Int)(D:Nat->Prop)(A:Option Addr)(n c:Nat)(l:List Int)(w:World)(O:Bts w D A n l)(P:Byt l)(z:n<=c)(k:QeB enc lim native depth n=0) :
  Calls Tryz.prog 24 #[.int .i64 enc,.slice A n c,.int .i64 lim,.int .i64 native,.int .i64 depth] w fun e w'=>QmE enc lim native depth l w e w':=by
 have H : ¬(native<1\/3<native):=by
  intro h
  unfold QeB at k
  rw[if_pos h] at k
  cases k
 have I:QbO enc lim depth n=0:=by
  unfold QeB at k
  rw[if_neg H] at k
  exact k
 have G:=Qnm enc lim depth D A n c l w O P z I
 have X:(native<1)=False:=by simp;omega
 have q1:(3<native)=False:=by simp;omega
 have Q:=Zh G
 clear G I k H
 go_enter Tryz.func24,Tryz.ntmps24
 go_wp2_with fail
 refine(Q.out).mono ?_
 rintro e w1 ⟨p,F,m,rfl,⟨r,hm⟩,L,h1,h2,Z,u⟩
 go_wp2_with fail
 refine(Qpj w1).mono ?_
 rintro e j ⟨v,mk,rfl,⟨t,y⟩,Y,W,d⟩
 have T:=u.size
 have U:=d.size
 have f:=(r.below d).alloc (.cells #[.pointer (some ⟨p,0,none⟩),.pointer (some ⟨v,0,none⟩),.int .i64 0,.slice none 0 0,.slice none 0 0,.slice none 0 0,.int .i64 0,.bool false,.bool false,.int .i64 0] 42)
 have J:=Blk.new j 42 #[.pointer (some ⟨p,0,none⟩),.pointer (some ⟨v,0,none⟩),.int .i64 0,.slice none 0 0,.slice none 0 0,.slice none 0 0,.int .i64 0,.bool false,.bool false,.int .i64 0]
 have b:ZB j (j.alloc (.cells #[.pointer (some ⟨p,0,none⟩),.pointer (some ⟨v,0,none⟩),.int .i64 0,.slice none 0 0,.slice none 0 0,.slice none 0 0,.int .i64 0,.bool false,.bool false,.int .i64 0] 42)):=Qa (Below.refl _ _)
 go_wp2_with fail
 obtain⟨w3,o⟩:∃x,j.alloc (.cells #[.pointer (some ⟨p,0,none⟩),.pointer (some ⟨v,0,none⟩),.int .i64 0,.slice none 0 0,.slice none 0 0,.slice none 0 0,.int .i64 0,.bool false,.bool false,.int .i64 0] 42)=x:=⟨_,rfl⟩
 rw[o] at f J b
 rw[o]
 have s:=(L.below d).below b
 have hn:=fun(wy:World) (M:ZB w3 wy)=>QjF _ F enc (dec enc l) native wy (s.at_.below M)
 obtain⟨N,C⟩:=ZN (Qhq ((dec enc l).map Prod.fst) native)
 rw[C] at hn
 have S:=Zh hn
 have B:=Zh C
 clear hn C o
 refine(QcO w3 p F _ f rfl).mono ?_
 rintro e w4 ⟨rfl,rfl⟩
 go_wp2_with fail
 refine(S.out _ (Below.refl _ _)).mono ?_
 rintro e w4 ⟨rfl,a⟩
 have i:=J.below a
 have f9:=i.frozen 9
 have V:=i.cell 9
 simp at V
 go_wp2_with fail
 go_ret2
 have R : ∀{g:Nat},g<j.heap.size->g≠j.heap.size:=fun h=>Nat.ne_of_lt h
 have q:ZB w w4:=Qf (Qf (Qf u d) b) a
 have K:=hm.lt
 have E:=y.lt
 refine⟨j.heap.size,p,F,m,v,mk,rfl,⟨?_,⟨?_,?_⟩,?_,⟨?_,?_⟩,by omega⟩,q.setCell (by simp;omega) _⟩
 ·rw[B.out]
  exact i.set_ 9 _
 ·exact(f.below a).far (by have:=r.lt;simp;omega) _
 ·exact(((hm.below d).below b).below a).far (by simp;omega) _
 ·refine(s.below a).other ((Fr.refl _ _).set1 9 _) i (by decide) (by decide) rfl
 ·exact((t.below b).below a).far (by have:=t.lt;simp;omega) _
 ·exact((y.below b).below a).far (by simp;omega) _
theorem QlX (w:World):Calls Tryz.prog 72 #[.slice none 0 0] w fun e w'=>e=.returned (.slice none 0 0)/\w=w':=by
 have ke:=fun(w:World)=>Lib.run_eql_slice_nil (P:=Tryz.prog) w 36 3 none 0 0 0 0 Tryz.underlying36
 simp only[Option.isNone_none] at ke
 go_enter Tryz.func72,Tryz.ntmps72
 go_wp2_with fail
 go_ret
 exact⟨rfl,rfl⟩
def QmP (w:World)(e:Ending)(w':World):Prop:=∃g,e=.returned (.pointer (some ⟨g,0,none⟩))/\w.heap.size<=g/\ZB w w'
theorem QmG (w:World):Calls Tryz.prog 105 #[] w fun e w'=>QmP w e w':=by
 go_enter Tryz.func105,Tryz.ntmps105
 go_wp2_with fail
 go_ret
 exact⟨_,rfl,Nat.le_refl _,Qa (Below.refl _ _)⟩
def Qf9 (enc lim depth:Int)(a:Nat)(ld:Value):Array Value:=
 #[.int .i64 enc,.int .i64 lim,.int .i64 depth,ld,.pointer (some ⟨a,0,none⟩),.slice none 0 0,.slice none 0 0,.int .i64 0,.slice none 0 0,.slice none 0 0,.bool false,.slice none 0 0,.int .i64 0,.int .i64 0,.int .i64 0,.slice none 0 0,.slice none 0 0,.int .i64 0,.int .i64 0]
def R7R (enc lim depth:Int)(l:List Int)(c a:Nat)(wb:World)(k:Nat)(b:Value)(wr:World):Prop:=
 ∃(i:Nat) (ld:Value),b=.int .i64 (i:Int)/\i<=l.length/\l.length-i<=k/\Blk wr a 174 (Qf9 enc lim depth c ld)/\Hid (wr.ownsRow (a+1) 5 1 ld i ((l.take i).map (Value.int .u8)))/\Below a wb wr/\a+1<=wr.heap.size
def QrP (enc lim depth:Int)(l:List Int)(w:World)(e:Ending)(w':World):Prop:=
 ∃a b ld,e=.returned (.tuple #[.pointer (some ⟨a,0,none⟩),.int .i64 0])/\Blk w' a 174 (Qf9 enc lim depth b ld)/\w'.ownsRow w.heap.size 5 1 ld l.length (l.map (Value.int .u8))/\RText w' w.heap.size b enc lim ((dec enc l).map Prod.fst) ((QbS 0 0 (dec enc l)).map Prod.snd)/\w.heap.size<=a/\w.heap.size<=b/\ZB w w'
theorem RText.below {w w':World}{B g:Nat}{enc lim:Int}{a t:List Int}(h:RText w B g enc lim a t)(b:ZB w w'):RText w' B g enc lim a t:=by
 obtain⟨va,vt,h1,h2,c⟩:=h
 exact⟨va,vt,Blk.below h1 b,QT h2 b,QT c b⟩
theorem Qlc (enc lim depth:Int)(D:Nat->Prop)(A:Option Addr)(n c:Nat)(l:List Int)(w:World)(N:Bts w D A n l)(U:Byt l)(t:n<=c)(j:QbO enc lim depth n=0) :
  Calls Tryz.prog 104 #[.int .i64 enc,.slice A n c,.int .i64 lim,.int .i64 depth] w fun e w'=>QrP enc lim depth l w e w':=by
 have a1:=N.len
 have V : ¬(depth<1\/200<depth):=by
  intro h
  unfold QbO at j
  rw[if_pos h] at j
  cases j
 have r:Qeb enc lim n=0:=by
  unfold QbO at j
  rw[if_neg V] at j
  exact j
 obtain⟨he,z⟩:=Qex r
 have X:=QkT enc lim D A n c l w he N U z t
 have q0:(depth<1)=False:=by simp;omega
 have q1:(200<depth)=False:=by simp;omega
 have hn:n<=65536:=by omega
 obtain⟨ib,S,H,C,s⟩:=info_parts Qfw
 have HC:=Zh X
 clear X r he j V
 go_enter Tryz.func104,Tryz.ntmps104
 go_wp2_with fail
 refine(HC.out).mono ?_
 rintro e w1 ⟨rfl,hT,o⟩
 go_wp2_with fail
 go_loopg [13] n (fun k q wr=>R7R enc lim depth l w.heap.size w1.heap.size w1 k q wr)
 case atStart=>
  exact⟨0,.slice none 0 0,rfl,Nat.zero_le _,by omega,Blk.new w1 _ _,Zh (World.ownsRow_nil _ _ _ _),Qa (Below.refl _ _),by simp⟩
 case round=>
  obtain⟨i,ld,rfl,hi,Y,b,y,G,a0⟩:=hrel
  have Q:=o.size
  by_cases hlt:i<n
  ·have M:Bts wr D A n l:=Reads.below (Reads.below N o) G
   obtain⟨ad,rfl,_,c1⟩:=M.at_ hlt
   have bx:=U.at_ i
   obtain⟨x,m⟩:=ZN (l.getD i 0)
   rw[m] at c1 bx
   have HX:=Zh m
   have I:wr.cell? ⟨w1.heap.size,3,none⟩=some ld:=b.cell 3
   have f3:=b.frozen 3
   have W:=b.lt
   have s1:wr.drew.cell? ⟨w1.heap.size,3,none⟩=some ld/\wr.drew.cell? (ad.add i)=some (.int .u8 x):=⟨I,c1⟩
   have x1:(0:Int)<=(i:Int):=by omega
   have x2:(i:Int)<(n:Int):=by omega
   have R:=Qac c1
   have B:(wr.alloc (.cells #[.int .u8 x] 5)).drew.ownsRow (w1.heap.size+1) 5 1 ld i ((l.take i).map (Value.int .u8)):=World.ownsRow.alloc (w:=wr) y.out _
   have s2:(wr.alloc (.cells #[.int .u8 x] 5)).drew.cell? ⟨w1.heap.size,3,none⟩=some ld/\(wr.alloc (.cells #[.int .u8 x] 5)).drew.cell? (ad.add i)=some (.int .u8 x):=⟨Qh (w:=wr) (Below.drew (Qa (Below.refl _ _))) I,Qh (w:=wr) (Below.drew (Qa (Below.refl _ _))) c1⟩
   have v:Blk (wr.alloc (.cells #[.int .u8 x] 5)).drew w1.heap.size 174 (Qf9 enc lim depth w.heap.size ld):=Blk.alloc (w:=wr) b _
   have p:=Zh B
   have E:=Zh v
   clear m B v
   go_wp2_with fail
   go_region_law (first|((refine step_append_lies _ (by rfl) (.tmp 46) (.tmp 51) 47 (by rfl) (w1.heap.size+1) 5 ib (.int .u8 0) 1 1 Tryz.underlying47 S H C s (by rfl) (by decide) ld i _ (by rfl) p.out ⟨wr.heap.size,0,none⟩ 1 1 [.int .u8 x] (by rfl) (by rfl) (cell_one_new _ _ _) (by simp[Value.oneCell']) (by omega) (by unfold maxLen;omega) (by omega) (by simp;omega) (wr.heap.size+1) (by simp) ?_;intro g cap w4 a d J L;have f:=E.out.grown d (fun e=>Qk p.out E.out (by decide) e.symm);have s4:w4.cell? ⟨w1.heap.size,3,none⟩=some ld:=f.cell 3;have f4:=f.frozen 3)))
   all_goals
    have P:=f.set_ 3 (.slice (some ⟨g,0,none⟩) (i+1) cap)
    have K:ZB w1 w4:=Qy (Below.drew (Qa G)) d (fun k Y=>by have:=QaV p.out Y;omega)
    have F:=Qag (i:=3) (u:=.slice (some ⟨g,0,none⟩) (i+1) cap) a f (by decide)
    have Z:=d.size
    simp at Z
    have T:w1.heap.size+1<=(w4.setCell ⟨w1.heap.size,3,none⟩ (.slice (some ⟨g,0,none⟩) (i+1) cap)).heap.size:=by simp[World.setCell];omega
    have O:=Zh F
    clear a d J s4 f4 s2 s1 c1 I f3 Z F
    go_wp2_with fail
    go_roundg (n-(i+1))
    case measure=>omega
    case rel=>
     refine⟨i+1,_,by go_num,by omega,by omega,P.eq_ rfl,Zh ?_,K.setCell (Nat.le_refl _) _,T⟩
     have:=O.out
     rw[List.take_succ_eq_append_getElem (by omega),List.map_append]
     have m:=HX.out
     rw[List.getD_eq_getElem?_getD,List.getElem?_eq_getElem (by omega)] at m
     simp at m
     rw[m]
     exact this
  ·obtain rfl:i=l.length:=by omega
   have r:=y.out
   rw[List.take_length] at r
   have HO:=Zh r
   clear r
   go_wp2_with fail
   go_ret2
   exact⟨w1.heap.size,w.heap.size,ld,rfl,b,Qan HO.out (by omega),hT.below G,Q,Nat.le_refl _,Qf o G⟩
def QgV:List Int->Int->Int->List Ln
 | [],f,i=>[⟨f,i,i,0⟩]
 |a::r,f,i=>if a=10 then ⟨f,i,i+1,1⟩::QgV r (i+1) (i+1) else if a=13 then (if r.head? = some 10 then ⟨f,i,i+2,2⟩::QgV r.tail (i+2) (i+2) else ⟨f,i,i+1,3⟩::QgV r (i+1) (i+1)) else QgV r f (i+1)
termination_by l=>l.length
decreasing_by all_goals (simp;try omega)
theorem QjO (f i:Int):QgV [] f i=[⟨f,i,i,0⟩]:=by rw[QgV]
theorem Qhp (a:Int)(r:List Int)(f i:Int):QgV (a::r) f i=if a=10 then ⟨f,i,i+1,1⟩::QgV r (i+1) (i+1) else if a=13 then (if r.head? = some 10 then ⟨f,i,i+2,2⟩::QgV r.tail (i+2) (i+2) else ⟨f,i,i+1,3⟩::QgV r (i+1) (i+1)) else QgV r f (i+1):=by rw[QgV]
theorem QmV (A:List Int) : ∀f i,∃L ls,QgV A f i=L::ls/\L.brk=Qja A:=by
 induction A with
 |nil=>intro f i;exact⟨_,_,QjO f i,rfl⟩
 |cons a r ih=>
  intro f i
  rw[Qhp,Qja]
  split
  ·exact⟨_,_,rfl,rfl⟩
  ·split
   ·split
    ·exact⟨_,_,rfl,rfl⟩
    ·exact⟨_,_,rfl,rfl⟩
   ·exact ih f (i+1)
def Qr3:Value:=.agg #[.int .i64 0,.int .i64 0,.int .i64 0,.int .i64 0]
theorem QlI:(Tryz.prog.info? 224).map (fun i=>(i.zero,i.size,i.bytes))=some (some Qr3,4,32):=by kernel_rfl
theorem Ql9:∃i z,Tryz.prog.info? 224=some i/\i.zero=some z/\i.size=4/\i.bytes=32/\z.cells.size=4:=by
 obtain⟨i,h1,h2,a,b⟩:=info_parts QlI
 exact⟨i,Qr3,h1,h2,a,b,rfl⟩
theorem Qd8 (a b c d:Int) : ∀u ∈ [Value.int .i64 a,.int .i64 b,.int .i64 c,.int .i64 d],u.oneCell'=true:=by
 intro u e
 simp at e
 rcases e with rfl|rfl|rfl|rfl<;>rfl
def Qee (ls:List Ln):List Value:=ls.flatMap fun l=>l.cells.toList
theorem Qbs (ls:List Ln)(l:Ln):Qee (ls++[l])=Qee ls++[.int .i64 l.from_,.int .i64 l.to_,.int .i64 l.next,.int .i64 l.brk]:=by
 unfold Qee
 rw[List.flatMap_append]
 simp[Ln.cells]
def Qs1 (A:List Int)(w:World)(k:Nat)(a b c:Value)(wr:World):Prop:=
 ∃(i:Nat) (f:Int) (ls:List Ln) (v:Value),a=v/\b=.int .i64 f/\c=.int .i64 (i:Int)/\i<=A.length/\A.length-i<=k/\0<=f/\f<=i/\ls.length<=i/\Hid (QgV A 0 0=ls++QgV (A.drop i) f i)/\Hid (wr.ownsRow w.heap.size 224 4 v ls.length (Qee ls))/\ZB w wr
def QqI (A:List Int)(w:World)(e:Ending)(w':World):Prop:=
 ∃(v:Value) (n:Int),e=.returned (.tuple #[v,.int .i64 n])/\w'.ownsRow w.heap.size 224 4 v (QgV A 0 0).length (Qee (QgV A 0 0))/\ZB w w'
theorem Qof (D:Nat->Prop)(A:Option Addr)(n c:Nat)(l:List Int)(w:World)(T:Ints w D A n l)(hn:n<=1073741824) :
  Calls Tryz.prog 138 #[.slice A n c] w fun e w'=>QqI l w e w':=by
 have O:=T.len
 obtain⟨ip,zp,m,p,g,j,o⟩:=Ql9
 go_enter Tryz.func138,Tryz.ntmps138
 go_wp2_with fail
 go_loopg [4,5,6] n (fun k q4 q5 q6 wr=>Qs1 l w k q4 q5 q6 wr)
 case atStart=>exact⟨0,0,[],.slice none 0 0,rfl,rfl,rfl,Nat.zero_le _,by omega,by omega,by omega,Nat.le_refl _,Zh (by simp),Zh (World.ownsRow_nil _ _ _ _),Below.refl _ _⟩
 case round=>
  obtain⟨i,f,ls,v,rfl,rfl,rfl,hi,B,a1,a2,a4,u,b,z⟩:=hrel
  by_cases hlt:i<n
  ·obtain⟨L,U,_,c1⟩:=Ints.at_ (Reads.below T z) hlt
   subst U
   have G:=QfH l i (by omega)
   have r:=u.out
   obtain⟨x,Z⟩:=ZN (l.getD i 0)
   rw[Z] at c1 G
   rw[G,Qhp] at r
   have t:i+1<n->∃y,wr.cell? (L.add (i+1))=some (.int .i64 y)/\(l.drop (i+1)).head? = some y/\(l.drop (i+1)).tail=l.drop (i+2):=by
    intro h
    obtain⟨W,U,_,c2⟩:=Ints.at_ (Reads.below T z) h
    obtain rfl:L=W:=by injection U
    refine⟨_,c2,?_,?_⟩
    ·rw[QfH l (i+1) (by omega)];rfl
    ·rw[List.tail_drop]
   have I : ¬i+1<n->(l.drop (i+1)).head? = none:=by
    intro h
    rw[List.drop_eq_nil_of_le (by omega)];rfl
   have s:=Zh r
   have P:=Zh t
   have S:=Zh I
   clear Z G r t I
   have M:=z.size
   by_cases h10:x=10
   ·subst h10
    go_wp2_with (at_builtin;refine wpList_append_own_at _ rfl (.tmp 19) (.tmp 25) 221 rfl w.heap.size 224 ip zp 4 32 Tryz.underlying221 m p g j o (by decide) u4 ls.length _ rfl (b.out.alloc _) ⟨wr.heap.size,0,none⟩ 1 1 [.int .i64 f,.int .i64 (i:Int),.int .i64 ((i:Int)+1),.int .i64 1] rfl rfl (QaU _ _ _) (Qd8 _ _ _ _) (by unfold maxLen;omega) (by omega) (by simp;omega) ?_)
    intro C w1 a d _ _
    have q:ZB w w1:=Qy (Qa z) d (fun k B=>QaV b.out B)
    have F:=Zh a
    clear a d m p g j o
    go_wp2_with fail
    go_roundg (n-(i+1))
    case measure=>omega
    case rel=>
     refine⟨i+1,(i:Int)+1,ls++[⟨f,i,(i:Int)+1,1⟩],C,rfl,rfl,by go_num,by omega,by omega,by omega,by omega,by simp;omega,Zh ?_,Zh ?_,q⟩
     ·rw[s.out,if_true,List.append_assoc];rfl
     ·rw[Qbs,List.length_append];exact F.out
   ·have a0:(x==10)=false:=by rw[beq_eq_false_iff_ne];exact h10
    by_cases h13:x=13
    ·subst h13
     clear h10
     by_cases h2:i+1<n
     ·obtain⟨y,c2,J,H⟩:=P.out h2
      have a5:wr.cell? ⟨L.block,L.off+(i+1),none⟩=some (.int .i64 y):=by rw[<-Qb6 L (i+1) (by omega)];exact c2
      have q2:((i:Int)+1<(n:Int))=True:=by simp;omega
      have K:=Zh J
      have R:=Zh H
      clear J H
      by_cases hy:y=10
      ·subst hy
       go_wp2_with (at_builtin;refine wpList_append_own_at _ rfl (.tmp 49) (.tmp 55) 221 rfl w.heap.size 224 ip zp 4 32 Tryz.underlying221 m p g j o (by decide) u4 ls.length _ rfl (b.out.alloc _) ⟨wr.heap.size,0,none⟩ 1 1 [.int .i64 f,.int .i64 (i:Int),.int .i64 ((i:Int)+2),.int .i64 2] rfl rfl (QaU _ _ _) (Qd8 _ _ _ _) (by unfold maxLen;omega) (by omega) (by simp;omega) ?_)
       intro C w1 a d _ _
       have q:ZB w w1:=Qy (Qa z) d (fun k B=>QaV b.out B)
       have F:=Zh a
       clear a d m p g j o
       go_wp2_with fail
       go_roundg (n-(i+2))
       case measure=>omega
       case rel=>
        refine⟨i+2,(i:Int)+2,ls++[⟨f,i,(i:Int)+2,2⟩],C,rfl,rfl,by go_num,by omega,by omega,by omega,by omega,by simp;omega,Zh ?_,Zh ?_,q⟩
        ·rw[s.out,if_neg (by omega),if_true,if_pos K.out,R.out,List.append_assoc];rfl
        ·rw[Qbs,List.length_append];exact F.out
      ·have qy:(y==10)=false:=by rw[beq_eq_false_iff_ne];exact hy
       go_wp2_with (at_builtin;refine wpList_append_own_at _ rfl (.tmp 66) (.tmp 72) 221 rfl w.heap.size 224 ip zp 4 32 Tryz.underlying221 m p g j o (by decide) u4 ls.length _ rfl (b.out.alloc _) ⟨wr.heap.size,0,none⟩ 1 1 [.int .i64 f,.int .i64 (i:Int),.int .i64 ((i:Int)+1),.int .i64 3] rfl rfl (QaU _ _ _) (Qd8 _ _ _ _) (by unfold maxLen;omega) (by omega) (by simp;omega) ?_)
       intro C w1 a d _ _
       have q:ZB w w1:=Qy (Qa z) d (fun k B=>QaV b.out B)
       have F:=Zh a
       clear a d m p g j o
       go_wp2_with fail
       go_roundg (n-(i+1))
       case measure=>omega
       case rel=>
        refine⟨i+1,(i:Int)+1,ls++[⟨f,i,(i:Int)+1,3⟩],C,rfl,rfl,by go_num,by omega,by omega,by omega,by omega,by simp;omega,Zh ?_,Zh ?_,q⟩
        ·rw[s.out,if_neg (by omega),if_true,if_neg (by rw[K.out];simpa using hy),List.append_assoc];rfl
        ·rw[Qbs,List.length_append];exact F.out
     ·have q2:((i:Int)+1<(n:Int))=False:=by simp;omega
      go_wp2_with (at_builtin;refine wpList_append_own_at _ rfl (.tmp 66) (.tmp 72) 221 rfl w.heap.size 224 ip zp 4 32 Tryz.underlying221 m p g j o (by decide) u4 ls.length _ rfl (b.out.alloc _) ⟨wr.heap.size,0,none⟩ 1 1 [.int .i64 f,.int .i64 (i:Int),.int .i64 ((i:Int)+1),.int .i64 3] rfl rfl (QaU _ _ _) (Qd8 _ _ _ _) (by unfold maxLen;omega) (by omega) (by simp;omega) ?_)
      intro C w1 a d _ _
      have q:ZB w w1:=Qy (Qa z) d (fun k B=>QaV b.out B)
      have F:=Zh a
      clear a d m p g j o
      go_wp2_with fail
      go_roundg (n-(i+1))
      case measure=>omega
      case rel=>
       refine⟨i+1,(i:Int)+1,ls++[⟨f,i,(i:Int)+1,3⟩],C,rfl,rfl,by go_num,by omega,by omega,by omega,by omega,by simp;omega,Zh ?_,Zh ?_,q⟩
       ·rw[s.out,if_neg (by omega),if_true,if_neg (by rw[S.out h2];simp),List.append_assoc];rfl
       ·rw[Qbs,List.length_append];exact F.out
    ·have a6:(x==13)=false:=by rw[beq_eq_false_iff_ne];exact h13
     go_wp2_with fail
     go_roundg (n-(i+1))
     case measure=>omega
     case rel=>
      refine⟨i+1,f,ls,u4,rfl,rfl,by go_num,by omega,by omega,by omega,by omega,by omega,Zh ?_,b,z⟩
      rw[s.out,if_neg h10,if_neg h13];rfl
  ·obtain rfl:i=l.length:=by omega
   have r:=u.out
   rw[List.drop_length,QjO] at r
   have s:=Zh r
   have M:=z.size
   obtain⟨N,Y⟩:=ZN (l.length)
   have HN:=Zh Y
   obtain⟨A4,c4,V,a3⟩:=Qj b.out
   subst V
   clear r u Y
   go_wp2_with (at_builtin;refine wpList_append_own_at _ rfl (.tmp 78) (.tmp 85) 221 rfl w.heap.size 224 ip zp 4 32 Tryz.underlying221 m p g j o (by decide) (.slice A4 ls.length c4) ls.length _ rfl (b.out.alloc _) ⟨wr.heap.size,0,none⟩ 1 1 [.int .i64 f,.int .i64 (n:Int),.int .i64 (n:Int),.int .i64 0] rfl rfl (QaU _ _ _) (Qd8 _ _ _ _) (by unfold maxLen;omega) (by omega) (by simp;omega) ?_)
   intro C w1 a d _ _
   have q:ZB w w1:=Qy (Qa z) d (fun k B=>QaV b.out B)
   have E:w1.ownsRow w.heap.size 224 4 C (QgV l 0 0).length (Qee (QgV l 0 0)):=by
    rw[s.out,Qbs,List.length_append,HN.out,O.symm.trans HN.out |>.symm]
    exact a
   have HF:=Zh E
   have Q:((n:Int)==0)=true\/(((n:Int)==0)=false/\(f<(n:Int))=True)\/(((n:Int)==0)=false/\(f<(n:Int))=False):=by
    rw[beq_iff_eq,beq_eq_false_iff_ne];simp;omega
   obtain⟨r1,c1,X,_,_⟩:=a.form (by omega)
   subst X
   clear a d E m p g j o
   rcases Q with h1|⟨h1,h2⟩|⟨h1,h2⟩
   all_goals
    go_wp2_with fail
    go_ret2
    exact⟨_,_,rfl,HF.out,q⟩
theorem Qjn (D:Nat->Prop)(A:Option Addr)(n c:Nat)(l:List Int)(fb:Int)(w:World)(r:Ints w D A n l)(hn:n<=1073741824) :
  Calls Tryz.prog 106 #[.slice A n c,.int .i64 fb] w fun e w'=>e=.returned (.int .i64 (Qhq l fb))/\ZB w w':=by
 have i:=Qof D A n c l w r hn
 obtain⟨L,ls,k,h⟩:=QmV l 0 0
 have b:Qhq l fb=if L.brk=0 then fb else L.brk:=by unfold Qhq;rw[h]
 rw[b]
 have s:=Zh i
 have x:=Zh k
 obtain⟨x0,o,t,f⟩:=L
 dsimp only
 clear i k h b
 go_enter Tryz.func106,Tryz.ntmps106
 go_wp2_with fail
 refine(s.out).mono ?_
 rintro e w1 ⟨v,N,rfl,a,d⟩
 rw[x.out] at a
 obtain⟨g,cap,rfl,_,_⟩:=a.form (by simp)
 have j:=a.cells (g:=g) rfl 3 (.int .i64 f) rfl
 rw[Qb6 _ 3 (by omega)] at j
 simp only[Nat.zero_add] at j
 obtain⟨m,hm⟩:∃m,(Ln.mk x0 o t f::ls).length=m+1:=⟨ls.length,rfl⟩
 rw[hm]
 have u:((0:Nat):Int)<((m+1:Nat):Int):=by omega
 have p:0<m+1:=by omega
 clear a hm
 by_cases h0:f=0
 ·have q:(f != 0)=false:=by simp[h0]
  go_wp2_with fail
  go_ret
  exact⟨rfl,d⟩
 ·have q:(f != 0)=true:=by rw[bne_iff_ne];exact h0
  go_wp2_with fail
  go_ret
  exact⟨rfl,d⟩
def Qqy (w:World)(b a c:Nat)(native:Int):Prop:=
 Blk w b 163 #[.pointer (some ⟨a,0,none⟩),.pointer (some ⟨c,0,none⟩),.int .i64 0,.slice none 0 0,.slice none 0 0,.slice none 0 0,.int .i64 0,.bool false,.bool false,.int .i64 native]
structure RNewDesk (B:Nat) (enc lim native depth:Int) (l:List Int) (w':World) (gd gb gt gk:Nat) (ld:Value):Prop where
 desk:Qqy w' gd gb gk (Qhq ((dec enc l).map Prod.fst) native)
 book:Blk w' gb 174 (Qf9 enc lim depth gt ld)
 loaded:w'.ownsRow B 5 1 ld l.length (l.map (Value.int .u8))
 text:RText w' B gt enc lim ((dec enc l).map Prod.fst) ((QbS 0 0 (dec enc l)).map Prod.snd)
 ge:B<=gd/\B<=gb/\B<=gt/\B<=gk
def Qkw (enc lim native depth:Int)(l:List Int)(w:World)(e:Ending)(w':World):Prop:=
 ∃a b c d ld,e=.returned (.tuple #[.pointer (some ⟨a,0,none⟩),.int .i64 0])/\RNewDesk w.heap.size enc lim native depth l w' a b c d ld/\ZB w w'
theorem RText.set_ {w:World}{B g i k:Nat}{enc lim:Int}{a t:List Int}{T:TypeId}{j:Array Value}{u:Value}(h:RText w B g enc lim a t)(b:Blk w k T j)(h1:T≠166)(h2:T≠3):RText (w.setCell ⟨k,i,none⟩ u) B g enc lim a t:=by
 obtain⟨va,vt,c,f,d⟩:=h
 exact⟨va,vt,Blk.far c (fun e=>Blk.ne_ b c h1 e.symm) _,Qag f b h2.symm,Qag d b h2.symm⟩
theorem Qls (enc lim native depth:Int)(D:Nat->Prop)(A:Option Addr)(n c:Nat)(l:List Int)(w:World)(L:Bts w D A n l)(S:Byt l)(m:n<=c)(j:QeB enc lim native depth n=0) :
  Calls Tryz.prog 58 #[.int .i64 enc,.slice A n c,.int .i64 lim,.int .i64 native,.int .i64 depth] w fun e w'=>Qkw enc lim native depth l w e w':=by
 have K : ¬(native<1\/3<native):=by
  intro h
  unfold QeB at j
  rw[if_pos h] at j
  cases j
 have k:QbO enc lim depth n=0:=by
  unfold QeB at j
  rw[if_neg K] at j
  exact j
 have P:=Qlc enc lim depth D A n c l w L S m k
 have q0:(native<1)=False:=by simp;omega
 have q1:(3<native)=False:=by simp;omega
 have i:((dec enc l).map Prod.fst).length<=1073741824:=by
  have h1:=(Qex (by unfold QbO at k;split at k;cases k;exact k)).2
  have h2:=(Qm (Qbu enc l))
  have h3:=Qc2 enc l
  have Z:=L.len
  rw[List.length_map]
  obtain⟨⟨_,_,h5,_⟩,h6,_⟩:=h2
  omega
 have HC:=Zh P
 clear P k j K
 go_enter Tryz.func58,Tryz.ntmps58
 go_wp2_with fail
 refine(HC.out).mono ?_
 rintro e w1 ⟨y,T,ld,rfl,q,r,M,h1,h2,s⟩
 go_wp2_with fail
 refine(QmG w1).mono ?_
 rintro e t ⟨v,rfl,Z,b⟩
 have a0:=s.size
 have a1:=b.size
 have a:=(q.below b).alloc (.cells #[.pointer (some ⟨y,0,none⟩),.pointer (some ⟨v,0,none⟩),.int .i64 0,.slice none 0 0,.slice none 0 0,.slice none 0 0,.int .i64 0,.bool false,.bool false,.int .i64 0] 163)
 have x:=Blk.new t 163 #[.pointer (some ⟨y,0,none⟩),.pointer (some ⟨v,0,none⟩),.int .i64 0,.slice none 0 0,.slice none 0 0,.slice none 0 0,.int .i64 0,.bool false,.bool false,.int .i64 0]
 have d:ZB t (t.alloc (.cells #[.pointer (some ⟨y,0,none⟩),.pointer (some ⟨v,0,none⟩),.int .i64 0,.slice none 0 0,.slice none 0 0,.slice none 0 0,.int .i64 0,.bool false,.bool false,.int .i64 0] 163)):=Qa (Below.refl _ _)
 have o:=(M.below b).below d
 have u:=QT (QT r b) d
 have z:=Zh u
 have B:=Zh o
 obtain⟨va,vt,O,E,W⟩:=o
 obtain⟨X,c',rfl,G⟩:=Qj E
 have b4:=a.cell 4
 have Y:=Blk.cell O 2
 simp[Qf9] at b4
 simp at Y
 have Q:=Reads.of_own E
 have hn:=fun(w':World) (R:Below _ _ w')=>Qjn _ X ((dec enc l).map Prod.fst).length c' ((dec enc l).map Prod.fst) native w' (Reads.below Q R) i
 obtain⟨N,C⟩:=ZN (Qhq ((dec enc l).map Prod.fst) native)
 rw[C] at hn
 simp only[List.length_map] at hn
 have V:=Zh hn
 have F:=Zh C
 have HD:=Zh x
 have I:=Zh a
 have H:=Zh d
 clear hn C u O E W Q G i x a d M r
 go_wp2_with fail
 have d:=H.out
 have x:=HD.out
 have a:=I.out
 have J:=V.out _ (Below.refl _ _)
 refine(J).mono ?_
 rintro e w4 ⟨rfl,f⟩
 have g:=x.below f
 have f9:=g.frozen 9
 have U:=g.cell 9
 simp at U
 go_wp2_with fail
 go_ret2
 have p:ZB w w4:=Qf (Qf (Qf s b) d) f
 refine⟨t.heap.size,y,T,v,ld,rfl,⟨?_,?_,?_,?_,by omega⟩,p.setCell (by simp;omega) _⟩
 ·rw[F.out]
  exact g.set_ 9 _
 ·exact(a.below f).far (by have:=(q.below b).lt;simp;omega) _
 ·exact Qag (QT z.out f) g (by decide)
 ·exact RText.set_ (B.out.below f) g (by decide) (by decide)
def QsI (x y:List Int)(w0:World)(k:Nat)(q:Value)(wr:World):Prop:=
 ∃i:Nat,q=.int .i64 (i:Int)/\i<=x.length/\x.length-i<=k/\Hid (∀j,j<i->x.getD j 0=y.getD j 0)/\ZB w0 wr
theorem Qij {x y:List Int}(a:x.length=y.length)(h : ∀j,j<x.length->x.getD j 0=y.getD j 0):x=y:=by
 apply List.ext_getElem a
 intro i h1 h2
 have:=h i h1
 rw[List.getD_eq_getElem?_getD,List.getD_eq_getElem?_getD,List.getElem?_eq_getElem h1,List.getElem?_eq_getElem h2] at this
 simpa using this
theorem Qop (D D':Nat->Prop)(A v:Option Addr)(n c m c':Nat)(x y:List Int)(w:World)(t:Ints w D A n x)(s:Ints w D' v m y)(hn:n<=1073741824)(hm:m<=1073741824) :
  Calls Tryz.prog 21 #[.slice A n c,.slice v m c'] w fun e w'=>e=.returned (.bool (decide (x=y)))/\ZB w w':=by
 have p:=t.len
 have E:=s.len
 by_cases hnm:n=m
 ·subst hnm
  have G:((n:Int) != (n:Int))=false:=by simp
  go_enter Tryz.func21,Tryz.ntmps21
  go_wp2_with fail
  go_loopg [5] n (fun k q wr=>QsI x y w k q wr)
  case atStart=>exact⟨0,rfl,Nat.zero_le _,by omega,Zh (fun j g=>absurd g (by omega)),Below.refl _ _⟩
  case round=>
   obtain⟨i,rfl,I,J,B,f⟩:=hrel
   by_cases hlt:i<n
   ·obtain⟨L,F,_,c1⟩:=Ints.at_ (Reads.below t f) hlt
    obtain⟨C,o,_,c2⟩:=Ints.at_ (Reads.below s f) hlt
    subst F
    subst o
    obtain⟨a,r⟩:=ZN (x.getD i 0)
    obtain⟨b,d⟩:=ZN (y.getD i 0)
    rw[r] at c1
    rw[d] at c2
    have u:=Zh r
    have z:=Zh d
    have H:(0:Int)<=(i:Int):=by omega
    have K:(i:Int)<(n:Int):=by omega
    clear r d
    by_cases hab:a=b
    ·have l:(a != b)=false:=by simp[hab]
     go_wp2_with fail
     go_quiet (fail)
     go_wp2_with fail
     go_roundg (n-(i+1))
     case measure=>omega
     case rel=>
      refine⟨i+1,by go_num,by omega,by omega,Zh (fun j g=>?_),Q6 f _⟩
      rcases Nat.lt_or_ge j i with h|h
      ·exact B.out j h
      ·rw[show j=i by omega,u.out,z.out,hab]
    ·have l:(a != b)=true:=by simp[hab]
     go_wp2_with fail
     go_quiet (fail)
     go_wp2_with fail
     go_ret
     refine⟨Qb3 ?_,Q6 f _⟩
     symm
     rw[decide_eq_false_iff_not]
     intro h
     apply hab
     rw[<-u.out,<-z.out,h]
   ·go_wp2_with fail
    go_ret
    refine⟨Qb3 ?_,f⟩
    symm
    rw[decide_eq_true_eq]
    exact Qij (by omega) (fun j g=>B.out j (by omega))
 ·have G:((n:Int) != (m:Int))=true:=by rw[bne_iff_ne];omega
  go_enter Tryz.func21,Tryz.ntmps21
  go_wp2_with fail
  go_ret
  refine⟨Qb3 ?_,Below.refl _ _⟩
  symm
  rw[decide_eq_false_iff_not]
  intro h
  rw[h] at p
  omega
theorem Qca {D D':Nat->Prop}{A a:Option Addr}{n c m c':Nat}{x:List Int}{w:World}(b:Ints w D A n x)(d:Ints w D' a m x)(hn:n<=1073741824) :
  Calls Tryz.prog 21 #[.slice A n c,.slice a m c'] w fun e w'=>e=.returned (.bool true)/\ZB w w':=by
 have h1:=b.len
 have h2:=d.len
 have:=Qop D D' A a n c m c' x x w b d hn (by omega)
 rwa [show decide (x=x)=true by simp] at this
theorem Qna (base g:Nat)(a tg:Int)(xs:List Int)(X:Nat->Prop)(w:World)(h:Qpn base g xs X w)(D:base<=g)(E:base<=w.heap.size)(hn:xs.length<=2147483648) :
  Calls Tryz.prog 139 #[.int .i64 a,.int .i64 tg,.pointer (some ⟨g,0,none⟩)] w fun e w'=>QeY (Qpn base g) (xs++[tg]) X w e w':=by
 obtain⟨v,j,t,rfl⟩:=h
 obtain⟨C,z,n,p,o⟩:=info_parts Qa3
 have c0:=j.cell 0
 have A:=j.frozen 0
 simp at c0
 have u:=j.lt
 go_enter Tryz.func139,Tryz.ntmps139
 go_wp2_with (at_builtin;refine wpList_append_own_at _ rfl (.tmp 5) (.tmp 7) 36 rfl base 3 C (.int .i64 0) 1 8 Tryz.underlying36 z n p o rfl (by decide) v xs.length _ rfl (t.alloc _) ⟨w.heap.size,0,none⟩ 1 1 [.int .i64 tg] rfl rfl ?c1 ?c2 ?c3 ?c4 ?c5 ?_)
 case c1=>exact cell_one_new _ _ _
 case c2=>simp[Value.oneCell']
 case c3=>unfold maxLen;omega
 case c4=>omega
 case c5=>simp;omega
 intro x w1 c l _ k
 have d:Blk w1 g 36 #[v]:=(j.alloc _).grown l (fun e=>Qk t j (by decide) e.symm)
 have m:Fr (fun b=>b=g\/v.ownBlock=some b) w w1:=((Fr.refl _ w).alloc _).grown l (fun r y _=>.inr y)
 have f : ∀b,x.ownBlock=some b->v.ownBlock=some b\/w.heap.size<=b:=by
  intro b e
  rcases k with h|h
  ·exact .inl (h.symm.trans e)
  ·rw[h] at e
   injection e with e
   exact .inr (by rw[<-e];simp)
 have c1:=d.cell 0
 have F:=d.frozen 0
 simp at c1
 clear c0 A
 obtain⟨r,cap,rfl,_,B⟩:=c.form (by omega)
 have q:=Zh f
 clear f k
 go_wp2_with fail
 go_end0
 refine⟨rfl,⟨_,⟨_,d.set_ 0 _,?_,rfl⟩,?_⟩,m.setCell (.inl (.inl rfl)) _⟩
 ·rw[List.length_append,List.map_append]
  exact ownsRow_setCell_other c (Qk c d (by decide)) _
 ·rintro b (i|i)
  ·exact .inl (.inl i)
  ·rcases q.out b i with s|s
   ·exact .inl (.inr s)
   ·exact .inr s
theorem Qhx (base g:Nat)(l:base<=g):Sees 139 #[.pointer (some ⟨g,0,none⟩)] (fun(s:List Int) X w=>Qpn base g s X w/\base<=w.heap.size) (fun s _ t=>s++[t]) List.length:=by
 constructor
 ·intro s a _;simp
 ·rintro s X a tg w ⟨h,c⟩ hn
  refine(Qna base g a tg s X w h l c hn).mono ?_
  rintro e w' ⟨rfl,⟨X',h1,h2⟩,i⟩
  exact⟨rfl,⟨X',⟨h1,Nat.le_trans c i.size⟩,h2⟩,i⟩
 ·exact Tryz.call139
 ·rintro s X w b ⟨⟨v,c,f,rfl⟩,_⟩ (rfl|j)
  ·exact⟨_,_,c,.inr rfl⟩
  ·rcases f.2 with ⟨rfl,_⟩|⟨r,cap,cur,rfl,h1,h2,_⟩
   ·simp[Value.ownBlock] at j
   ·have e:r=b:=by simpa[Value.ownBlock] using j
    subst e
    exact⟨_,_,h2,.inl rfl⟩
 ·rintro s X w w' ⟨⟨v,c,f,rfl⟩,m⟩ k
  have d:Blk w' g 36 #[v]:=(k g (.inl rfl)).trans c
  refine⟨⟨v,d,⟨f.1,?_⟩,rfl⟩,by have:=d.lt;omega⟩
  rcases f.2 with h|⟨r,cap,cur,rfl,h1,h2,i⟩
  ·exact .inl h
  ·exact .inr ⟨r,cap,cur,rfl,h1,(k r (.inr rfl)).trans h2,i⟩
theorem QhH (l:List (Int × Int)) : ∀s:List Int,l.foldl (fun s a=>s++[a.2]) s=s++l.map Prod.snd:=by
 induction l with
 |nil=>intro s;simp
 |cons a l ih=>intro s;simp[ih]
theorem TextL.tags {w:World}{D:Nat->Prop}{g:Nat}{enc lim:Int}{b ats:List (Int × Int)}(h:TextL w D g enc lim b ats):TextTag w D g enc ats:=by
 obtain⟨t,a,add,h,_,_,e,_⟩:=h
 exact⟨lim,t,a,add,h,e⟩
theorem TextL.more {w:World}{D D':Nat->Prop}{g:Nat}{enc lim:Int}{c ats:List (Int × Int)}(h:TextL w D g enc lim c ats)(d : ∀b,D b->b<w.heap.size->D' b):TextL w D' g enc lim c ats:=by
 obtain⟨t,a,add,h,f,e⟩:=h
 exact⟨t,a,add,⟨h.blk,h.enc4,h.node,h.len,h.tot,h.ok,fun p hp=>Reads.more (h.bts p hp) d (by decide)⟩,f,e⟩
theorem Qmh (D:Nat->Prop)(g:Nat)(enc lim:Int)(r ats:List (Int × Int))(f tt:Int)(w:World)(h:TextL w D g enc lim r ats)(p : -2147483648<=f)(u:tt<=2147483648) :
  Calls Tryz.prog 107 #[.pointer (some ⟨g,0,none⟩),.int .i64 f,.int .i64 tt] w fun e w'=>NewInts (seg f tt (ats.map Prod.snd)) w e w':=by
 have l:ZB w (w.alloc (.cells #[.slice none 0 0] 36)):=Qa (Below.refl _ w)
 have m:=((h.more (D':=fun b=>b<w.heap.size) (fun b _ h=>h)).below l).tags
 have i:=QfJ 139 #[.pointer (some ⟨w.heap.size,0,none⟩)] (fun(s:List Int) X w'=>Qpn w.heap.size w.heap.size s X w'/\w.heap.size<=w'.heap.size) (fun s _ t=>s++[t]) List.length (Qhx _ _ (Nat.le_refl _))
  (fun b=>b<w.heap.size) g enc ats f tt [] (fun b=>b=w.heap.size\/(Value.slice none 0 0).ownBlock=some b) _ m (fun b a _ d=>by rcases d with rfl|d;exact absurd a (Nat.lt_irrefl _);simp[Value.ownBlock] at d)
  ⟨⟨_,Blk.new w _ _,⟨rfl,.inl ⟨rfl,rfl⟩⟩,rfl⟩,by simp⟩ (by simp) p u
 rw[QhH,Qjs,List.nil_append] at i
 obtain⟨L,j⟩:=ZN (seg f tt (ats.map Prod.snd))
 rw[j] at i ⊢
 have n:=Zh i
 clear i j
 go_enter Tryz.func107,Tryz.ntmps107
 go_wp2_with fail
 refine(n.out).mono ?_
 rintro e w1 ⟨rfl,⟨X',⟨⟨v,a,k,rfl⟩,x⟩,d⟩,q⟩
 have c0:=a.cell 0
 simp at c0
 have o:=Zh k
 have c:ZB w w1:=bfr l q (fun b a=>by rcases a with rfl|a;exact Nat.le_refl _;simp[Value.ownBlock] at a)
 clear k d
 go_wp2_with fail
 go_ret
 exact⟨v,rfl,o.out,c⟩
end Go.Proofs.YtgiihhikdoikgaaGreat
