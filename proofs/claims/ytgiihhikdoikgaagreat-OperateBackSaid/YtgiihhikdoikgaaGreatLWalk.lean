/-
  The walk of Text.walk, where there is something to go through.
-/
import Derived.Test.YtgiihhikdoikgaaGreatLTree8
import Derived.Test.YtgiihhikdoikgaaGreatLItems2
import Derived.Laws.EntriesVeiled
import Derived.StillTail
import Derived.StillTactics
import Derived.OrdersIn
import Derived.TacticsIn
import Derived.Laws.CopyOwn
import Derived.OwnWalk
import Derived.Maps.AppendAt
set_option linter.unusedSimpArgs false
set_option linter.unusedVariables false
set_option maxRecDepth 100000
set_option maxHeartbeats 32000000
namespace Go.Proofs.YtgiihhikdoikgaaGreat
open Go.RowKit
theorem QrM {a b c d:Int}(h1:a=b)(h2:c=d):Ending.returned (.tuple #[.int .i64 a,.int .i64 c])=.returned (.tuple #[.int .i64 b,.int .i64 d]):=by rw[h1,h2]
def PosD (b:List (Int × Int)):Prop:=∀d ∈ b,1<=d.2
theorem Qbu (enc:Int)(l:List Int):PosD (dec enc l):=(Qhy enc l.length l (Nat.le_refl _)).1
theorem PosD.app {a b:List (Int × Int)}(e:PosD a)(c:PosD b):PosD (a++b):=fun d h=>by
 rcases List.mem_append.1 h with h|h
 ·exact e d h
 ·exact c d h
theorem PosD.take {a:List (Int × Int)}(b:PosD a)(k:Nat):PosD (a.take k):=fun d h=>b d (List.mem_of_mem_take h)
theorem PosD.drop {a:List (Int × Int)}(b:PosD a)(k:Nat):PosD (a.drop k):=fun d h=>b d (List.mem_of_mem_drop h)
theorem Qm {b:List (Int × Int)}(h:PosD b):(Qi b).good/\(Qi b).atoms=b.length/\(Qi b).bytes=(b.map Prod.snd).sum:=by
 obtain⟨g,ga,c⟩:=QkU b h Qq Qa0
 exact⟨g,by unfold Qi;rw[ga];simp[Qq],by unfold Qi;rw[c];simp[Qq]⟩
theorem Qlr {b:List (Int × Int)} : ∀{s:Sums},s.good->PosD b->b.foldl Qas s=QM s (Qi b):=by
 induction b with
 |nil=>intro s e _;exact(Qz e).symm
 |cons d b ih=>
  intro s e h
  have c:PosD b:=fun x i=>h x (List.mem_cons_of_mem _ i)
  have f:=QbV d.1 d.2 (h d List.mem_cons_self)
  have j:=QE e f
  have k:Qi (d::b)=QM (QJ d.1 d.2) (Qi b):=by
   unfold Qi
   rw[List.foldl_cons,show Qas Qq d=QJ d.1 d.2 from QH _]
   exact ih f c
  rw[List.foldl_cons,k,ih (s:=Qas s d) j.1 c,show Qas s d=QM s (QJ d.1 d.2) from rfl,QaA e f (Qm c).1]
theorem Qes {a b:List (Int × Int)}(d:PosD a)(c:PosD b):Qi (a++b)=QM (Qi a) (Qi b):=by
 have:=Qlr (s:=Qi a) (Qm d).1 c
 rw[<-this]
 unfold Qi
 rw[List.foldl_append]
structure PcOk (enc:Int) (p:Pc):Prop where
 byt:Byt p.bytes
 len:p.bytes.length=p.n
 pos:0<p.n
 nle:p.n<=1073741824
 cap:p.n<=p.c
 tag0 : -1<=p.tag
 tag1:p.tag<=1073741824
 sum:p.sum=Qi (dec enc p.bytes)
theorem PcOk.good {enc:Int}{p:Pc}(h:PcOk enc p):p.sum.good:=by rw[h.sum];exact(Qm (Qbu enc _)).1
theorem Qdg {enc:Int}{ps:List Pc}(h : ∀p ∈ ps,PcOk enc p):AllGood ps:=fun p hp=>(h p hp).good
def QC (enc:Int)(ps:List Pc):List (Int × Int):=ps.flatMap fun p=>dec enc p.bytes
theorem Qax (enc:Int)(a b:List Pc):QC enc (a++b)=QC enc a++QC enc b:=by unfold QC;rw[List.flatMap_append]
theorem QS (enc:Int)(a:Pc)(b:List Pc):QC enc (a::b)=dec enc a.bytes++QC enc b:=by unfold QC;rw[List.flatMap_cons]
theorem Qai (enc:Int)(ps:List Pc):PosD (QC enc ps):=by
 induction ps with
 |nil=>intro d h;cases h
 |cons p ps ih=>rw[QS];exact(Qbu enc _).app ih
theorem Qa6 {enc:Int}{ps:List Pc}(h : ∀p ∈ ps,PcOk enc p):Qdq ps=Qi (QC enc ps):=by
 induction ps with
 |nil=>rfl
 |cons p ps ih=>
  rw[QaL,QS,Qes (Qbu enc _) (Qai enc _),ih (fun q b=>h q (List.mem_cons_of_mem _ b)),(h p List.mem_cons_self).sum]
theorem QhP (enc:Int)(l:List Int)(h:0<l.length):0<(dec enc l).length:=by rw[QaN enc l h];simp
structure TextIn (w:World) (D:Nat->Prop) (g:Nat) (enc lim:Int) (t:Tr) (a:Option Addr) (add:Value):Prop where
 blk:Blk w g 104 #[.int .i64 enc,.int .i64 lim,.pointer a,add]
 enc4:enc=1\/enc=2\/enc=3\/enc=4
 node:NodeAt w t a
 len:t.list.length<=1073741824
 tot:Qbl t.list<=1073741824
 ok : ∀p ∈ t.list,PcOk enc p
 bts : ∀p ∈ t.list,Bts w D p.A p.n p.bytes
theorem TextIn.below {w w':World}{D:Nat->Prop}{g:Nat}{enc lim:Int}{t:Tr}{a:Option Addr}{add:Value}(h:TextIn w D g enc lim t a add)(b:ZB w w'):TextIn w' D g enc lim t a add:=
 ⟨h.blk.below b,h.enc4,NodeAt.below b t a h.node,h.len,h.tot,h.ok,fun p hp=>Reads.below (h.bts p hp) b⟩
def TextAt (w:World)(D:Nat->Prop)(g:Nat)(enc:Int)(b:List (Int × Int)):Prop:=∃lim t a add,TextIn w D g enc lim t a add/\QC enc t.list=b
theorem TextAt.below {w w':World}{D:Nat->Prop}{g:Nat}{enc:Int}{b:List (Int × Int)}(h:TextAt w D g enc b)(c:ZB w w'):TextAt w' D g enc b:=by
 obtain⟨lim,t,a,add,h,e⟩:=h
 exact⟨lim,t,a,add,h.below c,e⟩
section
variable {w:World} {D:Nat->Prop} {g:Nat} {enc lim:Int} {t:Tr} {a:Option Addr} {add:Value}
theorem TextIn.good (h:TextIn w D g enc lim t a add):AllGood t.list:=Qdg h.ok
theorem TextIn.sum (h:TextIn w D g enc lim t a add):t.sum=Qi (QC enc t.list):=by rw[Tr.sum_list t h.good,Qa6 h.ok]
theorem TextIn.cells (h:TextIn w D g enc lim t a add):w.cell? ⟨g,0,none⟩=some (.int .i64 enc)/\w.cell? ⟨g,2,none⟩=some (.pointer a):=⟨h.blk.cell 0,h.blk.cell 2⟩
theorem TextIn.decLen (h:TextIn w D g enc lim t a add):(QC enc t.list).length<=1073741824:=by
 have h1:=Qm (Qai enc t.list)
 have h2:=(QI h.good).2
 rw[Qa6 h.ok] at h2
 have c:=h.tot
 obtain⟨⟨_,_,d,_⟩,b,_⟩:=h1
 omega
end
theorem TextAt.len {w:World}{D:Nat->Prop}{g:Nat}{enc:Int}{b:List (Int × Int)}(h:TextAt w D g enc b):b.length<=1073741824:=by
 obtain⟨lim,t,a,add,h,rfl⟩:=h
 exact h.decLen
theorem TextAt.pos {w:World}{D:Nat->Prop}{g:Nat}{enc:Int}{b:List (Int × Int)}(h:TextAt w D g enc b):PosD b:=by
 obtain⟨lim,t,a,add,h,rfl⟩:=h
 exact Qai enc _
theorem TextAt.more {w:World}{D D':Nat->Prop}{g:Nat}{enc:Int}{c:List (Int × Int)}(h:TextAt w D g enc c)(d : ∀b,D b->b<w.heap.size->D' b):TextAt w D' g enc c:=by
 obtain⟨lim,t,a,add,h,rfl⟩:=h
 exact⟨lim,t,a,add,⟨h.blk,h.enc4,h.node,h.len,h.tot,h.ok,fun p hp=>Reads.more (h.bts p hp) d (by decide)⟩,rfl⟩
theorem Qp7 (a b c:Int)(x y:Bool)(w:World):(Instr.field 99 (.agg #[.int .i64 a,.int .i64 b,.int .i64 c,.bool x,.bool y]) 0).run Tryz.prog w=.ok (.int .i64 a) w:=by kernel_rfl
theorem QlY (a b c:Int)(x y:Bool)(w:World):(Instr.field 99 (.agg #[.int .i64 a,.int .i64 b,.int .i64 c,.bool x,.bool y]) 1).run Tryz.prog w=.ok (.int .i64 b) w:=by kernel_rfl
theorem Qme (a b c:Int)(x y:Bool)(w:World):(Instr.field 99 (.agg #[.int .i64 a,.int .i64 b,.int .i64 c,.bool x,.bool y]) 2).run Tryz.prog w=.ok (.int .i64 c) w:=by kernel_rfl
theorem Qou (D:Nat->Prop)(g:Nat)(enc:Int)(f:List (Int × Int))(w:World)(h:TextAt w D g enc f) :
  Calls Tryz.prog 102 #[.pointer (some ⟨g,0,none⟩)] w fun e w'=>e=.returned (.int .i64 (Qi f).bytes)/\ZB w w':=by
 obtain⟨lim,t,a,add,h,rfl⟩:=h
 obtain⟨_,c2⟩:=h.cells
 have b:=Qd5 t a w h.node
 rw[h.sum] at b
 obtain⟨S,d⟩:=ZN (Qi (QC enc t.list))
 rw[d] at b ⊢
 have i:=Zh b
 clear b d
 go_enter Tryz.func102,Tryz.ntmps102
 go_wp2_with fail
 refine(i.out).mono ?_
 rintro e w1 ⟨rfl,c⟩
 have kf:=QlY S.atoms S.bytes S.breaks S.lf S.cr
 go_wp2_with fail
 go_ret
 exact⟨rfl,c⟩
theorem QaS (D:Nat->Prop)(g:Nat)(enc:Int)(i:List (Int × Int))(w:World)(h:TextAt w D g enc i) :
  Calls Tryz.prog 12 #[.pointer (some ⟨g,0,none⟩)] w fun e w'=>e=.returned (.int .i64 (i.length:Nat))/\ZB w w':=by
 obtain⟨lim,t,a,add,h,rfl⟩:=h
 obtain⟨_,c2⟩:=h.cells
 have b:=Qd5 t a w h.node
 have d:=(Qm (Qai enc t.list)).2.1
 rw[h.sum] at b
 rw[d] at b
 obtain⟨S,f⟩:=ZN (Qi (QC enc t.list))
 rw[f] at b
 have j:=Zh b
 clear b f d
 go_enter Tryz.func12,Tryz.ntmps12
 go_wp2_with fail
 refine(j.out).mono ?_
 rintro e w1 ⟨rfl,c⟩
 have kf:=Qp7 (QC enc t.list).length S.bytes S.breaks S.lf S.cr
 go_wp2_with fail
 go_ret
 exact⟨rfl,c⟩
theorem QiT {enc:Int} : ∀(ps:List Pc) (s:Sums) (n:Int),(∀p ∈ ps,PcOk enc p)->s.good->s.atoms<n->n<=s.atoms+(QC enc ps).length ->
  ∃i:Nat,QbT 0 n s ps=i+1/\i<ps.length/\s.atoms+(QC enc (ps.take i)).length<n/\n<=s.atoms+(QC enc (ps.take (i+1))).length:=by
 intro ps
 induction ps with
 |nil=>intro s n _ _ h1 h2;simp[QC] at h2;omega
 |cons p ps ih=>
  intro s n c m h1 h2
  have hp:=c p List.mem_cons_self
  have ga:=QE m hp.good
  have b:p.sum.atoms=(dec enc p.bytes).length:=by rw[hp.sum];exact(Qm (Qbu enc _)).2.1
  have f:Qdi (QM s p.sum) 0=s.atoms+(dec enc p.bytes).length:=by unfold Qdi;rw[if_pos rfl,ga.2.1,b]
  have d:QbT 0 n s (p::ps)=if n<=Qdi (QM s p.sum) 0 then 1 else QbT 0 n (QM s p.sum) ps+1:=rfl
  rw[d,f]
  by_cases hle:n<=s.atoms+(dec enc p.bytes).length
  ·rw[if_pos hle]
   refine⟨0,rfl,by simp,by simpa[QC] using h1,?_⟩
   rw[Nat.zero_add,List.take_succ_cons,List.take_zero,QS]
   simpa[QC] using hle
  ·rw[if_neg hle]
   rw[QS,List.length_append] at h2
   obtain⟨i,k,l,e,j⟩:=ih (QM s p.sum) n (fun q h=>c q (List.mem_cons_of_mem _ h)) ga.1 (by rw[ga.2.1,b];omega) (by rw[ga.2.1,b];omega)
   rw[ga.2.1,b] at e j
   refine⟨i+1,by rw[k];omega,by simpa using l,?_,?_⟩
   ·rw[List.take_succ_cons,QS,List.length_append];omega
   ·rw[List.take_succ_cons,QS,List.length_append];omega
def Qgx (enc:Int)(ps:List Pc)(at_:Int)(i n:Nat):Prop:=i<=ps.length/\((QC enc (ps.take i)).length:Int)+n=at_/\(0<at_->i<ps.length/\0<n/\at_<=((QC enc (ps.take (i+1))).length:Int))
def QmU (enc:Int)(ps:List Pc)(at_:Int)(w:World)(e:Ending)(w':World):Prop:=∃i n:Nat,e=.returned (.tuple #[.int .i64 (i:Int),.int .i64 (n:Int)])/\Qgx enc ps at_ i n/\ZB w w'
theorem Qd4 (D:Nat->Prop)(g:Nat)(enc lim:Int)(t:Tr)(a:Option Addr)(add:Value)(at_:Int)(w:World)(h:TextIn w D g enc lim t a add)(E:0<=at_)(h1:at_<=((QC enc t.list).length:Int)) :
  Calls Tryz.prog 132 #[.pointer (some ⟨g,0,none⟩),.int .i64 at_] w fun e w'=>QmU enc t.list at_ w e w':=by
 by_cases hz:at_<=0
 ·go_enter Tryz.func132,Tryz.ntmps132
  go_wp2_with fail
  go_ret2
  exact⟨0,0,rfl,⟨Nat.zero_le _,by simp[QC];omega,fun h=>by omega⟩,Below.refl _ _⟩
 ·obtain⟨_,c2⟩:=h.cells
  obtain⟨i,r,B,u,o⟩:=QiT t.list Qq at_ h.ok Qa0 (by simp only[Qq];omega) (by simp only[Qq];omega)
  simp only[Qq,Int.zero_add] at u o
  have m:=h.tot
  have l:=h.len
  have f:=Qku t a 0 at_ w h.node h.len h.good (by omega)
  rw[if_neg hz,r] at f
  have c : ∀w',ZB w w'->Calls Tryz.prog 115 #[.agg #[.pointer a],.int .i64 (i:Int)] w' fun e n=>e=.returned (.agg (Qdq (t.list.take i)).cells)/\ZB w' n:=fun w' s=>by
   have:=QgO t a (i:Int) w' (NodeAt.below s t a h.node) h.len (by omega) h.good (by omega)
   rwa [Int.toNat_natCast] at this
  have k:(Qdq (t.list.take i)).atoms=((QC enc (t.list.take i)).length:Int):=by
   rw[Qa6 (fun p hp=>h.ok p (List.mem_of_mem_take hp))]
   exact(Qm (Qai enc _)).2.1
  obtain⟨S,q⟩:=ZN (Qdq (t.list.take i))
  rw[q] at c k
  obtain⟨A,j⟩:=ZN (S.atoms)
  have v:=h.decLen
  have I:0<=A:=by omega
  have H:A<=2147483648:=by omega
  have G:A<at_:=by omega
  have F:at_<=2147483648:=by omega
  have J:i<=2147483648:=by omega
  simp only[Sums.cells] at c
  rw[j] at c
  have x:=Zh f
  have C:=Zh c
  have HS:=Zh k
  have z:=Zh j
  clear f c k j q r
  go_enter Tryz.func132,Tryz.ntmps132
  go_wp2_with fail
  refine(x.out).mono ?_
  rintro e w1 ⟨rfl,b⟩
  obtain⟨_,y⟩:=(h.below b).cells
  go_wp2_with fail
  refine(C.out _ b).mono ?_
  rintro e n ⟨rfl,d⟩
  have kf:=Qp7 A S.bytes S.breaks S.lf S.cr
  go_wp2_with fail
  go_ret2
  exact⟨i,(at_-A).toNat,QrM rfl (by omega),⟨by omega,by have h1:=HS.out;have h2:=z.out;omega,fun _=>⟨B,by omega,o⟩⟩,Qf b d⟩
theorem Qbn (l:List Int)(m k:Nat)(h:k<m):(l.take m).getD k 0=l.getD k 0:=by
 rw[List.getD_eq_getElem?_getD,List.getD_eq_getElem?_getD,List.getElem?_take,if_pos h]
theorem Qg7 (k:Nat)(l:List Int)(j:Nat):Qao k (l.take j)<=Qao k l:=by
 induction k generalizing l j with
 |zero=>simp[Qao]
 |succ k ih=>
  cases l with
  |nil=>simp
  |cons c r=>
   cases j with
   |zero=>simp[Qao]
   |succ j=>
    simp only[List.take_succ_cons,Qao]
    split
    ·have:=ih r j;omega
    ·exact Nat.le_refl _
theorem QkX (k:Nat)(l:List Int)(j:Nat)(h:k<=j):Qao k (l.take j)=Qao k l:=by
 induction k generalizing l j with
 |zero=>simp[Qao]
 |succ k ih=>
  cases l with
  |nil=>simp
  |cons c r=>
   cases j with
   |zero=>omega
   |succ j=>
    simp only[List.take_succ_cons,Qao]
    rw[ih r j (by omega)]
theorem Qi3 (l:List Int)(m:Nat)(c:0<l.length)(h:Qbj l<=m):QcH (l.take m)=QcH l/\Qbj (l.take m)=Qbj l:=by
 have f:=Qkf l c
 have b:(l.take m).getD 0 0=l.getD 0 0:=Qbn l m 0 (by omega)
 have hm:(l.take m).length=min m l.length:=List.length_take
 have e:Qey (l.take m)=Qey l:=by
  cases a:Qey l
  ·have d:Qbj l=bdN (l.getD 0 0):=by unfold Qbj;rw[a];rfl
   unfold Qey at a ⊢
   simp only[decide_eq_false_iff_not,not_or,Int.not_lt] at a ⊢
   rw[b]
   refine⟨a.1,?_⟩
   have h2:=a.2
   have g:=Qev l c
   unfold Qar at h2 ⊢
   rw[b]
   by_cases hN:bdN (l.getD 0 0)<2
   ·rw[if_pos hN];exact Int.le_refl _
   ·rw[if_neg hN] at h2 ⊢
    by_cases hc:l.length<2\/l.getD 1 0<QdF (l.getD 0 0)\/QdE (l.getD 0 0)<l.getD 1 0
    ·rw[if_pos hc] at h2;omega
    ·rw[if_neg hc] at h2
     rw[Qbn l m 1 (by omega),if_neg (by rw[hm];omega),List.drop_take,QkX _ _ _ (by omega)]
     exact h2
  ·unfold Qey at a ⊢
   simp only[decide_eq_true_eq] at a ⊢
   rw[b]
   rcases a with a|a
   ·exact .inl a
   ·refine .inr (Int.lt_of_le_of_lt ?_ a)
    unfold Qar
    rw[b]
    by_cases hN:bdN (l.getD 0 0)<2
    ·rw[if_pos hN,if_pos hN];exact Int.le_refl _
    ·rw[if_neg hN,if_neg hN]
     by_cases hc:(l.take m).length<2\/(l.take m).getD 1 0<QdF (l.getD 0 0)\/QdE (l.getD 0 0)<(l.take m).getD 1 0
     ·rw[if_pos hc];split<;>omega
     ·rw[if_neg hc]
      rw[hm] at hc
      rw[Qbn l m 1 (by omega)] at hc
      rw[if_neg (by omega),List.drop_take]
      have:=Qg7 (bdN (l.getD 0 0)-2).toNat (l.drop 2) (m-2)
      omega
 unfold QcH Qbj
 rw[e,b]
 refine⟨?_,rfl⟩
 split
 ·rfl
 ·rename_i hn
  have d:Qbj l=bdN (l.getD 0 0):=by unfold Qbj;rw[if_neg hn]
  unfold Qcp
  rw[b,List.drop_take,List.take_take,Nat.min_eq_left (by omega)]
theorem Qez (o:Int)(l:List Int)(m:Nat)(k:0<l.length)(j:Qaf o l<=m):Qbc o (l.take m)=Qbc o l/\Qaf o (l.take m)=Qaf o l:=by
 have hm:(l.take m).length=min m l.length:=List.length_take
 by_cases h1:l.length=1
 ·have g:Qaf o l=1:=by unfold Qaf;rw[if_pos h1]
  rw[List.take_of_length_le (by omega)]
  exact⟨rfl,rfl⟩
 ·have d:2<=m->Qa4 o (l.take m)=Qa4 o l:=fun h=>by unfold Qa4;rw[Qbn l m 0 (by omega),Qbn l m 1 (by omega)]
  have b:4<=m->Qa4 o ((l.take m).drop 2)=Qa4 o (l.drop 2):=fun h=>by
   unfold Qa4
   rw[List.drop_take,Qbn _ _ 0 (by omega),Qbn _ _ 1 (by omega)]
  cases hp:QbR o l
  ·have g:Qaf o l=2:=by unfold Qaf;rw[if_neg h1,hp];rfl
   have a:QbR o (l.take m)=false:=by
    unfold QbR at hp ⊢
    rw[d (by omega)]
    by_cases h4:4<=m
    ·rw[b h4,hm]
     rw[Bool.eq_false_iff] at hp ⊢
     intro e
     apply hp
     simp only[Bool.and_eq_true,decide_eq_true_eq] at e ⊢
     exact⟨⟨e.1.1,by omega⟩,e.2⟩
    ·rw[hm,show decide (4<=min m l.length)=false from by rw[decide_eq_false_iff_not];omega]
     simp
   unfold Qbc Qaf
   have c : ¬min m l.length=1:=by omega
   simp[hm,c,h1,hp,a,d (by omega)]
  ·have g:Qaf o l=4:=by unfold Qaf;rw[if_neg h1,hp];rfl
   have a:QbR o (l.take m)=true:=by
    unfold QbR at hp ⊢
    rw[d (by omega),b (by omega),hm]
    simp only[Bool.and_eq_true,decide_eq_true_eq] at hp ⊢
    exact⟨⟨hp.1.1,by omega⟩,hp.2⟩
   have i:4<=l.length:=by
    unfold QbR at hp
    simp only[Bool.and_eq_true,decide_eq_true_eq] at hp
    exact hp.1.2
   unfold Qbc Qaf
   have c : ¬min m l.length=1:=by omega
   have f:=b (by omega)
   simp only[hm,c,h1,hp,a,d (show 2<=m by omega),f,if_false,if_true]
   exact⟨trivial,trivial⟩
theorem Qri (enc:Int)(l:List Int)(m:Nat)(b:0<l.length)(a:QB enc l<=m):Qa8 enc (l.take m)=Qa8 enc l/\QB enc (l.take m)=QB enc l:=by
 unfold QB at a
 unfold Qa8 QB
 by_cases h1:enc=1
 ·simp only[if_pos h1] at a ⊢;exact Qi3 l m b a
 ·simp only[if_neg h1] at a ⊢
  by_cases h2:enc=2
  ·simp only[if_pos h2] at a ⊢;exact Qez 0 l m b a
  ·simp only[if_neg h2] at a ⊢
   by_cases h3:enc=3
   ·simp only[if_pos h3] at a ⊢;exact Qez 1 l m b a
   ·simp only[if_neg h3] at a ⊢
    exact⟨Qbn l m 0 (by omega),trivial⟩
def szs (enc:Int)(l:List Int)(n:Nat):Int:=(((dec enc l).take n).map Prod.snd).sum
theorem Qc6 (enc:Int)(l:List Int):szs enc l 0=0:=rfl
theorem Qbz (enc:Int)(l:List Int)(n:Nat)(h:0<l.length):szs enc l (n+1)=QB enc l+szs enc (l.drop (QB enc l).toNat) n:=by
 unfold szs
 rw[QaN enc l h]
 simp
theorem Qhg (enc:Int)(n:Nat):szs enc [] n=0:=by unfold szs;rw[QcY];simp
theorem Qbo (enc:Int)(n:Nat) : ∀l:List Int,0<=szs enc l n/\szs enc l n<=l.length:=by
 induction n with
 |zero=>intro l;rw[Qc6];omega
 |succ n ih=>
  intro l
  by_cases h:0<l.length
  ·rw[Qbz enc l n h]
   have h1:=ih (l.drop (QB enc l).toNat)
   have h2:=QZ enc l h
   rw[List.length_drop] at h1
   omega
  ·rw[List.eq_nil_of_length_eq_zero (show l.length=0 by omega),Qhg];simp
theorem Qhi (enc:Int)(n:Nat) : ∀l:List Int,dec enc (l.take (szs enc l n).toNat)=(dec enc l).take n:=by
 induction n with
 |zero=>intro l;rw[Qc6];simp[QcY]
 |succ n ih=>
  intro l
  by_cases h:0<l.length
  ·have h2:=QZ enc l h
   have b:=Qbo enc n (l.drop (QB enc l).toNat)
   rw[List.length_drop] at b
   have a:=Qri enc l (szs enc l (n+1)).toNat h (by rw[Qbz enc l n h];omega)
   rw[Qbz enc l n h] at a ⊢
   rw[QaN enc l h,List.take_succ_cons,QaN enc (l.take _) (by rw[List.length_take];omega),a.1,a.2,List.drop_take,
    show (QB enc l+szs enc (l.drop (QB enc l).toNat) n).toNat-(QB enc l).toNat=(szs enc (l.drop (QB enc l).toNat) n).toNat by omega,ih]
  ·rw[List.eq_nil_of_length_eq_zero (show l.length=0 by omega),Qhg];simp[QcY]
theorem Qe0 (enc:Int)(n:Nat) : ∀l:List Int,dec enc (l.drop (szs enc l n).toNat)=(dec enc l).drop n:=by
 induction n with
 |zero=>intro l;rw[Qc6];simp
 |succ n ih=>
  intro l
  by_cases h:0<l.length
  ·have h2:=QZ enc l h
   have a:=Qbo enc n (l.drop (QB enc l).toNat)
   rw[Qbz enc l n h,QaN enc l h,List.drop_succ_cons,<-ih,List.drop_drop]
   congr 2
   omega
  ·rw[List.eq_nil_of_length_eq_zero (show l.length=0 by omega),Qhg];simp[QcY]
theorem QeL {F:Fence}(a:F.depth=none){m b:Nat}{P:Program}{l:Nat}{f:FuncId}{tmps:Array Value}{assign body:Code}{w:World}{R:Ending->World->Prop}
  (h:RoundIn F m P l f tmps assign body w R):RoundIn F b P l f tmps assign body w R:=⟨h.1,fun c e _=>h.2 c e (fun d h=>by rw[a] at h;cases h)⟩
theorem QeK {F:Fence}(a:F.depth=none){m:Nat}(b:Nat){P:Program}{l:Nat}{args:Array Value}{W:World}{R:Ending->World->Prop}(h:YieldAt F m P l args W R):YieldAt F b P l args W R:=by
 obtain⟨fn,tmps,assign,body,d,c⟩:=h
 exact⟨fn,tmps,assign,body,d,QeL a c⟩
def Qrk (J Jx:List Pc->World->Prop)(xs:List Pc)(e:Ending)(a:World):Prop:=(∃v,e=.returned v)/\(J xs a\/∃q,q <+: xs/\Jx q a)
theorem Qk2 (l:Nat)(G:Pc->Prop)(J Jx:List Pc->World->Prop)(N q m:Nat)(v:(∀s W,J s W->J s W.drew)/\∀s W n,J s W->J s (W.drewN n))(c : ∀s W o,J s W->J s (W.alloc o))(u:YSpec l G J Jx N)
  (t:Tr) (a:Option Addr) (i:Int) (W:World) (hn:NodeAt W t a) (A : ∀p ∈ t.list,G p) (h1:W.cell? ⟨q,0,none⟩=some (.pointer a)) (h2:W.cell? ⟨m,0,none⟩=some (.int .i64 i)) (F : -2147483648<=i) (D:i<=2147483648)
  (g:t.list.length<=1073741824) (x:J [] W) (z:(t.list.drop i.toNat).length<=N) :
  Calls Tryz.prog 153 #[.func (.yield l) #[] #[],.pointer (some ⟨q,0,none⟩),.pointer (some ⟨m,0,none⟩)] W fun e B=>Qrk J Jx (t.list.drop i.toNat) e B:=by
 have r:ZB W ((W.alloc (.cells #[.func (.yield l) #[] #[]] 238)).alloc (.cells #[.func (.func 154) #[] #[.pointer (some ⟨W.heap.size+1,0,none⟩),.pointer (some ⟨W.heap.size,0,none⟩)]] 239)):=Qa (Qa (Below.refl _ W))
 have k:Blk ((W.alloc (.cells #[.func (.yield l) #[] #[]] 238)).alloc (.cells #[.func (.func 154) #[] #[.pointer (some ⟨W.heap.size+1,0,none⟩),.pointer (some ⟨W.heap.size,0,none⟩)]] 239)) (W.heap.size+1) 239 #[.func (.func 154) #[] #[.pointer (some ⟨W.heap.size+1,0,none⟩),.pointer (some ⟨W.heap.size,0,none⟩)]]:=by
  have:=Blk.new (W.alloc (.cells #[.func (.yield l) #[] #[]] 238)) 239 #[.func (.func 154) #[] #[.pointer (some ⟨W.heap.size+1,0,none⟩),.pointer (some ⟨W.heap.size,0,none⟩)]]
  simpa only[World.size_alloc] using this
 have w:Blk ((W.alloc (.cells #[.func (.yield l) #[] #[]] 238)).alloc (.cells #[.func (.func 154) #[] #[.pointer (some ⟨W.heap.size+1,0,none⟩),.pointer (some ⟨W.heap.size,0,none⟩)]] 239)) W.heap.size 238 #[.func (.yield l) #[] #[]]:=(Blk.new W _ _).alloc _
 have h:=c _ _ (.cells #[.func (.func 154) #[] #[.pointer (some ⟨W.heap.size+1,0,none⟩),.pointer (some ⟨W.heap.size,0,none⟩)]] 239) (c _ _ (.cells #[.func (.yield l) #[] #[]] 238) x)
 have d:=Qlw l G J Jx N (W.heap.size+1) W.heap.size v u t a (max 0 i) [] _ (NodeAt.below r _ _ hn) A k w (by omega) (by omega) g h (by rw[show (max 0 i).toNat=i.toNat by omega,List.length_nil,Nat.zero_add];exact z)
 rw[show (max 0 i).toNat=i.toNat by omega] at d
 obtain⟨ys,j⟩:=ZN (t.list.drop i.toNat)
 rw[j] at d ⊢
 have H:=Qac h1
 have C:=Qac h2
 have E:=Tryz.call154
 by_cases h0:0<i
 all_goals
  first
   |rw[show max 0 i=i by omega] at d
   |rw[show max 0 i=0 by omega] at d
  have y:=Zh d
  clear d h k w r v c u j
  go_enter Tryz.func153,Tryz.ntmps153
  go_wp2_with fail
  refine(y.out).mono ?_
  rintro e w1 ⟨b,rfl,f⟩
  go_wp2_with fail
  go_end0
  refine⟨⟨_,rfl⟩,?_⟩
  cases b
  ·exact .inr (f.2 rfl)
  ·exact .inl (f.1 rfl).1
theorem QnX (a:Option Addr)(i:Int)(w:World) :
  Calls Tryz.prog 133 #[.agg #[.pointer a],.int .i64 i] w fun e w'=>
   e=.returned (.func (.func 153) #[] #[.pointer (some ⟨w.heap.size,0,none⟩),.pointer (some ⟨w.heap.size+1,0,none⟩)]) /\
   (w.alloc (.cells #[.pointer a] 102)).alloc (.cells #[.int .i64 i] 3)=w':=by
 go_enter Tryz.func133,Tryz.ntmps133
 go_wp2_with fail
 go_ret
 exact⟨rfl,rfl⟩
theorem Qjf (G:Pc->Prop)(n:Nat)(j g:Nat)(t:Tr)(a:Option Addr)(i:Int)(w:World)(hn:NodeAt w t a)(E : ∀p ∈ t.list,G p)(h1:w.cell? ⟨j,0,none⟩=some (.pointer a))(h2:w.cell? ⟨g,0,none⟩=some (.int .i64 i))
    (K : -2147483648<=i) (C:i<=2147483648) (f:t.list.length<=1073741824) :
    SeqStopsK Fence.wide n Tryz.prog 153 #[.pointer (some ⟨j,0,none⟩),.pointer (some ⟨g,0,none⟩)] (fun x:{ p:Pc // G p } => #[.agg x.1.cells]) KT
      (fun xs=>xs.map Subtype.val=t.list.drop i.toNat) (fun pre=>pre.map Subtype.val <+: t.list.drop i.toNat) (t.list.drop i.toNat).length w:=by
  intro l J Jx W u y F H A
  refine callsIn_wide.2 ?_
  have h:(∀(s:List Pc) c,(∃b:List { p:Pc // G p },b.map Subtype.val=s/\J b c)->∃b:List { p:Pc // G p },b.map Subtype.val=s/\J b c.drew) /\
      ∀(s:List Pc) c (k:Nat),(∃b:List { p:Pc // G p },b.map Subtype.val=s/\J b c)->∃b:List { p:Pc // G p },b.map Subtype.val=s/\J b (c.drewN k):=
    ⟨fun s c ⟨b,e,d⟩=>⟨b,e,y b c _ none d ⟨rfl,rfl,rfl,Nat.le_refl _,fun _ _ _=>rfl⟩ (fun r e=>by cases e)⟩,
     fun s c k ⟨b,e,d⟩=>⟨b,e,y b c _ none d ⟨rfl,rfl,rfl,Nat.le_refl _,fun _ _ _=>rfl⟩ (fun r e=>by cases e)⟩⟩
  have B:=Qk2 l G (fun s c=>∃b:List { p:Pc // G p },b.map Subtype.val=s/\J b c) (fun s c=>∃b:List { p:Pc // G p },b.map Subtype.val=s/\Jx b c) (t.list.drop i.toNat).length j g h
    (fun s c o ⟨b,e,d⟩=>⟨b,e,y b c _ none d (World.grownBy_alloc c o none) (fun r e=>by cases e)⟩)
    (fun m pre x W1 hx ⟨b,e,d⟩ hlen'=>by
      have M:b.length=pre.length:=by rw[<-e,List.length_map]
      refine(QeK rfl m (H b ⟨x,hx⟩ W1 d (by omega))).mono ?_
      rintro N L (⟨h1,h2,I⟩|⟨h1,h2⟩)
      · exact .inl ⟨h1,⟨b++[⟨x,hx⟩],by rw[List.map_append,e];rfl,h2⟩,I⟩
      · exact .inr ⟨h1,⟨b++[⟨x,hx⟩],by rw[List.map_append,e];rfl,h2⟩⟩)
    t a i W (NodeAt.below u t a hn) E ((u.cell (Qac h1)).trans h1) ((u.cell (Qac h2)).trans h2) K C f ⟨[],rfl,A⟩ (Nat.le_refl _)
  refine B.mono ?_
  rintro e c ⟨z,(⟨b,v,d⟩|⟨q,D,b,v,d⟩)⟩
  · exact⟨z,.inl ⟨b,v,d⟩⟩
  · exact⟨z,.inr ⟨b,by show b.map Subtype.val <+: _;rw[v];exact D,d⟩⟩
def QbS (tag:Int):Int->List (Int × Int)->List (Int × Int)
 |_,[]=>[]
 |off,d::r=>(d.1,if tag<0 then -1 else tag+off)::QbS tag (off+d.2) r
theorem QgJ (tag:Int)(a:List (Int × Int)) : ∀off,(QbS tag off a).map Prod.fst=a.map Prod.fst:=by
 induction a with
 |nil=>intro off;rfl
 |cons d a ih=>intro off;simp only[QbS,List.map_cons,ih]
theorem Qa5 (tag off:Int)(a:List (Int × Int)):(QbS tag off a).length=a.length:=by
 have:=congrArg List.length (QgJ tag a off)
 simpa using this
def Qgt (enc:Int)(p:Pc):List (Int × Int):=QbS p.tag 0 (dec enc p.bytes)
def QaM (enc:Int)(ps:List Pc):List (Int × Int):=ps.flatMap (Qgt enc)
theorem Qa7 (enc:Int)(a b:List Pc):QaM enc (a++b)=QaM enc a++QaM enc b:=by unfold QaM;rw[List.flatMap_append]
theorem Qd7 (enc:Int)(a:Pc):QaM enc [a]=Qgt enc a:=by simp[QaM]
theorem Qhj (enc:Int)(ps:List Pc):(QaM enc ps).map Prod.fst=(QC enc ps).map Prod.fst:=by
 induction ps with
 |nil=>rfl
 |cons p ps ih=>
  rw[QS,List.map_append,<-ih]
  show (Qgt enc p++QaM enc ps).map Prod.fst=_
  rw[List.map_append]
  unfold Qgt
  rw[QgJ]
theorem QaQ (enc:Int)(ps:List Pc):(QaM enc ps).length=(QC enc ps).length:=by
 have:=congrArg List.length (Qhj enc ps)
 simpa using this
def Qdz {σ : Type}(step : σ -> Int->Int -> σ):Nat->Nat -> σ -> List (Int × Int)->Bool × Nat × Nat × σ
 |n,left,s,[]=>(false,n,left,s)
 |n+1,left,s,_::r=>Qdz step n left s r
 | 0,left,s,a::r=>if left<=1 then (true,0,0,step s a.1 a.2) else Qdz step 0 (left-1) (step s a.1 a.2) r
section
variable {σ : Type} {step : σ -> Int->Int -> σ}
theorem QjU (xs ys:List (Int × Int)) : ∀(n left:Nat) (s : σ),Qdz step n left s (xs++ys)=if (Qdz step n left s xs).1=true then Qdz step n left s xs else Qdz step (Qdz step n left s xs).2.1 (Qdz step n left s xs).2.2.1 (Qdz step n left s xs).2.2.2 ys:=by
 induction xs with
 |nil=>intro n left s;simp[Qdz]
 |cons a xs ih=>
  intro n left s
  cases n with
  |succ n=>simp only[List.cons_append,Qdz];exact ih n left s
  |zero=>
   simp only[List.cons_append,Qdz]
   split
   ·simp
   ·exact ih 0 (left-1) _
theorem Qkt (xs:List (Int × Int)) : ∀(n left:Nat) (s : σ),1<=left->(Qdz step n left s xs).2.2.2=((xs.drop n).take left).foldl (fun s a=>step s a.1 a.2) s:=by
 induction xs with
 |nil=>intro n left s _;simp[Qdz]
 |cons a xs ih=>
  intro n left s b
  cases n with
  |succ n=>simp only[Qdz,List.drop_succ_cons];exact ih n left s b
  |zero=>
   simp only[Qdz,List.drop_zero]
   split
   ·rw[show left=1 by omega];simp
   ·rw[show left=(left-1)+1 by omega,List.take_succ_cons,List.foldl_cons,Nat.add_sub_cancel]
    have:=ih 0 (left-1) (step s a.1 a.2) (by omega)
    simpa using this
theorem Qmu (xs ys:List (Int × Int))(n left:Nat)(s : σ)(h:(Qdz step n left s xs).1=true):Qdz step n left s (xs++ys)=Qdz step n left s xs:=by
 rw[QjU,if_pos h]
theorem QqE (xs ys:List (Int × Int))(n left b a:Nat)(s s' : σ)(h:Qdz step n left s xs=(false,b,a,s')):Qdz step n left s (xs++ys)=Qdz step b a s' ys:=by
 rw[QjU,h]
 simp
end
def seg {α : Type}(f t:Int)(l:List α):List α := (l.drop f.toNat).take (t.toNat-f.toNat)
theorem Qjs {α β : Type}(f t:Int)(l:List α)(h : α -> β):(seg f t l).map h=seg f t (l.map h):=by unfold seg;rw[List.map_take,List.map_drop]
structure Sees (F:FuncId) (caps:Array Value) {σ : Type} (J : σ -> (Nat->Prop)->World->Prop) (step : σ -> Int->Int -> σ) (size : σ -> Nat):Prop where
 rises : ∀s a g,size (step s a g)<=size s+1
 call : ∀s X a g w,J s X w->size s<=2147483648->Calls Tryz.prog F (#[.int .i64 a,.int .i64 g]++caps) w fun e w'=>e=.returned (.tuple #[])/\(∃X',J (step s a g) X' w'/\∀b,X' b->X b\/w.heap.size<=b)/\Fr X w w'
 enter : ∀args w,(callFunc F args).run Tryz.prog w=.ok (.enter F args) w
 kind : ∀s X w b,J s X w->X b->∃cs T,Blk w b T cs/\(T=3\/T=36)
 keep : ∀s X w w',J s X w->(∀b,X b->w'.heap[b]? = w.heap[b]?)->J s X w'
def QeY {σ : Type}(J : σ -> (Nat->Prop)->World->Prop)(s : σ)(X:Nat->Prop)(w:World)(e:Ending)(w':World):Prop:=e=.returned (.tuple #[])/\(∃X',J s X' w'/\∀b,X' b->X b\/w.heap.size<=b)/\Fr X w w'
theorem QoW {k:IntKind}{a b:Int}(h:a=b):Value.int k a=.int k b:=by rw[h]
structure Core {σ : Type} (J : σ -> (Nat->Prop)->World->Prop) (X0:Nat->Prop) (w:World) (m2 g:Nat) (tc:Array Value) (fv:Value) (Bn:Nat) (n left:Nat) (s : σ) (X:Nat->Prop) (wr:World):Prop where
 j:J s X wr
 xs : ∀b,X b->X0 b\/m2<=b
 fr:Fr X0 w wr
 sz:m2<=wr.heap.size
 b4:Blk wr w.heap.size 33 #[.pointer (some ⟨g,0,none⟩)]
 b7:Blk wr (w.heap.size+1) 144 #[fv]
 bn:Blk wr Bn 3 #[.int .i64 (n:Int)]
 bl:Blk wr (Bn+1) 3 #[.int .i64 (left:Int)]
 tx:Blk wr g 104 tc
structure CoreOk (X0:Nat->Prop) (w:World) (m2 g:Nat) (Bn:Nat):Prop where
 x0 : ∀b,X0 b->b<w.heap.size
 h1:w.heap.size+1<Bn
 h2:Bn+1<m2
def Rel (m2:Nat)(W wr:World):Prop:=KeepsFrom m2 W wr/\KT W wr
theorem Rel.refl (m2:Nat)(W:World):Rel m2 W W:=⟨KeepsFrom.refl _ _,KT.refl _⟩
theorem Rel.trans {m2:Nat}{a b c:World}(h:Rel m2 a b)(k:Rel m2 b c):Rel m2 a c:=⟨h.1.trans k.1,h.2.trans k.2⟩
theorem Rel.below {m2:Nat}{W b:World}(h:ZB W b):Rel m2 W b:=
 ⟨⟨h.size,fun k o _ a _=>(h.block k (Array.getElem?_eq_some_iff.1 a).1).trans a⟩,KT.below h⟩
theorem Rel.setInt {m2:Nat}{W:World}{B:Nat}{d:Array Value}(h:Blk W B 3 d)(v:Value):Rel m2 W (W.setCell ⟨B,0,none⟩ v):=
 ⟨(KeepsOthers.setCell W _ v).from _,by simp[World.setCell],fun b c T h1 _ a=>a.far (fun e=>Blk.ne_ a h h1 e) v⟩
section
variable {σ : Type} {F:FuncId} {caps:Array Value} {J : σ -> (Nat->Prop)->World->Prop} {step : σ -> Int->Int -> σ} {size : σ -> Nat} {X0 X:Nat->Prop} {w wr w':World} {m2 g Bn n left:Nat} {tc:Array Value} {fv:Value} {s s' : σ}
theorem Sees.no (k:Sees F caps J step size)(i:J s X wr){b:Nat}{T:TypeId}{l:Array Value}(d:Blk wr b T l)(h1:T≠3)(h2:T≠36) : ¬X b:=by
 intro f
 obtain⟨h,j,a,c⟩:=k.kind s X wr b i f
 have e:T=j:=by
  unfold Blk at d a
  rw[d] at a
  injection a with a
  injection a
 rcases c with c|c
 ·exact h1 (e.trans c)
 ·exact h2 (e.trans c)
theorem Sees.noObj (i:Sees F caps J step size)(h:J s X wr){b:Nat}{o:Obj}(d:wr.heap[b]? = some o)(c:o.isCells=false) : ¬X b:=by
 intro e
 obtain⟨f,j,a,_⟩:=i.kind s X wr b h e
 unfold Blk at a
 rw[d] at a
 injection a with a
 rw[a] at c
 cases c
theorem Core.below (d:Sees F caps J step size)(h:Core J X0 w m2 g tc fv Bn n left s X wr)(a:ZB wr w'):Core J X0 w m2 g tc fv Bn n left s X w':=
 ⟨d.keep _ _ _ _ h.j (fun b e=>by obtain⟨f,T,c,_⟩:=d.kind _ _ _ b h.j e;exact a.block b c.lt),h.xs,h.fr.bel a,Nat.le_trans h.sz a.size,h.b4.below a,h.b7.below a,h.bn.below a,h.bl.below a,h.tx.below a⟩
theorem Core.not {b:Nat}(d:CoreOk X0 w m2 g Bn)(h:Core J X0 w m2 g tc fv Bn n left s X wr)(h1:w.heap.size<=b)(h2:b<m2) : ¬X b:=by
 intro c
 rcases h.xs b c with a|a
 ·have:=d.x0 b a;omega
 ·omega
theorem Core.setN (a:CoreOk X0 w m2 g Bn)(d:Sees F caps J step size)(h:Core J X0 w m2 g tc fv Bn n left s X wr)(k:Nat):Core J X0 w m2 g tc fv Bn k left s X (wr.setCell ⟨Bn,0,none⟩ (.int .i64 (k:Int))):=by
 have h1:=a.h1
 have h2:=a.h2
 have hn:=h.not a (b:=Bn) (by omega) (by omega)
 exact⟨d.keep _ _ _ _ h.j (fun b c=>Below.heap_setCell wr _ _ b (fun e=>hn (by rw[<-(show b=Bn from e)];exact c))),h.xs,h.fr.setCell (.inr (show w.heap.size<=Bn by omega)) _,by simpa[World.setCell] using h.sz,
  h.b4.far (show w.heap.size≠Bn by omega) _,h.b7.far (show w.heap.size+1≠Bn by omega) _,h.bn.set_ 0 _,h.bl.far (show Bn+1≠Bn by omega) _,h.tx.far (fun e=>Blk.ne_ h.tx h.bn (by decide) e) _⟩
theorem Core.setL (a:CoreOk X0 w m2 g Bn)(d:Sees F caps J step size)(h:Core J X0 w m2 g tc fv Bn n left s X wr)(k:Nat):Core J X0 w m2 g tc fv Bn n k s X (wr.setCell ⟨Bn+1,0,none⟩ (.int .i64 (k:Int))):=by
 have h1:=a.h1
 have h2:=a.h2
 have hn:=h.not a (b:=Bn+1) (by omega) (by omega)
 exact⟨d.keep _ _ _ _ h.j (fun b c=>Below.heap_setCell wr _ _ b (fun e=>hn (by rw[<-(show b=Bn+1 from e)];exact c))),h.xs,h.fr.setCell (.inr (show w.heap.size<=Bn+1 by omega)) _,by simpa[World.setCell] using h.sz,
  h.b4.far (show w.heap.size≠Bn+1 by omega) _,h.b7.far (show w.heap.size+1≠Bn+1 by omega) _,h.bn.far (show Bn≠Bn+1 by omega) _,h.bl.set_ 0 _,h.tx.far (fun e=>Blk.ne_ h.tx h.bl (by decide) e) _⟩
theorem Core.see (c:CoreOk X0 w m2 g Bn)(m:Sees F caps J step size)(h:Core J X0 w m2 g tc fv Bn n left s X wr){X':Nat->Prop}(l:J s' X' w')(k : ∀b,X' b->X b\/wr.heap.size<=b)(a:Fr X wr w'):Core J X0 w m2 g tc fv Bn n left s' X' w':=by
 have h1:=c.h1
 have h2:=c.h2
 have e:=h.sz
 refine⟨l,fun b f=>?_,?_,Nat.le_trans h.sz a.size,h.b4.fr a (h.not c (Nat.le_refl _) (by omega)),h.b7.fr a (h.not c (by omega) (by omega)),h.bn.fr a (h.not c (by omega) (by omega)),h.bl.fr a (h.not c (by omega) (by omega)),h.tx.fr a (m.no h.j h.tx (by decide) (by decide))⟩
 ·rcases k b f with d|d
  ·exact h.xs b d
  ·exact .inr (by omega)
 ·refine h.fr.call a (fun i p o=>?_)
  rcases h.xs i o with d|d
  ·exact d
  ·omega
theorem Core.rel (e:Sees F caps J step size)(h:Core J X0 w m2 g tc fv Bn n left s X wr)(a:Fr X wr w'):Rel m2 wr w':=
 ⟨⟨a.size,fun k o _ c f=>(a.block k (Array.getElem?_eq_some_iff.1 c).1 (e.noObj h.j c f)).trans c⟩,a.size,fun b i T h1 h2 d=>d.fr a (e.no h.j d h1 h2)⟩
theorem Core.own (p:CoreOk X0 w m2 g Bn)(t:Sees F caps J step size)(h:Core J X0 w m2 g tc fv Bn n left s X wr){row:Option Nat}(d:wr.grownBy w' row)(q : ∀r,row=some r->m2<=r/\∃o:Obj,wr.heap[r]? = some o/\o.isCells=false) :
  Core J X0 w m2 g tc fv Bn n left s X w':=by
 have h1:=p.h1
 have h2:=p.h2
 have a : ∀{b:Nat} {T:TypeId} {l:Array Value},Blk wr b T l->some b≠row:=by
  intro b T l m e
  obtain⟨_,o,i,c⟩:=q b e.symm
  unfold Blk at m
  rw[m] at i
  injection i with i
  rw[<-i] at c
  cases c
 refine⟨t.keep _ _ _ _ h.j (fun b u=>?_),h.xs,?_,Nat.le_trans h.sz d.size,h.b4.grown d (a h.b4),h.b7.grown d (a h.b7),h.bn.grown d (a h.bn),h.bl.grown d (a h.bl),h.tx.grown d (a h.tx)⟩
 ·obtain⟨l,T,f,_⟩:=t.kind _ _ _ b h.j u
  exact d.block b f.lt (a f)
 ·exact h.fr.grown d (fun k e v=>by have:=(q k e).1;omega)
end
def GPc (w:World)(D:Nat->Prop)(enc:Int)(p:Pc):Prop:=PcOk enc p/\Bts w D p.A p.n p.bytes
def WkI {σ : Type}(J : σ -> (Nat->Prop)->World->Prop)(step : σ -> Int->Int -> σ)(size : σ -> Nat)(X0:Nat->Prop)(w:World)(m2 g:Nat)(tc:Array Value)(fv:Value)(Bn:Nat)(enc:Int)(G:Pc->Prop)(b a:Nat)(c : σ)(pre:List { p:Pc // G p })(W:World):Prop:=
 ∃n left s X,Qdz step b a c (QaM enc (pre.map Subtype.val))=(false,n,left,s)/\1<=left/\size s+left<=2147483648/\n<=1073741824/\Core J X0 w m2 g tc fv Bn n left s X W
def WkX {σ : Type}(J : σ -> (Nat->Prop)->World->Prop)(step : σ -> Int->Int -> σ)(X0:Nat->Prop)(w:World)(m2 g:Nat)(tc:Array Value)(fv:Value)(Bn:Nat)(enc:Int)(G:Pc->Prop)(b a:Nat)(d : σ)(c:Code)(pre:List { p:Pc // G p })(W:World):Prop:=
 c=.ret/\∃k l s X,Qdz step b a d (QaM enc (pre.map Subtype.val))=(true,k,l,s)/\Core J X0 w m2 g tc fv Bn 0 0 s X W
def WkR {σ : Type}(J : σ -> (Nat->Prop)->World->Prop)(step : σ -> Int->Int -> σ)(size : σ -> Nat)(X0:Nat->Prop)(w:World)(m2 g:Nat)(tc:Array Value)(fv:Value)(Bn:Nat)(enc:Int)(x:Pc)(T:Bool × Nat × Nat × σ)(W:World)(kk:Nat)(q:Value)(wr:World):Prop:=
 ∃(k n left:Nat) (s : σ) (X:Nat->Prop),q=.int .i64 (k:Int)/\Core J X0 w m2 g tc fv Bn n left s X wr/\Rel m2 W wr/\Qdz step n left s (QbS x.tag (k:Int) (dec enc (x.bytes.drop k)))=T/\1<=left/\size s+left<=2147483648/\n<=1073741824/\k<=x.n/\x.n-k<=kk
def Qfu (ops:Array Oper):Bool:=ops.all fun o=>match o.op with | .defer _=>false|_=>true
theorem Qk9 {ops:Array Oper}(h:Qfu ops=true){i:Nat}{o:Oper}(d:ops[i]? = some o)(c:Call):o.op≠.defer c:=by
 intro e
 unfold Qfu at h
 obtain⟨b,a⟩:=Array.getElem?_eq_some_iff.1 d
 have:=(Array.all_eq_true.1 h) i b
 rw[a,e] at this
 cases this
section
variable {F:Fence} {m:Nat} {P:Program} {ops:Array Oper} {md:Region.Mode} {w:World}
theorem Qdp (hF : ∀f,F.fn f)(hd:F.depth=none)(hC : ∀f args (w:World) R,Calls P f args w R->CallsIn F (m-1) P f args w R)(hD:Qfu ops=true)
  {i:Nat} {a:Act} {K:Act->Prop} {g:Act->World->Prop} {Q':Exit->Act->World->Prop} (h : ∀a,K a->g a w) (b:stOp P ops w i K a):wpOpIn F m P ops Q' i g a w:=by
 unfold stOp at b
 unfold wpOpIn
 split
 ·rename_i d;simp only[d] at b;exact h _ b
 ·rename_i o d
  simp only[d] at b
  split
  ·rename_i c
   simp only[c,if_true] at b
   unfold Oper.still at b
   unfold Oper.wpIn
   refine⟨fun f _=>hF f,?_⟩
   rw[Oper.semAt_eq _ _ _ (Qk9 hD d)]
   generalize (execOp a.eval o).run P w=r at *
   cases r with
   |ok n w'=>
    cases n<;>simp only[Oper.stillUpon] at b<;>simp only[Oper.uponIn]
    case enter f args=>
     obtain⟨rfl,v,j,hn⟩:=b
     exact⟨(fun e=>by rw[hd] at e;cases e),CallsIn.mono (hC _ _ _ _ j) fun e w'' ⟨he,c⟩=>by subst he;subst c;exact h _ hn⟩
    all_goals (obtain⟨rfl,h2⟩:=b;exact h _ h2)
   |halt x w'=>simp only[Oper.stillUpon] at b
  ·rename_i c
   simp only[c] at b
   exact⟨fun f _=>hF f,h _ b⟩
def Qmr (md:Region.Mode)(ops:Array Oper)(n:Nat):Bool:=(List.range ops.size).all fun t=>decide (t<=n) || (List.range t).any fun j=>decide (n<=j) && Region.waitsFor md ops t j
theorem Qpu {n t:Nat}(h:Qmr md ops n=true)(d:n<t)(c:t<ops.size):∃j,n<=j/\j<t/\Region.waitsFor md ops t j=true:=by
 have h1:=List.all_eq_true.1 h t (List.mem_range.2 c)
 simp only[Bool.or_eq_true,decide_eq_true_eq] at h1
 rcases h1 with h1|h1
 ·omega
 ·obtain⟨j,b,a⟩:=List.any_eq_true.1 h1
  simp only[Bool.and_eq_true,decide_eq_true_eq] at a
  exact⟨j,a.1,List.mem_range.1 b,a.2⟩
theorem Qgj {n:Nat}{listed:Array Bool}(B:Region.sinkB md ops n=true)(z:Qmr md ops n=true)(inv:HeadInv md ops n listed) :
  ∀(d i:Nat),n-i=d->i<n->listed.getD i true=false->∀t,n<=t->t ∉ Region.ready md ops listed:=by
 intro d
 induction d using Nat.strongRecOn with
 |_ d ih=>
  intro i hd A l t C u
  obtain⟨_,ot,c,b⟩:=mem_ready.1 u
  have k:t<ops.size:=(Array.getElem?_eq_some_iff.1 c).1
  by_cases htn:t=n
  ·subst htn
   have h1:=List.all_eq_true.1 B i (List.mem_range.2 A)
   obtain⟨j,x,g⟩:=List.any_eq_true.1 h1
   simp only[Bool.and_eq_true,decide_eq_true_eq] at g
   obtain⟨oj,h,e,p,o,a⟩:=Region.waitsFor_spec g.2
   have v:j<=t:=by have:=List.mem_range.1 x;omega
   by_cases hjt:j=t
   ·subst hjt
    have:oj=ot:=Option.some.inj (h.symm.trans c)
    subst this
    have h2:=b e p o
    rw[a,getD_both l] at h2
    cases h2
   ·cases hl:listed.getD j false with
    |true=>
     have h2:=inv.closed j oj h hl e p o
     rw[a,getD_both l] at h2
     cases h2
    |false=>
     have q:j<listed.size:=by rw[inv.size];omega
     exact ih (t-j) (by omega) j rfl (by omega) (getD_in q hl) t (Nat.le_refl _) u
  ·obtain⟨j,s,g,y⟩:=Qpu z (by omega) k
   obtain⟨o',r,e,p,o,a⟩:=Region.waitsFor_spec y
   have:o'=ot:=Option.some.inj (r.symm.trans c)
   subst this
   have h2:=b e p o
   rw[a,getD_both (inv.tail j s (by omega))] at h2
   cases h2
theorem QgH {n i:Nat}{oi:Oper}{v:Value}{L:Array Bool->Act->Prop}(E:ops[i]? = some oi)(q : ∀(j:Nat) (o:Oper) A b,ops[j]? = some o->o.op≠.select A b)
    (K:Region.sinkB md ops n=true) (I:Qmr md ops n=true) (z:i<n)
    (u : ∀listed a,L listed a->∀j ∈ Region.ready md ops listed,n<=j) :
    ∀(f:Nat) (listed:Array Bool) (a:Act),HeadInv md ops n listed ->
      (∀j oj,ops[j]? = some oj->j≠i->listed.getD j true=false->(∀e ∈ oj.after,Region.binds md e=true->e.on≠i)->oi.apart ops oj=true) ->
      i ∈ Region.ready md ops listed->YieldsAt P ops w oi v a ->
      wpAnyL P md ops w n L f (listed.setIfInBounds i true) (a.put oi.dst v)->wpAnyL P md ops w n L (f+1) listed a:=by
  intro f
  induction f with
  |zero=>
    intro listed a inv _ p B H
    have c:=(mem_ready.1 p).1
    refine⟨fun h=>(by rw[h] at p;cases p),fun j s=>?_⟩
    have g:j<n:=by
      rcases Nat.lt_or_ge j n with h|h
      · exact h
      · exact absurd s (Qgj K I inv _ i rfl z c j h)
    refine⟨g,?_⟩
    by_cases hji:j=i
    · subst hji;exact B.stOp E H
    · have:=u _ _ H j (ready_mono s hji)
      omega
  |succ f ih=>
    intro listed a inv d p B H
    have c:=(mem_ready.1 p).1
    refine⟨fun h=>(by rw[h] at p;cases p),fun j s=>?_⟩
    have g:j<n:=by
      rcases Nat.lt_or_ge j n with h|h
      · exact h
      · exact absurd s (Qgj K I inv _ i rfl z c j h)
    refine⟨g,?_⟩
    by_cases hji:j=i
    · subst hji;exact B.stOp E H
    · have h1:=(H.2 j (ready_mono s hji)).2
      obtain⟨r,oj,t,y⟩:=mem_ready.1 s
      have x : ∀e ∈ oj.after,Region.binds md e=true->e.on≠i:=fun e Q M C=>by
        have h1:=y e Q M
        rw[C,getD_both c] at h1
        cases h1
      have h2:=stOp_put t (d j oj t hji r x) (fun A b=>q i oi A b E) (fun A b=>q j oj A b t) B h1
      have l : ∀k ok,ops[k]? = some ok->k≠i->(listed.setIfInBounds j true).getD k true=false ->
          (∀e ∈ ok.after,Region.binds md e=true->e.on≠i)->oi.apart ops ok=true:=fun k ok N D c G=>by
        refine d k ok N D ?_ G
        by_cases hjk:j=k
        · subst hjk;exact r
        · rw[getD_set_ne true hjk] at c;exact c
      refine stOp_mono (fun O J=>ih (listed.setIfInBounds j true) O (inv.set s g) l (ready_mono p (Ne.symm hji)) J.1 ?_) h2
      rw[Array.setIfInBounds_comm _ _ hji]
      exact J.2
def Qr6 (md:Region.Mode)(ops:Array Oper)(n:Nat)(listed:Array Bool):Bool:=decide (Region.ready md ops listed=[n]) && Region.lexFrom md ops (ops.size-n-1) (n+1) (listed.setIfInBounds n true)
def Qfa (md:Region.Mode)(ops:Array Oper)(n:Nat):Nat->Nat->Array Bool->Bool
 | 0,_,listed=>Qr6 md ops n listed
 |f+1,k,listed=>(Region.ready md ops listed).contains k && Region.free md ops listed k && Qfa md ops n f (k+1) (listed.setIfInBounds k true)
def QlT (md:Region.Mode)(ops:Array Oper)(n:Nat):Bool:=Region.noSelect ops && decide (n<ops.size) && Region.sinkB md ops n && Qmr md ops n && Qfa md ops n n 0 (Array.replicate ops.size false) && Qfu ops
theorem QkD {n:Nat}{listed:Array Bool}(h:Qr6 md ops n listed=true) : ∀j ∈ Region.ready md ops listed,n<=j:=by
 intro j a
 simp only[Qr6,Bool.and_eq_true,decide_eq_true_eq] at h
 rw[h.1] at a
 have:j=n:=by simpa using a
 omega
theorem QfQ {n:Nat}{Lq:Act->Prop}(c:Region.noSelect ops=true)(s:Region.sinkB md ops n=true)(q:Qmr md ops n=true) :
  ∀(l:List Oper) (k:Nat) (listed:Array Bool) (a:Act),(∀j,j<l.length->l[j]? = ops[k+j]?)->k+l.length=n->HeadInv md ops n listed ->
  Qfa md ops n l.length k listed=true->wpStill P ops w Lq l a ->
  wpAnyL P md ops w n (fun b r=>Qr6 md ops n b=true/\Lq r) l.length listed a
 | [],k,listed,a,_,hk,_,hB,h=>⟨by simpa[Qfa] using hB,h⟩
 |o::l,k,listed,a,hl,hk,inv,hB,h=>by
  have g:ops[k]? = some o:=by simpa using (hl 0 (by simp)).symm
  simp only[List.length_cons,Qfa,Bool.and_eq_true] at hB
  obtain⟨⟨t,z⟩,p⟩:=hB
  have e:k<n:=by simp only[List.length_cons] at hk;omega
  have d:k ∈ Region.ready md ops listed:=by simpa using t
  have i:stOp P ops w k (wpStill P ops w Lq l) a:=by unfold stOp;simp only[g];exact h
  obtain⟨v,u,x⟩:=yieldsAt_of_stOp g i
  exact QgH g (Region.noSelect_spec c) s q e (fun b r y=>QkD y.1) l.length listed a inv (Region.free_spec g z) d u
   (QfQ c s q l (k+1) _ _ (fun j A=>by have:=hl (j+1) (by simp;omega);simpa[Nat.add_assoc,Nat.add_comm 1 j] using this) (by simp only[List.length_cons] at hk;omega) (inv.set d e) p x)
def MidQ (P:Program)(ops:Array Oper)(tail:List Oper)(Q:Exit->Act->World->Prop):Exit->Act->World->Prop
 | .normal,a,w=>wpStill P ops w (fun b=>Q .normal b w) tail a
 |e,a,w=>Q e a w
theorem MidQ.go {P:Program}{ops:Array Oper}{tail:List Oper}{Q:Exit->Act->World->Prop}{a:Act}{w:World}(h:wpStill P ops w (fun b=>Q .normal b w) tail a):MidQ P ops tail Q .normal a w:=h
section
variable (hF : ∀f,F.fn f) (hd:F.depth=none) (hC : ∀f args (w:World) R,Calls P f args w R->CallsIn F (m-1) P f args w R) (hD:Qfu ops=true)
include hF hd hC hD
theorem QcQ {n g:Nat}{L:Array Bool->Act->Prop}{Q':Exit->Act->World->Prop}(b : ∀listed a,L listed a->wpAnyIn F m P md ops Q' g listed a w) :
  ∀(f:Nat) (listed:Array Bool) (a:Act),wpAnyL P md ops w n L f listed a->wpAnyIn F m P md ops Q' (f+g) listed a w
 | 0,listed,a,h=>by rw[Nat.zero_add];exact b _ _ h
 |f+1,listed,a,h=>by
  rw[show f+1+g=(f+g)+1 by omega]
  exact⟨fun c=>absurd c h.1,fun i e=>Qdp hF hd hC hD (fun j d=>QcQ b f _ j d) (h.2 i e).2⟩
theorem QcL {Q:Act->Prop}{Q':Exit->Act->World->Prop}(b : ∀a,Q a->Q' .normal a w) : ∀(fuel:Nat) (listed:Array Bool) (a:Act),
  wpAnyS P md ops w Q fuel listed a->wpAnyIn F m P md ops Q' fuel listed a w
 | 0,_,_,h=>⟨h.1,b _ h.2⟩
 |fuel+1,_,_,h=>⟨fun c=>b _ (h.1 c),fun i d=>Qdp hF hd hC hD (fun e=>QcL b fuel _ e) (h.2 i d)⟩
end
theorem Qn6 {F:Fence}{m:Nat}{P:Program}{ops:Array Oper}{Q Q':Exit->Act->World->Prop}{o:Oper}{a:Act}{w:World}{K:Act->World->Prop}{i:Nat}(k:ops[i]? = some o)
  (d : ∀e a w,e≠.normal->Q e a w->Q' e a w) (c : ∀a w,Q .normal a w->K a w) (h:wpListIn F m P ops Q [o] a w):wpOpIn F m P ops Q' i K a w:=by
 unfold wpOpIn
 rw[k]
 unfold wpListIn at h
 show (if Region.wanted o (yielded ops a.tmps)=true then o.wpIn F m P a w K Q' else (∀f,o.about P w a.eval=some f->F.fn f)/\K (a.put o.dst undef) w)
 split
 ·rename_i j
  simp only[j,if_true] at h
  unfold Oper.wpIn at *
  refine⟨h.1,?_⟩
  have h:=h.2
  have lo:LetsOut Q->LetsOut Q':=fun⟨a0,w0,hq0⟩=>⟨a0,w0,d _ _ _ (by simp) hq0⟩
  generalize (o.semAt F.round a.eval).run P w=r at *
  cases r with
  |ok x w'=>
   cases x<;>simp only[Oper.uponIn] at h ⊢<;>
    first
     |exact c _ _ h
     |exact⟨h.1,CallsIn.mono h.2 (fun e g b=>by cases e<;>first|exact c _ _ b|exact d _ _ _ (by simp) b|exact lo b)⟩
     |exact⟨h.1,RowsIn.mono h.2 (fun _ _ b=>c _ _ b)⟩
     |exact⟨h.1,RoundIn.mono h.2 (fun e g b=>by cases e<;>first|exact c _ _ b|exact d _ _ _ (by simp) b|exact lo b)⟩
  |halt x w'=>cases x<;>simp only[Oper.uponIn] at h ⊢<;>exact d _ _ _ (by simp) h
 ·rename_i j
  simp only[j] at h
  exact⟨h.1,c _ _ h.2⟩
theorem QcR (hF : ∀f,F.fn f)(hd:F.depth=none)(hC : ∀f args (w:World) R,Calls P f args w R->CallsIn F (m-1) P f args w R)
  {id:Nat} {Q:Exit->Act->World->Prop} {a:Act} {l:List Oper} (n:Nat) (o:Oper) (hm:P.follows .mixedOrders=true) (d:QlT .any l.toArray n=true) (I:l[n]? = some o)
  (h:wpStill P l.toArray w.drew (fun r=>wpListIn F m P l.toArray (MidQ P l.toArray (l.drop (n+1)) Q) [o] r w.drew) (l.take n) a):(Code.region id l.toArray true).wpIn F m P Q a w:=by
 simp only[QlT,Bool.and_eq_true,decide_eq_true_eq] at d
 obtain⟨⟨⟨⟨⟨c,hn⟩,L⟩,D⟩,q⟩,hD⟩:=d
 have K:n<l.length:=by simpa using hn
 have b:(l.take n).length=n:=by simp;omega
 have p:HeadInv .any l.toArray n (Array.replicate l.toArray.size false):=
  ⟨by simp,fun j oj _ z=>(by rw[getD_replicate_false] at z;cases z),fun t _ E=>getD_in (by simpa using E) (getD_replicate_false _ _)⟩
 have H := QfQ (md := .any) c L D (l.take n) 0 _ a (fun j x=>by
  have u:j<n:=by rw[b] at x;exact x
  simp[u]) (by simpa using b) p (by rw[b];exact q) h
 refine wpIn_region_any hm ?_
 have s:l.toArray[n]? = some o:=by simpa using I
 have := QcQ hF hd hC hD (Q' := Q) (g := (l.toArray.size - n - 1) + 1) (fun listed r A=>by
  have d:=A.1
  simp only[Qr6,Bool.and_eq_true,decide_eq_true_eq] at d
  refine⟨fun C=>absurd (d.1.symm.trans C) (by simp),fun i y=>?_⟩
  rw[d.1] at y
  have v:i=n:=by simpa using y
  subst v
  refine Qn6 s (fun e a w J h=>?_) (fun B G h2=>?_) A.2
  ·cases e<;>first|exact absurd rfl J|exact h
  ·refine QcL hF hd hC hD (Q:=fun r=>Q .normal r G) (fun _ h=>h) _ _ _ ?_
   have k:(l.drop (i+1)).length=l.toArray.size-i-1:=by simp;omega
   have:=wpAnyS_lex (md:=.any) c (l.drop (i+1)) (i+1) (listed.setIfInBounds i true) B (fun j=>by simp[List.getElem?_drop]) (by rw[k];exact d.2) h2
   rwa [k] at this) _ _ _ H
 rw[b,show n+((l.toArray.size-n-1)+1)=l.toArray.size by omega] at this
 exact this
end
theorem Qjv (l k:Nat)(f:FuncId)(args:Array Value)(w:World)(R:Ending->World->Prop)(h:Calls Tryz.prog f args w R):CallsIn (Fence.wide.inRound l) k Tryz.prog f args w R:=CallsIn.inRound l (callsIn_wide.2 h)
def QkN:Array Value:=Qx none 0 0 0 Qq
def QsU (enc:Int)(B:List Int)(N:Nat)(cs:Array Value)(P:Int)(w:World)(k:Nat)(d a:Value)(wr:World):Prop:=
 ∃(m:Int) (p:Nat),d=.int .i64 m/\a=.int .i64 (p:Int)/\p+szs enc (B.drop p) m.toNat=P/\p<=N/\N-p<=k /\ -2147483648<=m/\m<=2147483648 /\
  ZB w wr/\Blk wr w.heap.size 107 cs/\Blk wr (w.heap.size+1) 107 QkN/\Blk wr (w.heap.size+2) 107 QkN
theorem QG {w:World}{b:Nat}{A:Option Addr}{n c:Nat}{tag:Int}{s:Sums}(h:Blk w b 107 (Qx A n c tag s)) :
  (w.cell? ⟨b,0,none⟩=some (.slice A n c)/\w.cell? ⟨b,1,none⟩=some (.int .i64 tag)/\w.cell? ⟨b,2,none⟩=some (.int .i64 s.atoms)/\w.cell? ⟨b,3,none⟩=some (.int .i64 s.bytes)/\w.cell? ⟨b,4,none⟩=some (.int .i64 s.breaks)/\w.cell? ⟨b,5,none⟩=some (.bool s.lf)/\w.cell? ⟨b,6,none⟩=some (.bool s.cr)) /\
  w.frozen? ⟨b,0,none⟩=false/\w.frozen? ⟨b,1,none⟩=false/\w.frozen? ⟨b,2,none⟩=false/\w.frozen? ⟨b,3,none⟩=false/\w.frozen? ⟨b,4,none⟩=false/\w.frozen? ⟨b,5,none⟩=false/\w.frozen? ⟨b,6,none⟩=false:=
 ⟨⟨h.cell 0,h.cell 1,h.cell 2,h.cell 3,h.cell 4,h.cell 5,h.cell 6⟩,h.frozen 0,h.frozen 1,h.frozen 2,h.frozen 3,h.frozen 4,h.frozen 5,h.frozen 6⟩
theorem Qkm {w:World}{p q r:Addr}{u v x:Value}(h1:p.block≠r.block)(h2:q.block≠r.block)(h:w.cell? p=some u/\w.cell? q=some v):(w.setCell r x).cell? p=some u/\(w.setCell r x).cell? q=some v:=
 ⟨(World.cell?_of_block (w:=w) (Below.heap_setCell w r x p.block h1)).trans h.1,(World.cell?_of_block (w:=w) (Below.heap_setCell w r x q.block h2)).trans h.2⟩
def Qf2 (w:World)(b:Nat)(A:Option Addr)(n c:Nat)(tag:Int)(s:Sums):World:=
 ((((((w.setCell ⟨b,0,none⟩ (.slice A n c)).setCell ⟨b,1,none⟩ (.int .i64 tag)).setCell ⟨b,2,none⟩ (.int .i64 s.atoms)).setCell ⟨b,3,none⟩ (.int .i64 s.bytes)).setCell ⟨b,4,none⟩ (.int .i64 s.breaks)).setCell ⟨b,5,none⟩ (.bool s.lf)).setCell ⟨b,6,none⟩ (.bool s.cr)
section
variable {w w1:World} {b g:Nat} {A A':Option Addr} {n c n' c':Nat} {tag tag':Int} {s s':Sums} {T:TypeId} {cs:Array Value}
theorem QaX (h:Blk w b 107 (Qx A' n' c' tag' s')):Blk (Qf2 w b A n c tag s) b 107 (Qx A n c tag s):=
 (((((((h.set_ 0 (.slice A n c)).set_ 1 (.int .i64 tag)).set_ 2 (.int .i64 s.atoms)).set_ 3 (.int .i64 s.bytes)).set_ 4 (.int .i64 s.breaks)).set_ 5 (.bool s.lf)).set_ 6 (.bool s.cr)).eq_ (by simp[Qx])
theorem Qbw (h:Blk w g T cs)(a:g≠b):Blk (Qf2 w b A n c tag s) g T cs:=
 ((((((h.far (p:=⟨b,0,none⟩) a _).far (p:=⟨b,1,none⟩) a _).far (p:=⟨b,2,none⟩) a _).far (p:=⟨b,3,none⟩) a _).far (p:=⟨b,4,none⟩) a _).far (p:=⟨b,5,none⟩) a _).far (p:=⟨b,6,none⟩) a _
theorem Qad (h:ZB w w1)(a:w.heap.size<=b):ZB w (Qf2 w1 b A n c tag s):=
 ((((((h.setCell a _).setCell a _).setCell a _).setCell a _).setCell a _).setCell a _).setCell a _
end
def Qr4 (enc:Int)(x:Pc)(n:Int):Value:=
 .tuple #[.agg (Qx x.A (szs enc x.bytes n.toNat).toNat (szs enc x.bytes n.toNat).toNat x.tag (Qi ((dec enc x.bytes).take n.toNat))),
  .agg (Qx (if x.c=(szs enc x.bytes n.toNat).toNat then x.A else x.A.map (·.add (szs enc x.bytes n.toNat).toNat)) (x.n-(szs enc x.bytes n.toNat).toNat) (x.c-(szs enc x.bytes n.toNat).toNat) (if 0<=x.tag then x.tag+szs enc x.bytes n.toNat else x.tag) (Qi ((dec enc x.bytes).drop n.toNat)))]
theorem QpI (V:Value)(enc:Int)(D:Nat->Prop)(x:Pc)(n:Int)(w:World)(Z:Qr4 enc x n=V)(he:enc=1\/enc=2\/enc=3\/enc=4)(hx:PcOk enc x)(hl:Bts w D x.A x.n x.bytes)(n0 : -2147483648<=n)(n1:n<=2147483648) :
  Calls Tryz.prog 141 #[.agg x.cells,.int .i64 enc,.int .i64 n] w fun e w'=>e=.returned V/\ZB w w':=by
 obtain⟨xA,xN,xC,xT,xS,xB⟩:=x
 obtain⟨xb,xl,xp,xn,xc,b8,b5,xsum⟩:=hx
 clear xsum
 unfold Qr4 at Z
 dsimp only at Z hl xb xl xp xn xc b8 b5 ⊢
 have a6:=Qbo enc n.toNat xB
 have a7:=Qhi enc n.toNat xB
 have a4:=Qe0 enc n.toNat xB
 rw[<-a7,<-a4] at Z
 clear a7 a4
 obtain⟨P,hP⟩:=ZN (szs enc xB n.toNat)
 rw[hP] at a6 Z
 obtain⟨tg,G⟩:∃tg:Int,(if 0<=xT then xT+P else xT)=tg:=⟨_,rfl⟩
 rw[G] at Z
 have HV:=Zh Z
 have B:=Zh G
 have HP:=Zh hP
 have u:=Zh xl
 clear hP xl G Z
 simp only[Pc.cells,Qx]
 go_enter Tryz.func141,Tryz.ntmps141
 go_wp2_with fail
 go_loopg [2,8] xN (fun k q2 q8 wr=>QsU enc xB xN (Qx xA xN xC xT xS) P w k q2 q8 wr)
 case atStart=>
  refine⟨n,0,rfl,rfl,by rw[List.drop_zero,HP.out];simp,Nat.zero_le _,Nat.le_refl _,n0,n1,?_,?_,?_,?_⟩
  ·repeat (first|exact Below.refl _ _|apply Qa)
  ·exact((Blk.new w _ _).alloc _).alloc _
  ·have:=(Blk.new (w.alloc (.cells (Qx xA xN xC xT xS) 107)) 107 QkN).alloc (.cells QkN 107)
   simp only[World.size_alloc] at this
   exact this
  ·have:=Blk.new ((w.alloc (.cells (Qx xA xN xC xT xS) 107)).alloc (.cells QkN 107)) 107 QkN
   simp only[World.size_alloc] at this
   exact this
 case round=>
  obtain⟨m,p,rfl,rfl,a9,U,hk,m0,m1,hW,b3,F,b7⟩:=hrel
  have H:=Zh a9
  have o:=Reads.below hl hW
  have c0:=b3.cell 0
  have c1:=b3.cell 1
  simp[Pc.cells,Qx] at c0 c1
  clear a9
  by_cases hgo:0<m/\p<xN
  ·obtain⟨hm,c3⟩:=hgo
   have hz:=QZ enc (xB.drop p) (by rw[List.length_drop];have:=u.out;omega)
   rw[List.length_drop,u.out] at hz
   obtain⟨z,y⟩:∃z:Nat,QB enc (xB.drop p)=(z:Int):=⟨(QB enc (xB.drop p)).toNat,by omega⟩
   have a3:szs enc (xB.drop p) m.toNat=z+szs enc (xB.drop (p+z)) (m-1).toNat:=by
    rw[show m.toNat=(m-1).toNat+1 by omega,Qbz enc _ _ (by rw[List.length_drop];have:=u.out;omega),y,List.drop_drop,Int.toNat_natCast]
   have a1:=QcP enc D xA xN xC p xB wr he o xb (by omega) xc c3
   obtain⟨at_,a5⟩:∃a,Qa8 enc (xB.drop p)=a:=⟨_,rfl⟩
   rw[y,a5] at a1
   rw[y] at hz
   have HC:=Zh a1
   have HS:=Zh a3
   have a8:decide (0<m)=true:=by simpa using hm
   clear a1 a3 y a5
   go_wp2_with fail
   refine(HC.out).mono ?_
   rintro e w1 ⟨rfl,d⟩
   go_wp2_with fail
   go_roundg (xN-(p+z))
   case measure=>omega
   case rel=>exact⟨m-1,p+z,rfl,by go_num,by rw[<-H.out,HS.out];omega,by omega,by omega,by omega,by omega,Qf hW d,b3.below d,F.below d,b7.below d⟩
  ·have hP:(p:Int)=P:=by
    rw[<-H.out]
    by_cases hm:0<m
    ·rw[List.drop_eq_nil_of_le (by have:=u.out;omega),Qhg];omega
    ·rw[show m.toNat=0 by omega,Qc6];omega
   obtain rfl:P=(p:Int):=hP.symm
   have b1:=o
   clear HP H a6 hP
   clear hl
   go_upto_region 2 with fail
   go_cut [20] (fun q wx=>q=.bool false/\wx=wr)
   case first=>
    by_cases hm:0<m
    ·have a8:decide (0<m)=true:=by simpa using hm
     have b4:xN<=p:=by omega
     go_wp2_with fail
     go_meet
     exact⟨by rw[show decide (p<xN)=false from by simpa using b4],rfl⟩
    ·have a8:decide (0<m)=false:=by simpa using hm
     go_wp2_with fail
     go_meet
     exact⟨rfl,rfl⟩
   case rest=>
    obtain⟨rfl,rfl⟩:=hcut
    go_upto_if 37 with fail
    go_cut [11] (fun q wx=>q=.int .i64 tg/\wx=wc)
    case first=>
     by_cases ht:0<=xT
     ·have:=B.out
      rw[if_pos ht] at this
      subst this
      clear B
      go_wp2_with fail
      go_meet
      exact⟨rfl,rfl⟩
     ·have:=B.out
      rw[if_neg ht] at this
      subst this
      clear B
      go_wp2_with fail
      go_meet
      exact⟨rfl,rfl⟩
    case rest=>
     obtain⟨rfl,rfl⟩:=hcut
     obtain⟨b,off,hA,_,_⟩:=Reads.form o xp (by decide)
     have t:(⟨b,off,none⟩:Addr).add p=⟨b,off+p,none⟩:=by
      unfold Addr.add
      split
      ·rename_i h;rw[h];rfl
      ·rfl
     have C := fun (wy : World) (hy : ZB wc wy) => QcI enc D (some ⟨b, off, none⟩) p p xT (xB.take p) wy he (by
      have:=Reads.below (Reads.take o U) hy
      rw[Nat.mul_one,<-List.map_take,hA] at this
      exact this) (xb.take p) (by omega) (Nat.le_refl _)
     have l := fun (wy : World) (hy : ZB wc wy) => QcI enc D (if xC = p then some ⟨b, off, none⟩ else some ⟨b, off + p, none⟩) (xN - p) (xC - p) tg (xB.drop p) wy he (by
      have:=Reads.below (Reads.cut o U xc) hy
      rw[Nat.mul_one,<-List.map_drop,hA,Option.map_some,t] at this
      exact this) (xb.drop p) (by omega) (by omega)
     have b0:(if xC=p then xA else xA.map (·.add p))=if xC=p then some ⟨b,off,none⟩ else some ⟨b,off+p,none⟩:=by
      rw[hA,Option.map_some,t]
     rw[hA] at c0
     obtain⟨j,a0⟩:∃S,Qi (dec enc (xB.take p))=S:=⟨_,rfl⟩
     obtain⟨i,X⟩:∃S,Qi (dec enc (xB.drop p))=S:=⟨_,rfl⟩
     rw[a0] at C
     rw[X] at l
     simp only[Qx] at C l
     have HA:=Zh hA
     have c2:=Zh b0
     have a2:=Zh a0
     have b2:=Zh X
     have E:=Zh C
     have q0:(0:Int)<=(p:Int):=by omega
     have q1:(p:Int)<=(xN:Int):=by omega
     have q2:(p:Int)<=(xC:Int):=by omega
     have q3:(xN:Int)<=(xC:Int):=by omega
     clear hA b0 C hgo U xc t o b1 a0 X
     by_cases hcp:xC=p
     ·have b9:xN=p:=by omega
      subst hcp
      subst b9
      rw[if_pos rfl,Nat.sub_self] at l
      have r:=Zh l
      clear l
      go_upto_region 9 with fail
      have s0:wc.drew.cell? ⟨w.heap.size,0,none⟩=some (.slice (some ⟨b,off,none⟩) xN xN)/\wc.drew.cell? ⟨w.heap.size,1,none⟩=some (.int .i64 xT):=⟨c0,c1⟩
      go_region_held3 (fun w'=>w'.cell? ⟨w.heap.size,0,none⟩=some (.slice (some ⟨b,off,none⟩) xN xN)/\w'.cell? ⟨w.heap.size,1,none⟩=some (.int .i64 xT)) (first|((repeat (with_reducible refine Qkm (by dsimp only;omega) (by dsimp only;omega) ?_));with_reducible assumption)) (first|(go_at_call_of 145 (Value.slice (some ⟨b,off,none⟩) xN xN);refine(E.out _ (Below.drew (Below.refl _ _))).mono ?_;rintro e w1 ⟨rfl,d⟩;have s1:=QeM (QD d) ⟨c0,c1⟩)|(go_at_call 145;refine(r.out _ (QD d)).mono ?_;rintro e w2 ⟨rfl,f⟩;have s2:=QeM (Qf (QD d) f) ⟨c0,c1⟩;obtain⟨⟨Y,g1,L,O,g4,W,R⟩,v0,v1,v2,v3,v4,v5,v6⟩:=QG (F.below (Qf (QD d) f));obtain⟨⟨j0,I,N,M,K,J,Q⟩,u0,u1,u2,u3,u4,u5,u6⟩:=QG (b7.below (Qf (QD d) f))))
      all_goals
       change Exit.then _ _ Exit.normal _ (Qf2 (Qf2 w2 (w.heap.size+1) (some ⟨b,off,none⟩) xN xN xT j) (w.heap.size+1+1) (some ⟨b,off,none⟩) 0 0 tg i)
       have B6:=Qbw (A:=(some ⟨b,off,none⟩)) (n:=0) (c:=0) (tag:=tg) (s:=i) (b:=w.heap.size+1+1) (QaX (A:=some ⟨b,off,none⟩) (n:=xN) (c:=xN) (tag:=xT) (s:=j) (F.below (Qf (QD d) f))) (by omega)
       have B7:=QaX (A:=(some ⟨b,off,none⟩)) (n:=0) (c:=0) (tag:=tg) (s:=i) (Qbw (A:=some ⟨b,off,none⟩) (n:=xN) (c:=xN) (tag:=xT) (s:=j) (b:=w.heap.size+1) (b7.below (Qf (QD d) f)) (by omega))
       have BW:=Qad (A:=(some ⟨b,off,none⟩)) (n:=0) (c:=0) (tag:=tg) (s:=i) (b:=w.heap.size+1+1) (Qad (A:=some ⟨b,off,none⟩) (n:=xN) (c:=xN) (tag:=xT) (s:=j) (b:=w.heap.size+1) (Qf hW (Qf (QD d) f)) (by omega)) (by omega)
       generalize Qf2 (Qf2 w2 (w.heap.size+1) (some ⟨b,off,none⟩) xN xN xT j) (w.heap.size+1+1) (some ⟨b,off,none⟩) 0 0 tg i=W' at B6 B7 BW ⊢
       clear Y g1 L O g4 W R v0 v1 v2 v3 v4 v5 v6 j0 I N M K J Q u0 u1 u2 u3 u4 u5 u6 s0 s1 s2 c0 c1 b3 F b7 d f E r hW q0 q1 q2 q3
       obtain⟨⟨Y,g1,L,O,g4,W,R⟩,_⟩:=QG B6
       obtain⟨⟨j0,I,N,M,K,J,Q⟩,_⟩:=QG B7
       go_wp2_with fail
       refine bodyPost_ret (v:=.tuple #[.agg #[.slice (some ⟨b,off,none⟩) xN xN,.int .i64 xT,.int .i64 j.atoms,.int .i64 j.bytes,.int .i64 j.breaks,.bool j.lf,.bool j.cr],.agg #[.slice (some ⟨b,off,none⟩) 0 0,.int .i64 tg,.int .i64 i.atoms,.int .i64 i.bytes,.int .i64 i.breaks,.bool i.lf,.bool i.cr]]) (by simp[results,Tryz.results141,go_sem,Y,g1,L,O,g4,W,R,j0,I,N,M,K,J,Q]) rfl ⟨?_,BW⟩
       rw[<-HV.out,Int.toNat_natCast,if_pos rfl,HA.out,a2.out,b2.out,Nat.sub_self]
       rfl
     ·rw[if_neg hcp] at l
      have r:=Zh l
      have c4:=Zh hcp
      clear l hcp
      go_upto_region 9 with fail
      have s0:wc.drew.cell? ⟨w.heap.size,0,none⟩=some (.slice (some ⟨b,off,none⟩) xN xC)/\wc.drew.cell? ⟨w.heap.size,1,none⟩=some (.int .i64 xT):=⟨c0,c1⟩
      go_region_held3 (fun w'=>w'.cell? ⟨w.heap.size,0,none⟩=some (.slice (some ⟨b,off,none⟩) xN xC)/\w'.cell? ⟨w.heap.size,1,none⟩=some (.int .i64 xT)) (first|((repeat (with_reducible refine Qkm (by dsimp only;omega) (by dsimp only;omega) ?_));with_reducible assumption)) (first|(go_at_call_of 145 (Value.slice (some ⟨b,off,none⟩) p p);refine(E.out _ (Below.drew (Below.refl _ _))).mono ?_;rintro e w1 ⟨rfl,d⟩;have s1:=QeM (QD d) ⟨c0,c1⟩)|(go_at_call 145;refine(r.out _ (QD d)).mono ?_;rintro e w2 ⟨rfl,f⟩;have s2:=QeM (Qf (QD d) f) ⟨c0,c1⟩;obtain⟨⟨Y,g1,L,O,g4,W,R⟩,v0,v1,v2,v3,v4,v5,v6⟩:=QG (F.below (Qf (QD d) f));obtain⟨⟨j0,I,N,M,K,J,Q⟩,u0,u1,u2,u3,u4,u5,u6⟩:=QG (b7.below (Qf (QD d) f))))
      all_goals
       change Exit.then _ _ Exit.normal _ (Qf2 (Qf2 w2 (w.heap.size+1) (some ⟨b,off,none⟩) p p xT j) (w.heap.size+1+1) (some ⟨b,off+p,none⟩) (xN-p) (xC-p) tg i)
       have B6:=Qbw (A:=(some ⟨b,off+p,none⟩)) (n:=xN-p) (c:=xC-p) (tag:=tg) (s:=i) (b:=w.heap.size+1+1) (QaX (A:=some ⟨b,off,none⟩) (n:=p) (c:=p) (tag:=xT) (s:=j) (F.below (Qf (QD d) f))) (by omega)
       have B7:=QaX (A:=(some ⟨b,off+p,none⟩)) (n:=xN-p) (c:=xC-p) (tag:=tg) (s:=i) (Qbw (A:=some ⟨b,off,none⟩) (n:=p) (c:=p) (tag:=xT) (s:=j) (b:=w.heap.size+1) (b7.below (Qf (QD d) f)) (by omega))
       have BW:=Qad (A:=(some ⟨b,off+p,none⟩)) (n:=xN-p) (c:=xC-p) (tag:=tg) (s:=i) (b:=w.heap.size+1+1) (Qad (A:=some ⟨b,off,none⟩) (n:=p) (c:=p) (tag:=xT) (s:=j) (b:=w.heap.size+1) (Qf hW (Qf (QD d) f)) (by omega)) (by omega)
       generalize Qf2 (Qf2 w2 (w.heap.size+1) (some ⟨b,off,none⟩) p p xT j) (w.heap.size+1+1) (some ⟨b,off+p,none⟩) (xN-p) (xC-p) tg i=W' at B6 B7 BW ⊢
       clear Y g1 L O g4 W R v0 v1 v2 v3 v4 v5 v6 j0 I N M K J Q u0 u1 u2 u3 u4 u5 u6 s0 s1 s2 c0 c1 b3 F b7 d f E r hW q0 q1 q2 q3
       obtain⟨⟨Y,g1,L,O,g4,W,R⟩,_⟩:=QG B6
       obtain⟨⟨j0,I,N,M,K,J,Q⟩,_⟩:=QG B7
       go_wp2_with fail
       refine bodyPost_ret (v:=.tuple #[.agg #[.slice (some ⟨b,off,none⟩) p p,.int .i64 xT,.int .i64 j.atoms,.int .i64 j.bytes,.int .i64 j.breaks,.bool j.lf,.bool j.cr],.agg #[.slice (some ⟨b,off+p,none⟩) (xN-p) (xC-p),.int .i64 tg,.int .i64 i.atoms,.int .i64 i.bytes,.int .i64 i.breaks,.bool i.lf,.bool i.cr]]) (by simp[results,Tryz.results141,go_sem,Y,g1,L,O,g4,W,R,j0,I,N,M,K,J,Q]) rfl ⟨?_,BW⟩
       rw[<-HV.out,Int.toNat_natCast,c2.out,if_neg c4.out,HA.out,a2.out,b2.out]
       rfl
theorem QiK (enc:Int)(D:Nat->Prop)(x:Pc)(n:Int)(w:World)(f:enc=1\/enc=2\/enc=3\/enc=4)(d:PcOk enc x)(a:Bts w D x.A x.n x.bytes)(h : -2147483648<=n)(n1:n<=2147483648) :
  Calls Tryz.prog 141 #[.agg x.cells,.int .i64 enc,.int .i64 n] w fun e w'=>e=.returned (Qr4 enc x n)/\ZB w w':=QpI _ enc D x n w rfl f d a h n1
theorem Qo3 (enc:Int)(n:Nat) : ∀l:List Int,szs enc l n<l.length->szs enc l (n+1)=szs enc l n+QB enc (l.drop (szs enc l n).toNat):=by
 induction n with
 |zero=>
  intro l h
  rw[Qc6] at h ⊢
  rw[Qbz enc l 0 (by omega),Qc6]
  simp
 |succ n ih=>
  intro l h
  have a:0<l.length:=by have:=Qbo enc (n+1) l;omega
  have b:=QZ enc l a
  rw[Qbz enc l n a] at h ⊢
  rw[Qbz enc l (n+1) a]
  have c:=Qbo enc n (l.drop (QB enc l).toNat)
  have d:((l.drop (QB enc l).toNat).length:Int)=l.length-QB enc l:=by rw[List.length_drop];omega
  rw[ih _ (by omega),List.drop_drop,show (QB enc l+szs enc (l.drop (QB enc l).toNat) n).toNat=(QB enc l).toNat+(szs enc (l.drop (QB enc l).toNat) n).toNat by omega]
  omega
theorem Qn7 (enc:Int)(n:Nat)(l:List Int):dec enc (l.take (szs enc l n).toNat)++dec enc (l.drop (szs enc l n).toNat)=dec enc l:=by
 rw[Qhi,Qe0,List.take_append_drop]
theorem QjL (enc:Int) : ∀(k:Nat) (l:List Int),l.length<=k->((dec enc l).map Prod.snd).sum=(l.length:Int):=by
 intro k
 induction k with
 |zero=>
  intro l h
  have e:l=[]:=List.eq_nil_of_length_eq_zero (by omega)
  rw[e];rfl
 |succ k ih=>
  intro l h
  by_cases h0:0<l.length
  ·have a:=QZ enc l h0
   rw[QaN enc l h0,List.map_cons,List.sum_cons,ih _ (by rw[List.length_drop];omega),List.length_drop]
   omega
  ·have e:l=[]:=List.eq_nil_of_length_eq_zero (by omega)
   rw[e];rfl
theorem Qc2 (enc:Int)(l:List Int):(Qi (dec enc l)).bytes=(l.length:Int):=by
 rw[(Qm (Qbu enc l)).2.2,QjL enc l.length l (Nat.le_refl _)]
def PcIn (g:Nat)(l:List Int)(p:Pc):Prop:=∃off,p.A=some ⟨g,off,none⟩/\p.bytes=(l.drop off).take p.n/\off+p.n<=l.length
theorem PcIn.bts {g:Nat}{l:List Int}{p:Pc}{w:World}{T:TypeId}(h:PcIn g l p)(d:Blk w g T (l.map (Value.int .u8)).toArray):Bts w (· = g) p.A p.n p.bytes:=by
 obtain⟨off,c,b,f⟩:=h
 refine⟨by rw[b];simp;omega,fun _=>⟨_,c,rfl,fun j u a=>?_⟩⟩
 have e:(⟨g,off,none⟩:Addr).add j=⟨g,off+j,none⟩:=by
  by_cases hj:j=0
  ·subst hj;rw[add_zero];rfl
  ·rw[Qb6 _ _ (by omega)]
 rw[e,d.cell]
 rw[b,List.getElem?_map,List.getElem?_take] at a
 rw[List.getElem?_toArray,List.getElem?_map]
 split at a
 ·rw[List.getElem?_drop] at a
  exact a
 ·simp at a
theorem Qe3 (tag:Int)(a b:List (Int × Int)) : ∀off,QbS tag off (a++b)=QbS tag off a++QbS tag (off+(a.map Prod.snd).sum) b:=by
 induction a with
 |nil=>intro off;simp[QbS]
 |cons d a ih=>
  intro off
  simp only[List.cons_append,QbS,List.map_cons,List.sum_cons]
  rw[ih,Int.add_assoc]
theorem Qem {p:Int}(a:List (Int × Int))(hp:0<=p) : ∀off,QbS p off a=QbS 0 (p+off) a:=by
 induction a with
 |nil=>intro off;rfl
 |cons d a ih=>
  intro off
  simp only[QbS]
  rw[ih,if_neg (by omega),if_neg (by omega),Int.zero_add,Int.add_assoc]
structure OpenOk (enc:Int) (l:List Int) (g:Nat) (p:Nat) (ps:List Pc):Prop where
 le:p<=l.length
 ok : ∀x ∈ ps,PcOk enc x
 in_ : ∀x ∈ ps,PcIn g l x
 tot:Qbl ps=p
 len:ps.length<=p
 all:QC enc ps++dec enc (l.drop p)=dec enc l
 tg:QaM enc ps=QbS 0 0 (QC enc ps)
 tgn : ∀x ∈ ps,x.tag+x.n<=l.length
theorem OpenOk.start (enc:Int)(l:List Int)(g:Nat):OpenOk enc l g 0 []:=
 ⟨Nat.zero_le _,fun x h=>absurd h (by simp),fun x h=>absurd h (by simp),rfl,Nat.le_refl _,by simp[QC],rfl,fun x h=>absurd h (by simp)⟩
def Qsl (enc:Int)(l:List Int)(g p m:Nat):Pc:=⟨some ⟨g,p,none⟩,m,m,(p:Int),Qi (dec enc ((l.drop p).take m)),(l.drop p).take m⟩
theorem OpenOk.step {enc:Int}{l:List Int}{g p m k:Nat}{ps:List Pc}(h:OpenOk enc l g p ps)(f:Byt l)(hm:(m:Int)=szs enc (l.drop p) k)(d:0<m)(c:p+m<=l.length)(hn:l.length<=1073741824) :
  OpenOk enc l g (p+m) (ps++[Qsl enc l g p m]):=by
 have b:((l.drop p).take m).length=m:=by simp;omega
 refine⟨c,?_,?_,?_,?_,?_,?_,?_⟩
 ·intro x a
  rcases List.mem_append.1 a with a|a
  ·exact h.ok x a
  ·rw[List.mem_singleton] at a
   subst a
   exact⟨(f.drop _).take _,b,d,show m<=_ by omega,Nat.le_refl _,show (-1:Int)<=(p:Int) by omega,show (p:Int)<=_ by omega,rfl⟩
 ·intro x a
  rcases List.mem_append.1 a with a|a
  ·exact h.in_ x a
  ·rw[List.mem_singleton] at a
   subst a
   exact⟨p,rfl,rfl,c⟩
 ·rw[Qby,h.tot,QaI]
  simp only[Qsl,Qc2,b,Qbl,List.map_nil,List.sum_nil]
  omega
 ·have:=h.len
  simp
  omega
 ·have e:=Qn7 enc k (l.drop p)
  rw[<-hm,List.drop_drop] at e
  simp only[Int.toNat_natCast] at e
  rw[<-h.all,<-e,Qax,QS,show QC enc []=[] from rfl,List.append_nil,List.append_assoc]
  rfl
 ·have i:((QC enc ps).map Prod.snd).sum=(p:Int):=by
   have h1:=(Qm (Qai enc ps)).2.2
   rw[<-Qa6 h.ok,(QI (Qdg h.ok)).2,h.tot] at h1
   exact h1.symm
  rw[Qa7,Qd7,Qax,QS,show QC enc []=[] from rfl,List.append_nil,Qe3,h.tg,i,Int.zero_add]
  show _++QbS (p:Int) 0 _=_
  rw[Qem (p:=(p:Int)) _ (by omega),Int.add_zero]
 ·intro x a
  rcases List.mem_append.1 a with a|a
  ·exact h.tgn x a
  ·rw[List.mem_singleton] at a
   subst a
   show (p:Int)+(m:Int)<=_
   omega
def U8s (w:World)(ps:List Pc):Prop:=∀p ∈ ps,∀a,p.A=some a->∃b,Blk w a.block 5 b
theorem U8s.below {w w':World}{ps:List Pc}(h:U8s w ps)(a:ZB w w'):U8s w' ps:=fun p hp b e=>by
 obtain⟨c,d⟩:=h p hp b e
 exact⟨c,d.below a⟩
def TextL (w:World)(D:Nat->Prop)(g:Nat)(enc lim:Int)(b ats:List (Int × Int)):Prop:=∃t a add,TextIn w D g enc lim t a add/\U8s w t.list/\QC enc t.list=b/\QaM enc t.list=ats/\add=.slice none 0 0/\∀p ∈ t.list,p.tag+p.n<=1073741824
theorem TextL.at_ {w:World}{D:Nat->Prop}{g:Nat}{enc lim:Int}{b ats:List (Int × Int)}(h:TextL w D g enc lim b ats):TextAt w D g enc b:=by
 obtain⟨t,a,add,h,_,e,_⟩:=h
 exact⟨lim,t,a,add,h,e⟩
theorem TextL.below {w w':World}{D:Nat->Prop}{g:Nat}{enc lim:Int}{c ats:List (Int × Int)}(h:TextL w D g enc lim c ats)(b:ZB w w'):TextL w' D g enc lim c ats:=by
 obtain⟨t,a,add,h,d,e⟩:=h
 exact⟨t,a,add,h.below b,d.below b,e⟩
theorem OpenOk.good {enc:Int}{l:List Int}{g p:Nat}{ps:List Pc}(h:OpenOk enc l g p ps):AllGood ps:=Qdg h.ok
theorem OpenOk.text {enc lim:Int}{l:List Int}{g f:Nat}{ps:List Pc}{w:World}{D:Nat->Prop}{a:Option Addr}(h:OpenOk enc l g l.length ps)(n:l.length<=1073741824)
  (k:enc=1\/enc=2\/enc=3\/enc=4) (d:Blk w g 5 (l.map (Value.int .u8)).toArray) (j:D g) (i:Blk w f 104 #[.int .i64 enc,.int .i64 lim,.pointer a,.slice none 0 0]) (hn:NodeAt w (btF ps.length ps) a) :
  TextL w D f enc lim (dec enc l) (QbS 0 0 (dec enc l)):=by
 have e:=QeP ps.length ps (Nat.le_refl _)
 have c:=h.all
 rw[List.drop_length,QcY,List.append_nil] at c
 refine⟨btF ps.length ps,a,.slice none 0 0,⟨i,k,hn,?_,?_,?_,?_⟩,?_,?_,?_,rfl,?_⟩
 ·rw[e];have:=h.len;omega
 ·rw[e,h.tot];omega
 ·rw[e];exact h.ok
 ·rw[e]
  intro p hp
  exact Reads.more ((h.in_ p hp).bts d) (fun b d _=>d▸j) (by decide)
 ·rw[e]
  intro p hp o e
  obtain⟨off,m,_⟩:=h.in_ p hp
  rw[m] at e
  injection e with e
  subst e
  exact⟨_,d⟩
 ·rw[e]
  exact c
 ·rw[e,h.tg,c]
 ·rw[e]
  intro p hp
  have:=h.tgn p hp
  omega
theorem QaU (w:World)(t:TypeId)(a:Array Value) : ∀j u,a.toList[j]? = some u->(w.alloc (.cells a t)).cell? ((⟨w.heap.size,0,none⟩:Addr).add j)=some u:=by
 intro j u b
 have e:(⟨w.heap.size,0,none⟩:Addr).add j=⟨w.heap.size,j,none⟩:=by
  by_cases hj:j=0
  ·subst hj;rw[add_zero]
  ·rw[Qb6 _ _ (by omega)];simp
 rw[e,(Blk.new w t a).cell]
 simpa using b
attribute [local go_sem] Oper.semAt_some
theorem Qj4 {α : Type}(L A B:List α)(a:L=A++B)(nn lf:Nat)(f tt:Int)(h1:(A.length:Int)+nn=max f 0)(h2:min tt (L.length:Int)-max f 0=(lf:Int))(e:1<=lf):(B.drop nn).take lf=seg f tt L:=by
 have c:f.toNat=A.length+nn:=by omega
 have d:L.drop f.toNat=B.drop nn:=by rw[a,c,List.drop_append,List.drop_eq_nil_of_le (by omega),List.nil_append];congr 1;omega
 unfold seg
 rw[d]
 have b:L.length=A.length+B.length:=by rw[a,List.length_append]
 by_cases ht:tt<=L.length
 ·congr 1;omega
 ·rw[List.take_of_length_le (by rw[List.length_drop];omega),List.take_of_length_le (by rw[List.length_drop];omega)]
theorem QlB {σ : Type}(F:FuncId)(caps:Array Value)(J : σ -> (Nat->Prop)->World->Prop)(step : σ -> Int->Int -> σ)(size : σ -> Nat)(G:Sees F caps J step size)(D:Nat->Prop)(g:Nat)(enc lim:Int)(t:Tr)(a:Option Addr)(add:Value)(f tt:Int)
  (V : σ) (X0:Nat->Prop) (w:World) (h:TextIn w D g enc lim t a add) (hD : ∀b,D b->b<w.heap.size->¬X0 b) (hj:J V X0 w) (i0:size V<=1000) (f0 : -2147483648<=f) (t0:tt<=2147483648) (b2:max f 0<min tt (QC enc t.list).length) :
  Calls Tryz.prog 97 #[.pointer (some ⟨g,0,none⟩),.int .i64 f,.int .i64 tt,.func (.func F) #[] caps] w fun e w'=>QeY J ((seg f tt (QaM enc t.list)).foldl (fun s a=>step s a.1 a.2) V) X0 w e w':=by
 obtain⟨W1,U⟩:=ZN ((w.alloc (.cells #[.pointer (some ⟨g,0,none⟩)] 33)).alloc (.cells #[.func (.func F) #[] caps] 144))
 have d6:ZB w W1:=by rw[<-U];exact Qa (Qa (Below.refl _ w))
 have hn:W1.heap.size=w.heap.size+2:=by rw[<-U];simp
 have b4:Blk W1 w.heap.size 33 #[.pointer (some ⟨g,0,none⟩)]:=by rw[<-U];exact(Blk.new w _ _).alloc _
 have b7:Blk W1 (w.heap.size+1) 144 #[.func (.func F) #[] caps]:=by
  rw[<-U]
  have:=Blk.new (w.alloc (.cells #[.pointer (some ⟨g,0,none⟩)] 33)) 144 #[.func (.func F) #[] caps]
  simpa only[World.size_alloc] using this
 have hl:=QaS D g enc _ W1 ⟨lim,t,a,add,h.below d6,rfl⟩
 have f8:=h.decLen
 obtain⟨n,e2⟩:=ZN ((QC enc t.list).length)
 rw[e2] at hl f8 b2
 have g6:=Zh U
 have HN:=Zh hn
 have HL:=Zh hl
 have Q:=Zh e2
 clear U hn hl e2
 refine(callsIn_wide (n:=7)).1 ?_
 refine callsIn_of_wp_marks Tryz.func97 rfl trivial ?_ rfl
 simp only[Tryz.ntmps97,List.size_toArray,List.length_cons,List.length_nil,Nat.reduceAdd,Nat.reduceSub,Array.replicate_succ,Array.replicate_zero,List.push_toArray,List.append_toArray,List.nil_append,List.cons_append]
 refine wpIn_wide.2 ?_
 go_upto_region 1 with fail
 have e1:=g6.out
 rw[e1]
 clear e1 g6
 have hz:=HN.out
 go_cut [1,2] from 15 to 20 (fun C R wx=>C=.int .i64 (max f 0)/\R=.int .i64 (min tt n)/\ZB w wx/\Blk wx w.heap.size 33 #[.pointer (some ⟨g,0,none⟩)]/\Blk wx (w.heap.size+1) 144 #[.func (.func F) #[] caps])
 case first=>
  have c4:=b4.cell 0
  simp at c4
  clear hz
  by_cases q0:f<0<;>by_cases C:tt<=n
  all_goals
   go_wp2_with fail
   refine(HL.out).mono ?_
   rintro e w1 ⟨rfl,O⟩
   go_wp2_with fail
   go_meet
   exact⟨QoW (by omega),QoW (by omega),Qf d6 O,b4.below O,b7.below O⟩
 case rest=>
  obtain⟨rfl,rfl,O,b4,b7⟩:=hcut
  clear HL d6 hz HN
  obtain⟨N,d5⟩:=ZN (max f 0)
  obtain⟨m2,c7⟩:=ZN (min tt (n:Int))
  rw[d5,c7] at b2 ⊢
  have b0:=Zh d5
  have d7:=Zh c7
  have k0:0<=N:=by omega
  have k1:N<m2:=b2
  have k2:m2<=n:=by omega
  clear d5 c7 b2
  have hf:=Qd4 D g enc lim t a add N wc (h.below O) k0 (by have:=Q.out;omega)
  have HF:=Zh hf
  have f9:=fun i=>QnX a i
  have HI:=Zh f9
  have c4:=b4.cell 0
  simp at c4
  clear hf f9
  go_wp2_with fail
  refine(HF.out).mono ?_
  rintro e w1 ⟨i,nn,rfl,h4,b3⟩
  have a1:=Qf O b3
  have b8:=b4.below b3
  have d9:=b7.below b3
  have hT:=h.below a1
  obtain⟨_,t2⟩:=hT.cells
  have g0:=b8.cell 0
  simp at g0
  have z4:=b8.lt
  have zg:=hT.blk.lt
  clear c4
  go_wp2_with fail
  refine(HI.out _ _).mono ?_
  rintro e H ⟨rfl,rfl⟩
  go_wp2_with fail
  obtain⟨H,L⟩:=ZN ((((w1.alloc (.cells #[.int .i64 (nn:Int)] 3)).alloc (.cells #[.int .i64 (m2-N)] 3)).alloc (.cells #[.pointer a] 102)).alloc (.cells #[.int .i64 (i:Int)] 3))
  have b5:ZB w1 H:=by rw[<-L];exact Qa (Qa (Qa (Qa (Below.refl _ w1))))
  have f2:H.heap.size=w1.heap.size+4:=by rw[<-L];simp
  obtain⟨lf,e4⟩:∃lf:Nat,m2-N=(lf:Int):=⟨(m2-N).toNat,by omega⟩
  have bn:Blk H w1.heap.size 3 #[.int .i64 (nn:Int)]:=by rw[<-L];exact(((Blk.new w1 _ _).alloc _).alloc _).alloc _
  have bl:Blk H (w1.heap.size+1) 3 #[.int .i64 (lf:Int)]:=by
   rw[<-L,e4]
   have:=Blk.new (w1.alloc (.cells #[.int .i64 (nn:Int)] 3)) 3 #[.int .i64 (lf:Int)]
   simp only[World.size_alloc] at this
   exact(this.alloc _).alloc _
  have bt:Blk H (w1.heap.size+2) 102 #[.pointer a]:=by
   rw[<-L]
   have:=Blk.new ((w1.alloc (.cells #[.int .i64 (nn:Int)] 3)).alloc (.cells #[.int .i64 (m2-N)] 3)) 102 #[.pointer a]
   simp only[World.size_alloc] at this
   exact this.alloc _
  have bi:Blk H (w1.heap.size+3) 3 #[.int .i64 (i:Int)]:=by
   rw[<-L]
   have:=Blk.new (((w1.alloc (.cells #[.int .i64 (nn:Int)] 3)).alloc (.cells #[.int .i64 (m2-N)] 3)).alloc (.cells #[.pointer a] 102)) 3 #[.int .i64 (i:Int)]
   simp only[World.size_alloc] at this
   exact this
  rw[L]
  clear L g0 t2
  have c3 : ∀b,X0 b->b<w.heap.size:=fun b hx=>by obtain⟨cs,T,h8,_⟩:=G.kind _ _ _ b hj hx;exact h8.lt
  have y:ZB w H:=Qf a1 b5
  have f4:=d9.lt
  have B:CoreOk X0 w H.heap.size g w1.heap.size:=⟨c3,by omega,by omega⟩
  have a6:Core J X0 w H.heap.size g #[.int .i64 enc,.int .i64 lim,.pointer a,add] (.func (.func F) #[] caps) w1.heap.size nn lf V X0 H:=
   ⟨G.keep _ _ _ _ hj (fun b hx=>y.block b (c3 b hx)),fun b hx=>.inl hx,Fr.of_below y,Nat.le_refl _,b8.below b5,d9.below b5,bn,bl,(h.below y).blk⟩
  obtain⟨h5,f5,h6⟩:=h4
  have c2:=h.len
  have hG : ∀p ∈ t.list,GPc w D enc p:=fun p hp=>⟨h.ok p hp,h.bts p hp⟩
  have f1:=Qjf (GPc w D enc) 6 (w1.heap.size+2) (w1.heap.size+3) t a (i:Int) H (NodeAt.below y t a h.node) hG (bt.cell 0) (bi.cell 0) (by omega) (by omega) c2
  have c0:nn<=1073741824:=by have:=Q.out;omega
  have g8:lf<=1073741824:=by have:=Q.out;omega
  have E:1<=lf:=by omega
  have d8:=Zh e4
  have i6:=Zh f2
  have c6:=Zh f5
  clear e4 f2 f5 HF HI
  refine(wpIn_wide (n:=7)).1 ?_
  refine wpIn_rangeFunc_ownH (w0:=H) rfl (by decide) (gf:=153) (lb := #[.pointer (some ⟨w1.heap.size+2,0,none⟩),.pointer (some ⟨w1.heap.size+3,0,none⟩)]) rfl trivial Tryz.call153
   f1 (fun h k=>KT.trans h k) ?hKb (Below.refl _ _) (fun _=>rfl)
   (WkI J step size X0 w H.heap.size g #[.int .i64 enc,.int .i64 lim,.pointer a,add] (.func (.func F) #[] caps) w1.heap.size enc (GPc w D enc) nn lf V)
   (WkX J step X0 w H.heap.size g #[.int .i64 enc,.int .i64 lim,.pointer a,add] (.func (.func F) #[] caps) w1.heap.size enc (GPc w D enc) nn lf V)
   ?hI ?hIx ⟨nn,lf,V,X0,by simp[QaM,Qdz],E,by omega,c0,a6⟩
   (fun x a' W=>∃Bx,H.heap.size<=Bx/\Blk W Bx 107 x.1.cells/\a'={ tmps := #[.pointer (some ⟨g,0,none⟩),.int .i64 N,.int .i64 m2,.func (.func F) #[] caps,.pointer (some ⟨w.heap.size,0,none⟩),undef,undef,.pointer (some ⟨w.heap.size+1,0,none⟩),.int .i64 (i:Int),.pointer (some ⟨w1.heap.size,0,none⟩),.pointer (some ⟨w1.heap.size+1,0,none⟩),.pointer (some ⟨Bx,0,none⟩),undef,undef,undef,u15,u16,u17,u18,u19,u20,.int .i64 N,.int .i64 m2,.bool (decide (m2<=N)),.tuple #[.int .i64 (i:Int),.int .i64 (nn:Int)],.pointer (some ⟨g,0,none⟩),.int .i64 N,.tuple #[.int .i64 (i:Int),.int .i64 (nn:Int)],.int .i64 (i:Int),.int .i64 (nn:Int),.int .i64 m2,.int .i64 N,.int .i64 (m2-N),.pointer (some ⟨g,0,none⟩),.pointer (some ⟨g,0,none⟩),.pointer (some ⟨g,2,none⟩),.agg #[.pointer a],.int .i64 (i:Int),.func (.func 153) #[] #[.pointer (some ⟨w1.heap.size+1+1,0,none⟩),.pointer (some ⟨w1.heap.size+1+1+1,0,none⟩)],.agg x.1.cells,undef,undef,undef,undef,undef,undef,undef,undef,undef,undef,undef,undef,undef,undef,undef,undef,undef,undef,undef,undef,undef,undef,undef,undef,undef,undef,undef,undef,undef,undef,undef,undef,undef,undef,undef,undef,undef,undef,undef,undef],defers:=[] }) ?hAx ?assign ?body ?done ?stop
  case hKb=>exact fun W l o o' hl ho hc hw=>⟨by simp,fun b cs T h1 h2 hb=>(World.putObj_heap_other (by rintro rfl;unfold Blk at hb;rw[hb] at ho;injection ho with ho;rw[<-ho] at hc;cases hc)).trans hb⟩
  case hI=>
   rintro pre W W' row ⟨P,left,s,X,C,R,q3,q4,d⟩ hg hr
   exact⟨P,left,s,X,C,R,q3,q4,d.own B G hg hr⟩
  case hIx=>
   rintro c pre W W' row ⟨rfl,k,l,s,X,C,d⟩ hg hr
   exact⟨rfl,k,l,s,X,C,d.own B G hg hr⟩
  case hAx=>
   rintro x a' _ W W' row ⟨Bx,C,R,q3⟩ hg hr
   exact ⟨Bx, C, R.grown hg (fun e=>by
    obtain⟨_,o,ho,Z⟩:=hr _ e.symm
    unfold Blk at R
    rw[R] at ho
    injection ho with ho
    rw[<-ho] at Z
    cases Z),q3⟩
  case assign=>
   rintro l pre x W K ⟨P,left,s,X,C,R,q3,q4,d⟩ hK
   simp only[Pc.cells,Qx] at hK ⊢
   have HQ:=Zh C
   clear C
   gi_wp2
   exact hK _ _ (Rel.below (Qa (Below.refl _ W))).1 (Rel.below (m2:=0) (Qa (Below.refl _ W))).2 ⟨P,left,s,X,HQ.out,R,q3,q4,d.below G (Qa (Below.refl _ W))⟩ ⟨W.heap.size,d.sz,Blk.new W _ _,rfl⟩
  case body=>
   rintro l pre x a' W hl ⟨rr,i1⟩ ⟨n1,l1,s1,X1,C,R,q3,q4,d⟩ ⟨Bx,i5,e7,rfl⟩ i2
   obtain⟨T,hT⟩:=ZN (Qdz step n1 l1 s1 (Qgt enc x.1))
   have I:Qdz step nn lf V (QaM enc ((pre++[x]).map Subtype.val))=T:=by
    rw[List.map_append,Qa7,QqE _ _ _ _ _ _ _ _ C,<-hT]
    exact congrArg _ (Qd7 enc x.1)
   have a5:=Zh I
   have HT:=Zh hT
   clear C I hT i1 f1 bn bl bt bi hj
   obtain⟨⟨xb,xl,xp,xn,xc,h3,h0,_⟩,xbts⟩:=x.2
   gi_wp2
   gi_loopg [12] x.1.n (fun k q wr=>WkR J step size X0 w H.heap.size g #[.int .i64 enc,.int .i64 lim,.pointer a,add] (.func (.func F) #[] caps) w1.heap.size enc x.1 T W k q wr)
   case atStart=>exact⟨0,n1,l1,s1,X1,rfl,d,Rel.refl _ _,by rw[List.drop_zero];exact HT.out,R,q3,q4,Nat.zero_le _,Nat.le_refl _⟩
   case round=>
    obtain⟨k,P,left,s,X,rfl,hc,S,a2,r1,r2,r3,r4,r5⟩:=hrel
    have b9:=Zh a2
    have M:=S.2.2 _ _ _ (by decide) (by decide) e7
    have f6:=M.cell 0
    have a9:=M.cell 1
    simp only[Pc.cells,Qx,List.getElem?_toArray,List.getElem?_cons_zero,List.getElem?_cons_succ] at f6 a9
    clear a2
    by_cases hk:k<x.1.n
    ·have b6:=QaN enc (x.1.bytes.drop k) (by rw[List.length_drop];omega)
     have hz:=QZ enc (x.1.bytes.drop k) (by rw[List.length_drop];omega)
     rw[List.length_drop] at hz
     obtain⟨z,c9⟩:∃z:Nat,QB enc (x.1.bytes.drop k)=(z:Int):=⟨(QB enc (x.1.bytes.drop k)).toNat,by omega⟩
     obtain⟨at_,e8⟩:∃a,Qa8 enc (x.1.bytes.drop k)=a:=⟨_,rfl⟩
     have e5:=fun(wy:World) (hy:ZB wr wy)=>QcP enc D x.1.A x.1.n x.1.c k x.1.bytes wy h.enc4 (Reads.below (Reads.fr xbts hc.fr hD) hy) xb (by omega) xc hk
     rw[c9,e8] at e5 b6
     rw[c9] at hz
     rw[List.drop_drop,Int.toNat_natCast] at b6
     have i3:=Zh e5
     have c8:=Zh b6
     have z0:1<=z:=by omega
     have z1:z<=x.1.n-k:=by omega
     clear e5 b6 hz c9 e8
     gi_upto_region 9 with fail
     gi_cut [13,14] from 45 (fun i4 h9 wx=>i4=.int .i64 at_/\h9=.int .i64 (z:Int)/\ZB wr wx)
     case first=>
      have c4:=hc.b4.cell 0
      have ct:=hc.tx.cell 0
      simp at c4 ct
      clear h i0 f0 t0 b4 b7 f8 Q O b0 d7 k0 k1 k2 b3 a1 b8 d9 hT z4 zg b5 d8 c3 y f4 a6 h5 h6 c2 hG c0 g8 E i6 c6 hl R q3 q4 d i5 i2 a5 HT xbts xb xl xp xn xc h3 h0 r1 r2 r3 r4 r5 b9 c8 z0 z1 a9 hD S M e7 hc B G
      refine QcR (fun _=>trivial) rfl (Qjv l _) 7 _ (by kernel_rfl) (by kernel_rfl) rfl ?_
      simp only[List.take_succ_cons,List.take_zero]
      repeat still_step
      refine wpStill_nil ?_
      gi_wp2_with (first|(refine⟨trivial,?_⟩;gi_at_call 117;refine(CallsIn.inRound l (callsIn_wide.2 (i3.out _ (Below.drew (Below.refl _ _))))).mono ?_;rintro e w5 ⟨rfl,a4⟩))
      all_goals
       refine MidQ.go ?_
       simp only[List.drop_succ_cons,List.drop_zero]
       repeat still_step
       refine wpStill_nil ?_
       gi_wp2
       gi_meet
       exact⟨rfl,rfl,QD a4⟩
     case rest=>
      obtain⟨rfl,rfl,a4⟩:=hcut
      have v:=hc.below G a4
      have b1:=S.trans (Rel.below a4)
      have c1:=M.below a4
      clear hc S M f6 a9 d
      have d0:=v.bn.cell 0
      have d1:=v.bl.cell 0
      have d2:=c1.cell 0
      have d3:=c1.cell 1
      have d4:=v.b7.cell 0
      have v0:=v.bn.frozen 0
      have v1:=v.bl.frozen 0
      simp[Pc.cells,Qx] at d0 d1 d2 d3 d4
      by_cases hn:0<P
      ·gi_wp2
       gi_roundg (x.1.n-(k+z))
       case measure=>omega
       case rel=>
        have m:=v.setN B G (P-1)
        rw[show ((P-1:Nat):Int)=(P:Int)-1 by omega] at m
        refine⟨k+z,P-1,left,s,X,by go_num,m,b1.trans (Rel.setInt v.bn _),?_,r1,r2,by omega,by omega,by omega⟩
        rw[<-b9.out,c8.out,show P=(P-1)+1 by omega]
        rfl
      ·obtain rfl:P=0:=by omega
       obtain⟨tg,a0⟩:∃tg:Int,(if x.1.tag<0 then -1 else x.1.tag+(k:Int))=tg:=⟨_,rfl⟩
       have g5:Qdz step 0 left s ((at_,tg)::QbS x.1.tag ((k:Int)+z) (dec enc (x.1.bytes.drop (k+z))))=T:=by
        rw[<-b9.out,c8.out,<-a0]
        rfl
       have g9:=G.call s X at_ tg wc v.j (by omega)
       have i7:=G.enter
       have f7:=Zh g9
       have f3:=Zh g5
       have g3:=Zh a0
       clear g9 g5 a0
       have a0:(x.1.tag<0/\tg = -1)\/(¬x.1.tag<0/\tg=x.1.tag+(k:Int)):=by
        have:=g3.out
        by_cases ht:x.1.tag<0
        ·rw[if_pos ht] at this;exact .inl ⟨ht,this.symm⟩
        ·rw[if_neg ht] at this;exact .inr ⟨ht,this.symm⟩
       clear g3
       rcases a0 with ⟨ht,rfl⟩|⟨ht,rfl⟩
       all_goals
        by_cases hl1:left=1
        ·subst hl1
         gi_wp2_with (first|(refine⟨trivial,?_⟩;refine(CallsIn.inRound l (callsIn_wide.2 f7.out)).mono ?_;rintro e w6 ⟨rfl,⟨X6,c5,e0⟩,a8⟩;have m:=v.see B G c5 e0 a8;have Y:=b1.trans (v.rel G a8);have g1:=m.bl.cell 0;have g2:=m.bl.frozen 0;simp at g1))
         have u:=m.setL B G 0
         have g4:=Y.trans (Rel.setInt m.bl (.int .i64 ((0:Nat):Int)))
         refine⟨g4.1,rfl,0,0,_,X6,?_,u⟩
         rw[a5.out,<-f3.out]
         rfl
        ·have q:(((left:Nat):Int)-1==0)=false:=by rw[beq_eq_false_iff_ne];omega
         gi_wp2_with (first|(refine⟨trivial,?_⟩;refine(CallsIn.inRound l (callsIn_wide.2 f7.out)).mono ?_;rintro e w6 ⟨rfl,⟨X6,c5,e0⟩,a8⟩;have m:=v.see B G c5 e0 a8;have Y:=b1.trans (v.rel G a8);have g1:=m.bl.cell 0;have g2:=m.bl.frozen 0;simp at g1))
         gi_roundg (x.1.n-(k+z))
         case measure=>omega
         case rel=>
          have u:=m.setL B G (left-1)
          rw[show ((left-1:Nat):Int)=(left:Int)-1 by omega] at u
          have h7:=G.rises s at_
          refine⟨k+z,0,left-1,_,X6,by go_num,u,Y.trans (Rel.setInt m.bl _),?_,by omega,?_,by omega,by omega,by omega⟩
          ·rw[<-f3.out]
           simp only[Qdz]
           rw[if_neg (by omega)]
           rfl
          ·have:=h7 (if x.1.tag<0 then -1 else x.1.tag+(k:Int))
           first
            |(rw[if_pos ht] at this;omega)
            |(rw[if_neg (show ¬x.1.tag<0 by omega)] at this;omega)
    ·have i8:k=x.1.n:=by omega
     have I:Qdz step nn lf V (QaM enc ((pre++[x]).map Subtype.val))=(false,P,left,s):=by
      rw[a5.out,<-b9.out,List.drop_eq_nil_of_le (by omega)]
      rfl
     have e9:=Zh I
     clear I
     gi_wp2
     exact⟨S.1,S.2,P,left,s,X,e9.out,r1,r2,r3,hc⟩
  case done=>
   rintro D2 xs W e3 g7 ⟨P,left,s,X,C,R,q3,q4,d⟩ hK
   have u:=d.own B G (grownBy_putObj' W D2 (.deferred none)) (fun r e=>by cases e;exact⟨e3,_,hK,rfl⟩)
   have hv:=Qkt (step:=step) (QaM enc (xs.map Subtype.val)) nn lf V E
   rw[C,g7,Int.toNat_natCast,Qj4 (QaM enc t.list) (QaM enc (t.list.take i)) (QaM enc (t.list.drop i)) (by rw[<-Qa7,List.take_append_drop]) nn lf f tt (by rw[QaQ,b0.out];exact c6.out) (by rw[QaQ,Q.out,b0.out,d7.out];exact d8.out) E] at hv
   have HV:=Zh hv
   clear hv C g7
   gi_wp2
   refine⟨by simp,.inl ⟨_,_,rfl,run_takeDeferred hK,?_⟩⟩
   refine⟨_,results_none rfl _ _ _,rfl,⟨X,?_,fun b hb=>?_⟩,u.fr⟩
   ·rw[<-HV.out];exact u.j
   ·rcases u.xs b hb with h1|h1
    ·exact .inl h1
    ·exact .inr (Nat.le_trans y.size h1)
  case stop=>
   rintro D2 c pre W e3 e6 ⟨rfl,k,l,s,X,C,d⟩ hK
   have u:=d.own B G (grownBy_putObj' W D2 (.deferred none)) (fun r e=>by cases e;exact⟨e3,_,hK,rfl⟩)
   obtain⟨rest,a3⟩:=e6
   have a7:=Qmu (step:=step) (QaM enc (pre.map Subtype.val)) (QaM enc rest) nn lf V (by rw[C])
   rw[<-Qa7,a3,C] at a7
   have hv:=Qkt (step:=step) (QaM enc (t.list.drop (i:Int).toNat)) nn lf V E
   rw[a7,Int.toNat_natCast,Qj4 (QaM enc t.list) (QaM enc (t.list.take i)) (QaM enc (t.list.drop i)) (by rw[<-Qa7,List.take_append_drop]) nn lf f tt (by rw[QaQ,b0.out];exact c6.out) (by rw[QaQ,Q.out,b0.out,d7.out];exact d8.out) E] at hv
   have HV:=Zh hv
   clear hv C a7 a3
   gi_wp2
   refine⟨by simp,.inl ⟨_,_,rfl,run_takeDeferred hK,?_⟩⟩
   refine⟨_,results_none rfl _ _ _,rfl,⟨X,?_,fun b hb=>?_⟩,u.fr⟩
   ·rw[<-HV.out];exact u.j
   ·rcases u.xs b hb with h1|h1
    ·exact .inl h1
    ·exact .inr (Nat.le_trans y.size h1)
end Go.Proofs.YtgiihhikdoikgaaGreat
