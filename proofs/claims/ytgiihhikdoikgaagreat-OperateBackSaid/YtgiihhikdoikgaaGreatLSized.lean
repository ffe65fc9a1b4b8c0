/-
  An atom's size is told by the atom: a text is its atoms and tags (plain).
-/
import Derived.Test.YtgiihhikdoikgaaGreatLSums
import Derived.StillTailTactics
import Derived.IntWalk
set_option linter.unusedSimpArgs false
set_option linter.unusedVariables false
set_option maxRecDepth 100000
set_option maxHeartbeats 32000000
namespace Go.Proofs.YtgiihhikdoikgaaGreat
open Go.RowKit
def QJ (a z:Int):Sums:={ atoms:=1,bytes:=z,breaks:=if a=10\/a=13 then 1 else 0,lf:=a==10,cr:=a==13 }
theorem Qf6 (a z:Int)(w:World) :
  Calls Tryz.prog 119 #[.int .i64 a,.int .i64 z] w fun e w'=>e=.returned (.agg (QJ a z).cells)/\ZB w w':=by
 by_cases h1:a=10
 ·subst h1
  go_enter Tryz.func119,Tryz.ntmps119
  go_wp2
  refine bodyPost_ret (v:=.agg (QJ 10 z).cells) (by simp[results,Tryz.results119,go_sem,QJ,Sums.cells]) rfl ⟨rfl,?_⟩
  repeat (first|exact Below.refl _ _|apply Qa)
 by_cases h2:a=13
 ·subst h2
  go_enter Tryz.func119,Tryz.ntmps119
  go_wp2
  refine bodyPost_ret (v:=.agg (QJ 13 z).cells) (by simp[results,Tryz.results119,go_sem,QJ,Sums.cells]) rfl ⟨rfl,?_⟩
  repeat (first|exact Below.refl _ _|apply Qa)
 ·have c:(a==10)=false:=by rw[beq_eq_false_iff_ne];exact h1
  have b:(a==13)=false:=by rw[beq_eq_false_iff_ne];exact h2
  have e:QJ a z=⟨1,z,0,false,false⟩:=by unfold QJ;rw[if_neg (by omega),c,b]
  rw[e]
  clear h1 h2 e
  go_enter Tryz.func119,Tryz.ntmps119
  go_wp2
  refine bodyPost_ret (v:=.agg (Sums.mk 1 z 0 false false).cells) (by simp[results,Tryz.results119,go_sem,Sums.cells]) rfl ⟨rfl,?_⟩
  repeat (first|exact Below.refl _ _|apply Qa)
theorem Qkf (l:List Int)(h:0<l.length):1<=Qbj l/\Qbj l<=l.length:=by
 unfold Qbj
 have h1:=Qev l h
 have h2:=Qhl (l.getD 0 0)
 split
 ·omega
 ·rename_i a
  unfold Qey at a
  simp only[decide_eq_true_eq] at a
  omega
theorem QhF (o:Int)(l:List Int)(h:0<l.length):1<=Qaf o l/\Qaf o l<=l.length:=by
 unfold Qaf
 split
 ·omega
 ·split
  ·rename_i hp
   unfold QbR at hp
   simp only[Bool.and_eq_true,decide_eq_true_eq] at hp
   omega
  ·omega
theorem QZ (enc:Int)(l:List Int)(h:0<l.length):1<=QB enc l/\QB enc l<=l.length:=by
 unfold QB
 split
 ·exact Qkf l h
 ·split
  ·exact QhF 0 l h
  ·split
   ·exact QhF 1 l h
   ·omega
def QlK (enc:Int):Nat->List Int->List (Int × Int)
 | 0,_=>[]
 |f+1,l=>if l.length=0 then [] else (Qa8 enc l,QB enc l)::QlK enc f (l.drop (QB enc l).toNat)
theorem Qkq (enc:Int)(f:Nat)(l:List Int)(h:l.length=0):QlK enc f l=[]:=by cases f<;>simp[QlK,h]
theorem Qh2 (enc:Int) : ∀(f a:Nat) (l:List Int),l.length<=f->l.length<=a->QlK enc f l=QlK enc a l:=by
 intro f
 induction f with
 |zero=>intro a l h b;rw[Qkq enc a l (by omega)];rfl
 |succ f ih=>
  intro a l h b
  cases a with
  |zero=>rw[Qkq enc (f+1) l (by omega)];rfl
  |succ a=>
   simp only[QlK]
   split
   ·rfl
   ·have:=QZ enc l (by omega)
    rw[ih a _ (by rw[List.length_drop];omega) (by rw[List.length_drop];omega)]
def dec (enc:Int)(l:List Int):List (Int × Int):=QlK enc l.length l
theorem QcY (enc:Int):dec enc []=[]:=rfl
theorem QaN (enc:Int)(l:List Int)(h:0<l.length):dec enc l=(Qa8 enc l,QB enc l)::dec enc (l.drop (QB enc l).toNat):=by
 unfold dec
 have:=QZ enc l h
 rw[Qh2 enc l.length (l.length+1) l (by omega) (by omega)]
 simp only[QlK]
 rw[if_neg (by omega),Qh2 enc l.length _ _ (by rw[List.length_drop];omega) (Nat.le_refl _)]
def Qq:Sums:=⟨0,0,0,false,false⟩
def Qas (s:Sums)(d:Int × Int):Sums:=QM s (QJ d.1 d.2)
def Qi (a:List (Int × Int)):Sums:=a.foldl Qas Qq
theorem QpJ (s:Sums)(a z:Int)(h1:0<=s.atoms)(h2:0<=s.breaks)(d:0<=z)(c:s.atoms=0->s.bytes=0) :
  (Qas s (a,z)).atoms=s.atoms+1/\(Qas s (a,z)).bytes=s.bytes+z/\0<=(Qas s (a,z)).breaks/\(s.breaks<=s.atoms->(Qas s (a,z)).breaks<=s.atoms+1):=by
 by_cases h:s.atoms=0
 ·have:=c h
  simp only[Qas,QM,QJ,h,if_true]
  refine⟨by omega,by omega,?_,fun _=>?_⟩<;>split<;>omega
 ·have e:Qas s (a,z)={ atoms:=s.atoms+1,bytes:=s.bytes+z,breaks:=if (s.cr && a==10)=true then s.breaks+(if a=10\/a=13 then 1 else 0)-1 else s.breaks+(if a=10\/a=13 then 1 else 0),lf:=s.lf,cr:=a==13 }:=by
   unfold Qas QM
   rw[if_neg h,if_neg (show ¬(QJ a z).atoms=0 by simp[QJ])]
   rfl
  rw[e]
  dsimp only
  refine⟨rfl,rfl,?_,?_⟩
  ·split
   ·rename_i b
    simp only[Bool.and_eq_true,beq_iff_eq] at b
    rw[if_pos (.inl b.2)];omega
   ·split<;>omega
  ·intro _
   split<;>split<;>omega
def Qx (A:Option Addr)(n c:Nat)(tag:Int)(s:Sums):Array Value := #[.slice A n c,.int .i64 tag,.int .i64 s.atoms,.int .i64 s.bytes,.int .i64 s.breaks,.bool s.lf,.bool s.cr]
def QsC (enc:Int)(A:Option Addr)(n c:Nat)(tag:Int)(l:List Int)(S:Sums)(w0:World)(k:Nat)(q:Value)(wr:World):Prop:=
 ∃(p:Nat) (s:Sums),q=.int .i64 (p:Int)/\Blk wr (w0.heap.size+1) 107 (Qx A n c tag s)/\Blk wr w0.heap.size 107 (Qx none 0 0 0 Qq) /\
  ZB w0 wr/\p<=n/\n-p<=k/\(dec enc (l.drop p)).foldl Qas s=S/\0<=s.atoms/\s.atoms<=p/\s.bytes=p/\0<=s.breaks/\s.breaks<=s.atoms/\Hid (0<p->0<s.atoms)
theorem Qgo (a:Int)(z:Nat)(h:z<=1073741824):(QJ a z).ok:=by
 unfold Sums.ok QJ
 dsimp only
 refine⟨by omega,by omega,by omega,by omega,?_,?_⟩<;>split<;>omega
theorem QbM {w w1:World}{p:Addr}{v:Value}(a:ZB w w1)(h:w.cell? p=some v)(b:w.frozen? p=false):w1.frozen? p=false:=(a.frozen (Qac h)).trans b
theorem Qka {w w1:World}{a b c d e:Addr}{p q r s t:Value}(f:ZB w w1)(h:w.cell? a=some p/\w.cell? b=some q/\w.cell? c=some r/\w.cell? d=some s/\w.cell? e=some t/\w.frozen? a=false/\w.frozen? b=false/\w.frozen? c=false/\w.frozen? d=false/\w.frozen? e=false) :
  w1.cell? a=some p/\w1.cell? b=some q/\w1.cell? c=some r/\w1.cell? d=some s/\w1.cell? e=some t/\w1.frozen? a=false/\w1.frozen? b=false/\w1.frozen? c=false/\w1.frozen? d=false/\w1.frozen? e=false:=
 ⟨Qh f h.1,Qh f h.2.1,Qh f h.2.2.1,Qh f h.2.2.2.1,Qh f h.2.2.2.2.1,
  QbM f h.1 h.2.2.2.2.2.1,QbM f h.2.1 h.2.2.2.2.2.2.1,QbM f h.2.2.1 h.2.2.2.2.2.2.2.1,QbM f h.2.2.2.1 h.2.2.2.2.2.2.2.2.1,QbM f h.2.2.2.2.1 h.2.2.2.2.2.2.2.2.2⟩
theorem QbB (s o:Sums)(w:World)(a:s.ok)(b:o.ok) :
  Calls Tryz.prog 118 #[.agg s.cells,.agg o.cells] w fun e w'=>
   e=.returned (.agg #[.int .i64 (QM s o).atoms,.int .i64 (QM s o).bytes,.int .i64 (QM s o).breaks,.bool (QM s o).lf,.bool (QM s o).cr])/\ZB w w':=Qrf s o w a b
theorem QcI (enc:Int)(D:Nat->Prop)(A:Option Addr)(n c:Nat)(tag:Int)(l:List Int)(w:World)(he:enc=1\/enc=2\/enc=3\/enc=4)(O:Bts w D A n l)(hb:Byt l)(hn:n<=1073741824)(y:n<=c) :
  Calls Tryz.prog 145 #[.int .i64 enc,.slice A n c,.int .i64 tag] w fun e w'=>e=.returned (.agg (Qx A n c tag (Qi (dec enc l))))/\ZB w w':=by
 have a0:l.length<=n:=Nat.le_of_eq O.len
 have a1:n<=l.length:=Nat.le_of_eq O.len.symm
 obtain⟨S,P⟩:=ZN (Qi (dec enc l))
 rw[P]
 have M:=Zh P
 clear P
 go_enter Tryz.func145,Tryz.ntmps145
 go_wp2_with fail
 go_loopg [8] n (fun k q wr=>QsC enc A n c tag l S w k q wr)
 case atStart=>
  refine⟨0,Qq,rfl,?_,?_,?_,by omega,by omega,M.out,by decide,by decide,rfl,by decide,by decide,Zh (fun h=>absurd h (by omega))⟩
  ·have:=Blk.new (w.alloc (.cells (Qx none 0 0 0 Qq) 107)) 107 (Qx A n c tag Qq)
   simp only[World.size_alloc] at this
   exact this
  ·exact(Blk.new w 107 (Qx none 0 0 0 Qq)).alloc _
  ·repeat (first|exact Below.refl _ _|apply Qa)
 case round=>
  obtain⟨p,s,rfl,g,d,V,a2,hk,G,s1,s2,Z,s4,s5,s6⟩:=hrel
  have HF:=Zh G
  have J:=Zh Z
  clear G Z
  have U:=Reads.below O V
  by_cases hlt:p<n
  ·have hz:=QZ enc (l.drop p) (by rw[List.length_drop];omega)
   have r:=QaN enc (l.drop p) (by rw[List.length_drop];omega)
   obtain⟨a,ha⟩:=ZN (Qa8 enc (l.drop p))
   obtain⟨z,m⟩:∃z:Nat,QB enc (l.drop p)=(z:Int):=⟨(QB enc (l.drop p)).toNat,by omega⟩
   have t:=QcP enc D A n c p l wr he U hb (by omega) y hlt
   rw[ha,m] at t r
   rw[m,List.length_drop] at hz
   have HC:=Zh t
   have HD:=Zh r
   clear t r ha m
   go_wp2_with fail
   refine(HC.out).mono ?_
   rintro e w1 ⟨rfl,o⟩
   have E:s.ok:=⟨by omega,by omega,by have:=J.out;omega,by have:=J.out;omega,by omega,by omega⟩
   have F:(QJ a z).ok:=Qgo a z (by omega)
   have b:=g.below o
   have Q:=d.below o
   have W:=Qf V o
   have c0:=b.cell 2
   have c1:=b.cell 3
   have c2:=b.cell 4
   have u:=b.cell 5
   have x:=b.cell 6
   have L:=b.frozen 2
   have I:=b.frozen 3
   have H:=b.frozen 4
   have K:=b.frozen 5
   have f4:=b.frozen 6
   simp[Qx] at c0 c1 c2 u x
   go_upto_region 5 with fail
   go_cut [] (fun wx=>Blk wx (w.heap.size+1) 107 (Qx A n c tag (Qas s (a,(z:Int))))/\Blk wx w.heap.size 107 (Qx none 0 0 0 Qq)/\ZB w wx)
   case first=>
    go_region_with (first|(go_at_call 119;refine(Qf6 _ _ _).mono ?_;rintro e w3 ⟨rfl,j⟩;obtain⟨k0,k1,k2,k3,k4,k5,k6,k7,k8,k9⟩:=Qka (QD j) ⟨c0,c1,c2,u,x,L,I,H,K,f4⟩)|(go_at_call 118;refine(QbB s (QJ a z) _ E F).mono ?_;rintro e w4 ⟨rfl,B⟩;obtain⟨j0,j1,j2,j3,j4,j5,j6,j7,j8,j9⟩:=Qka (Qf (QD j) B) ⟨c0,c1,c2,u,x,L,I,H,K,f4⟩))
    all_goals
     go_wp2_with fail
     go_meet
     have f:=Qf (QD j) B
     refine⟨?_,?_,?_⟩
     ·exact(((((b.below f).set_ 2 _).set_ 3 _).set_ 4 _).set_ 5 _).set_ 6 _
     ·exact(((((Q.below f).far (p:=⟨w.heap.size+1,2,none⟩) (by simp) _).far (p:=⟨w.heap.size+1,3,none⟩) (by simp) _).far (p:=⟨w.heap.size+1,4,none⟩) (by simp) _).far (p:=⟨w.heap.size+1,5,none⟩) (by simp) _).far (p:=⟨w.heap.size+1,6,none⟩) (by simp) _
     ·exact(((((Qf W f).setCell (by simp) _).setCell (by simp) _).setCell (by simp) _).setCell (by simp) _).setCell (by simp) _
   case rest=>
    obtain⟨N,T,R⟩:=hcut
    clear c0 c1 c2 u x L I H K f4
    go_wp2_with fail
    go_roundg (n-(p+z))
    case measure=>omega
    case rel=>
     have a3:=QpJ s a z s1 s4 (by omega) (by have:=J.out;have:=s6.out;omega)
     have h3:=J.out
     refine⟨p+z,Qas s (a,(z:Int)),by go_num,N,T,R,by omega,by omega,?_,by omega,by omega,by omega,by omega,by omega,Zh (fun _=>by omega)⟩
     rw[<-HF.out,HD.out,List.drop_drop]
     rfl
  ·have C:p=n:=by omega
   have i:s=S:=by
    have:=HF.out
    rw[List.drop_eq_nil_of_le (by omega)] at this
    exact this
   rw[i] at g
   clear i C
   have c0:=g.cell 0
   have c1:=g.cell 1
   have c2:=g.cell 2
   have u:=g.cell 3
   have x:=g.cell 4
   have c5:=g.cell 5
   have c6:=g.cell 6
   have X:=d.cell 0
   have Y:=d.cell 1
   have r2:=d.cell 2
   have r3:=d.cell 3
   have r4:=d.cell 4
   have r5:=d.cell 5
   have r6:=d.cell 6
   have L:=d.frozen 0
   have I:=d.frozen 1
   have H:=d.frozen 2
   have K:=d.frozen 3
   have f4:=d.frozen 4
   have f5:=d.frozen 5
   have f6:=d.frozen 6
   simp[Qx,Qq] at c0 c1 c2 u x c5 c6 X Y r2 r3 r4 r5 r6
   go_wp2_with fail
   refine bodyPost_ret (v:=.agg (Qx A n c tag S)) (by simp[results,Tryz.results145,go_sem,Qx,X,Y,r2,r3,r4,r5,r6]) rfl ⟨rfl,?_⟩
   exact(((((((V.setCell (by simp) _).setCell (by simp) _).setCell (by simp) _).setCell (by simp) _).setCell (by simp) _).setCell (by simp) _).setCell (by simp) _)
structure Pc where
 A:Option Addr
 n:Nat
 c:Nat
 tag:Int
 sum:Sums
 bytes:List Int
def Pc.cells (p:Pc):Array Value:=Qx p.A p.n p.c p.tag p.sum
inductive Tr where
 |nil
 |node (l:Tr) (x:Pc) (r:Tr)
def Tr.size:Tr->Int
 | .nil=>0
 | .node l _ r=>l.size+1+r.size
def Tr.tall:Tr->Int
 | .nil=>0
 | .node l _ r=>max l.tall r.tall+1
def Tr.sum:Tr->Sums
 | .nil=>Qq
 | .node .nil x .nil=>x.sum
 | .node .nil x (.node a b c)=>QM x.sum (Tr.node a b c).sum
 | .node (.node a b c) x .nil=>QM (Tr.node a b c).sum x.sum
 | .node (.node a b c) x (.node d e f)=>QM (QM (Tr.node a b c).sum x.sum) (Tr.node d e f).sum
def Qjg (l:Tr)(x:Pc):Sums:=match l with | .nil=>x.sum | .node .. => QM l.sum x.sum
def Qsm (s:Sums)(r:Tr):Sums:=match r with | .nil=>s | .node .. => QM s r.sum
theorem Tr.sum_node (l:Tr)(x:Pc)(r:Tr):(Tr.node l x r).sum=Qsm (Qjg l x) r:=by
 cases l<;>cases r<;>simp only[Qjg,Qsm,Tr.sum]
def Tr.list:Tr->List Pc
 | .nil=>[]
 | .node l x r=>l.list++x::r.list
def Qef (al ar:Option Addr)(x:Pc)(size tall:Int)(s:Sums):Array Value:=
 #[.pointer al,.pointer ar,.slice x.A x.n x.c,.int .i64 x.tag,.int .i64 x.sum.atoms,.int .i64 x.sum.bytes,.int .i64 x.sum.breaks,.bool x.sum.lf,.bool x.sum.cr,.int .i64 size,.int .i64 tall,
  .int .i64 s.atoms,.int .i64 s.bytes,.int .i64 s.breaks,.bool s.lf,.bool s.cr]
def NodeAt (w:World):Tr->Option Addr->Prop
 | .nil,a=>a=none
 | .node l x r,a=>∃b al ar,a=some ⟨b,0,none⟩/\Blk w b 147 (Qef al ar x (Tr.node l x r).size (Tr.node l x r).tall (Tr.node l x r).sum)/\NodeAt w l al/\NodeAt w r ar
theorem NodeAt.below {w w':World}(d:ZB w w') : ∀(t:Tr) (a:Option Addr),NodeAt w t a->NodeAt w' t a:=by
 intro t
 induction t with
 |nil=>intro a h;exact h
 |node l x r ihl ihr=>
  rintro a ⟨b,al,ar,e,h,c,f⟩
  exact⟨b,al,ar,e,h.below d,ihl al c,ihr ar f⟩
theorem Qbr (t:Tr)(a:Option Addr)(w:World)(h:NodeAt w t a) :
  Calls Tryz.prog 142 #[.pointer a] w fun e w'=>e=.returned (.int .i64 t.size)/\w=w':=by
 cases t with
 |nil=>
  cases h
  go_enter Tryz.func142,Tryz.ntmps142
  go_wp2
  go_ret
  exact⟨rfl,rfl⟩
 |node l x r=>
  obtain⟨b,al,ar,rfl,c,_,_⟩:=h
  have c0:=c.cell 9
  simp[Qef] at c0
  go_enter Tryz.func142,Tryz.ntmps142
  go_wp2
  go_ret
  exact⟨rfl,rfl⟩
theorem QbX (t:Tr)(a:Option Addr)(w:World)(h:NodeAt w t a) :
  Calls Tryz.prog 187 #[.pointer a] w fun e w'=>e=.returned (.int .i64 t.tall)/\w=w':=by
 cases t with
 |nil=>
  cases h
  go_enter Tryz.func187,Tryz.ntmps187
  go_wp2
  go_ret
  exact⟨rfl,rfl⟩
 |node l x r=>
  obtain⟨b,al,ar,rfl,c,_,_⟩:=h
  have c0:=c.cell 10
  simp[Qef] at c0
  go_enter Tryz.func187,Tryz.ntmps187
  go_wp2
  go_ret
  exact⟨rfl,rfl⟩
def sz8 (a:Int):Int:=if a < -256\/(-129<a/\a<0)\/1114111<a\/(55296<=a/\a<=57343) then 0 else if a<128 then 1 else if a<2048 then 2 else if a<65536 then 3 else 4
def Qfb (a:Int):Int:=if a < -256\/1114111<a then 0 else if a<0 then 1 else if a<65536 then 2 else 4
def szL (a:Int):Int:=if a<0\/255<a then 0 else 1
def szA (enc a:Int):Int:=if enc=1 then sz8 a else if enc=2 then Qfb a else if enc=3 then Qfb a else szL a
def Qhk (a:Int):List Int:=
 if a<0 then [-1-a] else if a<128 then [a] else if a<2048 then [192+a / 64,128+a % 64] else if a<65536 then [224+a / 4096,128+a / 64 % 64,128+a % 64] else [240+a / 262144,128+a / 4096 % 64,128+a / 64 % 64,128+a % 64]
def QaH (o u:Int):List Int:=if o=0 then [u % 256,u / 256 % 256] else [u / 256 % 256,u % 256]
def Qdr (o a:Int):List Int:=if a<0 then [-1-a] else if a<65536 then QaH o a else QaH o (55296+(a-65536) / 1024)++QaH o (56320+a % 1024)
def Qc1 (enc a:Int):List Int:=if enc=1 then Qhk a else if enc=2 then Qdr 0 a else if enc=3 then Qdr 1 a else [a]
def QfU (a:Int):Prop:=0<=a/\¬(55296<=a/\a<=57343)
theorem QoT (a:Int)(h:0<sz8 a):((Qhk a).length:Int)=sz8 a/\Byt (Qhk a):=by
 unfold sz8 at h ⊢
 unfold Qhk
 split at h
 ·omega
 ·rename_i c
  rw[if_neg c]
  (repeat' split)<;>(refine⟨by simp<;>omega,fun x b=>?_⟩;simp at b;omega)
theorem Qbe (o u:Int):(QaH o u).length=2/\Byt (QaH o u):=by
 unfold QaH
 split<;>(refine⟨rfl,fun x a=>?_⟩;simp at a;omega)
theorem Qia (o a:Int)(h:0<Qfb a):((Qdr o a).length:Int)=Qfb a/\Byt (Qdr o a):=by
 unfold Qfb at h ⊢
 unfold Qdr
 split at h
 ·omega
 ·rename_i d
  rw[if_neg d]
  have h1:=Qbe o a
  have h2:=Qbe o (55296+(a-65536) / 1024)
  have c:=Qbe o (56320+a % 1024)
  split
  ·refine⟨rfl,fun x b=>?_⟩
   simp at b
   omega
  ·split
   ·exact⟨by rw[h1.1];rfl,h1.2⟩
   ·refine⟨by rw[List.length_append,h2.1,c.1];rfl,fun x b=>?_⟩
    rcases List.mem_append.1 b with b|b
    ·exact h2.2 x b
    ·exact c.2 x b
theorem Qdj (enc a:Int)(h:0<szA enc a):((Qc1 enc a).length:Int)=szA enc a/\Byt (Qc1 enc a):=by
 unfold szA at h ⊢
 unfold Qc1
 split
 ·rename_i h1;rw[if_pos h1] at h;exact QoT a h
 ·rename_i h1
  rw[if_neg h1] at h
  split
  ·rename_i h2;rw[if_pos h2] at h;exact Qia 0 a h
  ·rename_i h2
   rw[if_neg h2] at h
   split
   ·rename_i b;rw[if_pos b] at h;exact Qia 1 a h
   ·rename_i b
    rw[if_neg b] at h
    unfold szL at h ⊢
    split at h
    ·omega
    ·rename_i d
     rw[if_neg d]
     refine⟨rfl,fun x c=>?_⟩
     simp at c
     omega
theorem Qle (a:Int)(rest:List Int)(h:0<sz8 a)(hp:QfU a\/rest=[]):QcH (Qhk a++rest)=a/\Qbj (Qhk a++rest)=sz8 a:=by
 unfold QfU at hp
 unfold sz8 at h ⊢
 split at h
 ·omega
 ·rename_i n
  rw[if_neg n]
  unfold Qhk
  by_cases h1:a<0
  ·rw[if_pos h1,if_pos (by omega)]
   obtain rfl:rest=[]:=hp.resolve_left (by omega)
   obtain⟨b,m⟩:=ZN (-1-a)
   have f:Qey [b]=true:=by
    unfold Qey Qar
    rw[decide_eq_true_eq]
    simp only[List.getD_cons_zero,List.length_cons,List.length_nil]
    have:=Qhl b
    by_cases h2:bdN b<2
    ·left
     unfold bdN at h2 ⊢
     (repeat' split at h2)<;>(repeat' split)<;>omega
    ·right
     rw[if_neg h2,if_pos (.inl (by omega))]
     omega
   unfold QcH Qbj
   rw[m]
   simp only[List.append_nil]
   rw[f]
   simp
   omega
  ·rw[if_neg h1]
   have l : ¬(55296<=a/\a<=57343):=by omega
   by_cases h2:a<128
   ·rw[if_pos h2,if_pos h2]
    have e:bdN a=1:=by unfold bdN;rw[if_pos h2]
    have f:Qey ([a]++rest)=false:=by
     unfold Qey Qar
     simp only[List.cons_append,List.nil_append,List.getD_cons_zero,e]
     simp
    unfold QcH Qbj Qcp
    rw[f]
    simp[e,Qb5]
   ·rw[if_neg h2,if_neg h2]
    by_cases h3:a<2048
    ·rw[if_pos h3,if_pos h3]
     have e:bdN (192+a / 64)=2:=by unfold bdN;rw[if_neg (by omega),if_neg (by omega),if_pos (by omega)]
     have k:QdF (192+a / 64)=128:=by unfold QdF;rw[if_neg (by omega),if_pos (by omega)]
     have i:QdE (192+a / 64)=191:=by unfold QdE;rw[if_neg (by omega),if_pos (by omega)]
     have f:Qey ([192+a / 64,128+a % 64]++rest)=false:=by
      unfold Qey Qar
      simp only[List.cons_append,List.nil_append,List.getD_cons_zero,List.getD_cons_succ,e,k,i,List.length_cons]
      rw[if_neg (by omega),if_neg (by omega)]
      simp only[decide_eq_false_iff_not]
      omega
     unfold QcH Qbj Qcp
     rw[f]
     simp only[List.cons_append,List.nil_append,List.getD_cons_zero,e,List.drop_succ_cons,List.drop_zero,Bool.false_eq_true,if_false]
     simp[Qb5,QkI]
     omega
    ·rw[if_neg h3,if_neg h3]
     by_cases h4:a<65536
     ·rw[if_pos h4,if_pos h4]
      obtain⟨c,j⟩:=ZN (224+a / 4096)
      obtain⟨d,g⟩:=ZN (128+a / 64 % 64)
      have e:bdN c=3:=by unfold bdN;rw[if_neg (by omega),if_neg (by omega),if_neg (by omega),if_pos (by omega)]
      have k:QdF c<=d:=by unfold QdF;(repeat' split)<;>omega
      have i:d<=QdE c:=by unfold QdE;(repeat' split)<;>omega
      have f:Qey ([c,d,128+a % 64]++rest)=false:=by
       unfold Qey Qar
       simp only[List.cons_append,List.nil_append,List.getD_cons_zero,List.getD_cons_succ,e,List.length_cons,List.drop_succ_cons,List.drop_zero]
       rw[if_neg (by omega),if_neg (by omega),show ((3:Int)-2).toNat=1 by rfl]
       rw[decide_eq_false_iff_not]
       simp only[Qao]
       rw[if_pos (by omega)]
       omega
      rw[j,g]
      unfold QcH Qbj Qcp
      rw[f]
      simp only[List.cons_append,List.nil_append,List.getD_cons_zero,e,List.drop_succ_cons,List.drop_zero,Bool.false_eq_true,if_false]
      simp[Qb5,QkI]
      omega
     ·rw[if_neg h4,if_neg h4]
      obtain⟨c,j⟩:=ZN (240+a / 262144)
      obtain⟨d,g⟩:=ZN (128+a / 4096 % 64)
      have e:bdN c=4:=by unfold bdN;rw[if_neg (by omega),if_neg (by omega),if_neg (by omega),if_neg (by omega),if_pos (by omega)]
      have k:QdF c<=d:=by unfold QdF;(repeat' split)<;>omega
      have i:d<=QdE c:=by unfold QdE;(repeat' split)<;>omega
      have f:Qey ([c,d,128+a / 64 % 64,128+a % 64]++rest)=false:=by
       unfold Qey Qar
       simp only[List.cons_append,List.nil_append,List.getD_cons_zero,List.getD_cons_succ,e,List.length_cons,List.drop_succ_cons,List.drop_zero]
       rw[if_neg (by omega),if_neg (by omega),show ((4:Int)-2).toNat=2 by rfl]
       rw[decide_eq_false_iff_not]
       simp only[Qao]
       rw[if_pos (by omega),if_pos (by omega)]
       omega
      rw[j,g]
      unfold QcH Qbj Qcp
      rw[f]
      simp only[List.cons_append,List.nil_append,List.getD_cons_zero,e,List.drop_succ_cons,List.drop_zero,Bool.false_eq_true,if_false]
      simp[Qb5,QkI]
      omega
theorem Qfe (o u:Int)(rest:List Int)(a:o=0\/o=1)(b:0<=u)(h1:u<65536):Qa4 o (QaH o u++rest)=u:=by
 unfold Qa4 QaH
 rcases a with rfl|rfl
 ·simp
  omega
 ·simp
  omega
theorem Qfd (o a:Int)(rest:List Int)(f:o=0\/o=1)(h:0<Qfb a)(hp:QfU a\/rest=[]):Qbc o (Qdr o a++rest)=a/\Qaf o (Qdr o a++rest)=Qfb a:=by
 unfold QfU at hp
 unfold Qfb at h ⊢
 split at h
 ·omega
 ·rename_i m
  rw[if_neg m]
  unfold Qdr
  by_cases h1:a<0
  ·rw[if_pos h1,if_pos h1]
   obtain rfl:rest=[]:=hp.resolve_left (by omega)
   unfold Qbc Qaf
   simp
   omega
  ·rw[if_neg h1,if_neg h1]
   by_cases h2:a<65536
   ·rw[if_pos h2,if_pos h2]
    have e:=Qfe o a rest f (by omega) h2
    have i:=(Qbe o a).1
    have c:QbR o (QaH o a++rest)=false:=by
     unfold QbR
     rw[e]
     rcases hp with hp|hp
     ·have:Qfy a=false:=by unfold Qfy;rw[decide_eq_false_iff_not];omega
      rw[this]
      rfl
     ·subst hp
      rw[List.append_nil,i]
      simp
    unfold Qbc Qaf
    rw[c,e,List.length_append,i,if_neg (show ¬2+rest.length=1 by omega),if_neg (show ¬2+rest.length=1 by omega)]
    simp
   ·rw[if_neg h2,if_neg h2]
    obtain⟨u,e⟩:=ZN (55296+(a-65536) / 1024)
    obtain⟨v,l⟩:=ZN (56320+a % 1024)
    rw[e,l]
    have b:=(Qbe o u).1
    have d:=(Qbe o v).1
    have j:=Qfe o u (QaH o v++rest) f (by omega) (by omega)
    have k:=Qfe o v rest f (by omega) (by omega)
    have g:(QaH o u++QaH o v++rest).drop 2=QaH o v++rest:=by
     rw[List.append_assoc,List.drop_append,b,List.drop_eq_nil_of_le (by omega)]
     simp
    have c:QbR o (QaH o u++QaH o v++rest)=true:=by
     unfold QbR
     rw[g,List.append_assoc,j,k,List.length_append,List.length_append,b,d]
     have p:Qfy u=true:=by unfold Qfy;rw[decide_eq_true_eq];omega
     have n:Qod v=true:=by unfold Qod;rw[decide_eq_true_eq];omega
     rw[p,n]
     simp
     omega
    unfold Qbc Qaf
    rw[c,g,k,List.append_assoc,j,List.length_append,List.length_append,b,d,if_neg (show ¬2+(2+rest.length)=1 by omega),if_neg (show ¬2+(2+rest.length)=1 by omega)]
    simp
    omega
theorem QnR (enc a:Int)(rest:List Int)(b:enc=1\/enc=2\/enc=3\/enc=4)(h:0<szA enc a)(hp:QfU a\/rest=[]):Qa8 enc (Qc1 enc a++rest)=a/\QB enc (Qc1 enc a++rest)=szA enc a:=by
 unfold szA at h ⊢
 unfold Qa8 QB Qc1
 rcases b with rfl|rfl|rfl|rfl
 ·exact Qle a rest h hp
 ·exact Qfd 0 a rest (.inl rfl) h hp
 ·exact Qfd 1 a rest (.inr rfl) h hp
 ·refine⟨?_,?_⟩
  ·simp[Qma]
  ·simp at h ⊢
   unfold szL at h ⊢
   split at h
   ·omega
   ·rename_i c;rw[if_neg c]
theorem QlO (enc a:Int)(rest:List Int)(b:enc=1\/enc=2\/enc=3\/enc=4)(h:0<szA enc a)(hp:QfU a\/rest=[]):dec enc (Qc1 enc a++rest)=(a,szA enc a)::dec enc rest:=by
 have h1:=QnR enc a rest b h hp
 have h2:=Qdj enc a h
 rw[QaN enc _ (by rw[List.length_append];omega),h1.1,h1.2]
 congr 2
 rw[List.drop_append]
 rw[show (szA enc a).toNat=(Qc1 enc a).length by omega]
 simp
def QF (enc:Int)(xs:List Int):List Int:=xs.flatMap (Qc1 enc)
theorem QaW (enc:Int):QF enc []=[]:=rfl
theorem Qcm (enc a:Int)(xs:List Int):QF enc (a::xs)=Qc1 enc a++QF enc xs:=List.flatMap_cons
theorem QcD (enc:Int)(xs bs:List Int):QF enc (xs++bs)=QF enc xs++QF enc bs:=List.flatMap_append
def Fit (enc:Int)(xs:List Int):Prop:=∀a ∈ xs,0<szA enc a
def Qat (enc:Int)(xs:List Int):List (Int × Int):=xs.map fun a=>(a,szA enc a)
theorem QoY (enc:Int)(d:enc=1\/enc=2\/enc=3\/enc=4) : ∀xs:List Int,Fit enc xs->(∀a ∈ xs,QfU a)->dec enc (QF enc xs)=Qat enc xs:=by
 intro xs
 induction xs with
 |nil=>intro _ _;rfl
 |cons a xs ih=>
  intro c hp
  rw[Qcm,QlO enc a _ d (c a List.mem_cons_self) (.inl (hp a List.mem_cons_self)),ih (fun x b=>c x (List.mem_cons_of_mem _ b)) (fun x b=>hp x (List.mem_cons_of_mem _ b))]
  rfl
theorem QoG (enc a:Int)(b:enc=1\/enc=2\/enc=3\/enc=4)(h:0<szA enc a):dec enc (Qc1 enc a)=[(a,szA enc a)]:=by
 have:=QlO enc a [] b h (.inr rfl)
 rwa [List.append_nil] at this
theorem Qj9 (enc:Int)(xs:List Int)(c:Fit enc xs):Byt (QF enc xs):=by
 intro x b
 obtain⟨a,d,b⟩:=List.mem_flatMap.1 b
 exact(Qdj enc a (c a d)).2 x b
theorem QjP (enc:Int)(xs:List Int)(b:Fit enc xs):((QF enc xs).length:Int)=((Qat enc xs).map Prod.snd).sum:=by
 induction xs with
 |nil=>rfl
 |cons a xs ih=>
  have h1:=(Qdj enc a (b a List.mem_cons_self)).1
  have h2:=ih (fun x c=>b x (List.mem_cons_of_mem _ c))
  rw[Qcm,List.length_append]
  unfold Qat at h2 ⊢
  rw[List.map_cons,List.map_cons,List.sum_cons,<-h2]
  dsimp only
  omega
theorem Qqe (enc a:Int):0<=szA enc a/\szA enc a<=4:=by
 unfold szA sz8 Qfb szL
 (repeat' split)<;>omega
def QaK (l:List Int)(n:Nat):Int:=
 if n=1 then l.getD 0 0 else if n=2 then (l.getD 0 0-192)*64+l.getD 1 0-128 else if n=3 then ((l.getD 0 0-224)*64+l.getD 1 0-128)*64+l.getD 2 0-128
 else (((l.getD 0 0-240)*64+l.getD 1 0-128)*64+l.getD 2 0-128)*64+l.getD 3 0-128
def QbJ (a:Int):Bool:=decide (0<=a/\a<55296) || decide (57343<a/\a<=1114111)
def Qa9 (a:Int):List Int:=
 if a<128 then [a] else if a<2048 then [192+a / 64,128+a % 64] else if a<65536 then [224+a / 4096,128+a / 64 % 64,128+a % 64] else [240+a / 262144,128+a / 4096 % 64,128+a / 64 % 64,128+a % 64]
def okR (l:List Int)(n:Nat):Bool:=decide (n<=l.length) && QbJ (QaK l n) && (Qa9 (QaK l n)==l.take n)
def QlJ (l:List Int):Int × Int:=if okR l 1=true then (QaK l 1,1) else if okR l 2=true then (QaK l 2,2) else if okR l 3=true then (QaK l 3,3) else if okR l 4=true then (QaK l 4,4) else (-1-l.getD 0 0,1)
theorem Qs2 {l:List Int}(a:Byt l)(b:0<l.length):okR l 1=decide (l.getD 0 0<128):=by
 obtain⟨x0,r,rfl⟩:∃x r,l=x::r:=by cases l with|nil=>simp at b|cons x r=>exact⟨x,r,rfl⟩
 have c:=a x0 (by simp)
 rw[Bool.eq_iff_iff]
 simp only[okR,QaK,QbJ,Qa9,List.getD_cons_zero,Bool.and_eq_true,Bool.or_eq_true,decide_eq_true_eq,beq_iff_eq,List.length_cons,if_pos]
 constructor
 ·rintro⟨⟨_,h1⟩,h2⟩
  split at h2
  ·assumption
  ·exfalso
   (repeat' split at h2)<;>simp at h2
 ·intro h
  rw[if_pos h]
  exact⟨⟨by omega,by omega⟩,by simp⟩
theorem Qs9 {l:List Int}(b:Byt l):okR l 2=decide (2<=l.length/\194<=l.getD 0 0/\l.getD 0 0<224/\128<=l.getD 1 0/\l.getD 1 0<192):=by
 rcases Nat.lt_or_ge l.length 2 with h|h
 ·rw[Bool.eq_iff_iff]
  simp only[okR,Bool.and_eq_true,decide_eq_true_eq]
  exact⟨fun a=>absurd a.1.1 (by omega),fun a=>absurd a.1 (by omega)⟩
 obtain⟨x0,c,r,rfl⟩:∃x y r,l=x::y::r:=by
  match l,h with
  |x::y::r,_=>exact⟨x,y,r,rfl⟩
 have g:=b x0 (by simp)
 have e:=b c (by simp)
 rw[Bool.eq_iff_iff]
 simp only[okR,QaK,QbJ,Qa9,List.getD_cons_zero,List.getD_cons_succ,Bool.and_eq_true,Bool.or_eq_true,decide_eq_true_eq,beq_iff_eq,List.length_cons,List.take_succ_cons,List.take_zero]
 simp only[show (2:Nat)=1↔False by decide,if_false,if_true]
 constructor
 ·rintro⟨⟨_,h1⟩,h2⟩
  (repeat' split at h2)<;>simp at h2
  omega
 ·rintro⟨h1,h2,i,f,d⟩
  rw[if_neg (by omega),if_pos (by omega)]
  refine⟨⟨by omega,by omega⟩,?_⟩
  simp
  omega
theorem QsV {l:List Int}(a:Byt l):okR l 3=decide (3<=l.length/\224<=l.getD 0 0/\l.getD 0 0<240/\128<=l.getD 1 0/\l.getD 1 0<192/\(l.getD 0 0=224->160<=l.getD 1 0)/\(l.getD 0 0=237->l.getD 1 0<160)/\128<=l.getD 2 0/\l.getD 2 0<192):=by
 rcases Nat.lt_or_ge l.length 3 with h|h
 ·rw[Bool.eq_iff_iff]
  simp only[okR,Bool.and_eq_true,decide_eq_true_eq]
  exact⟨fun b=>absurd b.1.1 (by omega),fun b=>absurd b.1 (by omega)⟩
 obtain⟨x0,c,d,r,rfl⟩:∃x y z r,l=x::y::z::r:=by
  match l,h with
  |x::y::z::r,_=>exact⟨x,y,z,r,rfl⟩
 have m:=a x0 (by simp)
 have i:=a c (by simp)
 have o:=a d (by simp)
 rw[Bool.eq_iff_iff]
 simp only[okR,QaK,QbJ,Qa9,List.getD_cons_zero,List.getD_cons_succ,Bool.and_eq_true,Bool.or_eq_true,decide_eq_true_eq,beq_iff_eq,List.length_cons,List.take_succ_cons,List.take_zero]
 simp only[show (3:Nat)=1↔False by decide,show (3:Nat)=2↔False by decide,if_false,if_true]
 constructor
 ·rintro⟨⟨_,h1⟩,h2⟩
  (repeat' split at h2)<;>simp at h2
  omega
 ·rintro⟨h1,h2,n,k,f,g,j,e,p⟩
  rw[if_neg (by omega),if_neg (by omega),if_pos (by omega)]
  refine⟨⟨by omega,by omega⟩,?_⟩
  simp
  omega
theorem Qs0 {l:List Int}(a:Byt l):okR l 4=decide (4<=l.length/\240<=l.getD 0 0/\l.getD 0 0<=244/\128<=l.getD 1 0/\l.getD 1 0<192/\(l.getD 0 0=240->144<=l.getD 1 0)/\(l.getD 0 0=244->l.getD 1 0<144)/\128<=l.getD 2 0/\l.getD 2 0<192/\128<=l.getD 3 0/\l.getD 3 0<192):=by
 rcases Nat.lt_or_ge l.length 4 with h|h
 ·rw[Bool.eq_iff_iff]
  simp only[okR,Bool.and_eq_true,decide_eq_true_eq]
  exact⟨fun b=>absurd b.1.1 (by omega),fun b=>absurd b.1 (by omega)⟩
 obtain⟨x0,c,f,g,r,rfl⟩:∃x y z u r,l=x::y::z::u::r:=by
  match l,h with
  |x::y::z::u::r,_=>exact⟨x,y,z,u,r,rfl⟩
 have q:=a x0 (by simp)
 have n:=a c (by simp)
 have t:=a f (by simp)
 have v:=a g (by simp)
 rw[Bool.eq_iff_iff]
 simp only[okR,QaK,QbJ,Qa9,List.getD_cons_zero,List.getD_cons_succ,Bool.and_eq_true,Bool.or_eq_true,decide_eq_true_eq,beq_iff_eq,List.length_cons,List.take_succ_cons,List.take_zero]
 simp only[show (4:Nat)=1↔False by decide,show (4:Nat)=2↔False by decide,show (4:Nat)=3↔False by decide,if_false]
 constructor
 ·rintro⟨⟨_,h1⟩,h2⟩
  (repeat' split at h2)<;>simp at h2
  omega
 ·rintro⟨h1,h2,s,p,j,k,o,i,m,d,e⟩
  rw[if_neg (by omega),if_neg (by omega),if_neg (by omega)]
  refine⟨⟨by omega,by omega⟩,?_⟩
  simp
  omega
theorem QnF (l:List Int):Qao 1 l=if 1<=l.length/\128<=l.getD 0 0/\l.getD 0 0<192 then 1 else 0:=by
 cases l with
 |nil=>simp[Qao]
 |cons c r=>simp[Qao]
theorem QmL (l:List Int):Qao 2 l=if 2<=l.length/\128<=l.getD 0 0/\l.getD 0 0<192/\128<=l.getD 1 0/\l.getD 1 0<192 then 2 else if 1<=l.length/\128<=l.getD 0 0/\l.getD 0 0<192 then 1 else 0:=by
 match l with
 | []=>simp[Qao]
 | [c]=>
  simp only[Qao]
  split<;>simp_all
 |c::d::r=>
  simp only[Qao,List.getD_cons_zero,List.getD_cons_succ,List.length_cons]
  by_cases h1:128<=c/\c<192<;>by_cases h2:128<=d/\d<192
  ·rw[if_pos h1,if_pos h2,if_pos ⟨by omega,by omega,by omega,by omega,by omega⟩]
  ·rw[if_pos h1,if_neg h2,if_neg (by omega),if_pos ⟨by omega,by omega,by omega⟩]
  ·rw[if_neg h1,if_neg (by omega),if_neg (by omega)]
  ·rw[if_neg h1,if_neg (by omega),if_neg (by omega)]
theorem Qa2 (l:List Int)(n k:Nat):(l.drop n).getD k 0=l.getD (n+k) 0:=by
 rw[List.getD_eq_getElem?_getD,List.getElem?_drop,List.getD_eq_getElem?_getD]
theorem Qqo {l:List Int}(c:Byt l)(y:0<l.length):QlJ l=(QcH l,Qbj l):=by
 have D:=c.at_ 0
 have C:=c.at_ 1
 have F:=c.at_ 2
 have E:=c.at_ 3
 have m:bdN (l.getD 0 0)=1->Qcp l=l.getD 0 0:=fun h=>by
  unfold Qcp Qb5
  rw[h]
  simp
 have j:bdN (l.getD 0 0)=2->2<=l.length->Qcp l=l.getD 0 0 % 32*64+l.getD 1 0 % 64:=fun h s=>by
  unfold Qcp Qb5
  rw[h,Qbk l 1 (by omega)]
  simp[QkI]
 have k:bdN (l.getD 0 0)=3->3<=l.length->Qcp l=(l.getD 0 0 % 16*64+l.getD 1 0 % 64)*64+l.getD 2 0 % 64:=fun h s=>by
  unfold Qcp Qb5
  rw[h,Qbk l 1 (by omega),Qbk l 2 (by omega)]
  simp[QkI]
 have i:bdN (l.getD 0 0)=4->4<=l.length->Qcp l=((l.getD 0 0 % 8*64+l.getD 1 0 % 64)*64+l.getD 2 0 % 64)*64+l.getD 3 0 % 64:=fun h s=>by
  unfold Qcp Qb5
  rw[h,Qbk l 1 (by omega),Qbk l 2 (by omega),Qbk l 3 (by omega)]
  simp[QkI]
 have c1:=QnF (l.drop 2)
 have c2:=QmL (l.drop 2)
 rw[Qa2] at c1 c2
 rw[Qa2,List.length_drop] at c2
 rw[List.length_drop] at c1
 simp only[Nat.add_zero] at c1 c2
 have r:=Qs2 c y
 have p:=Qs9 c
 have o:=QsV c
 have u:=Qs0 c
 have t:QaK l 1=l.getD 0 0:=rfl
 have m2:QaK l 2=(l.getD 0 0-192)*64+l.getD 1 0-128:=rfl
 have q:QaK l 3=((l.getD 0 0-224)*64+l.getD 1 0-128)*64+l.getD 2 0-128:=rfl
 have w:QaK l 4=(((l.getD 0 0-240)*64+l.getD 1 0-128)*64+l.getD 2 0-128)*64+l.getD 3 0-128:=rfl
 unfold QlJ QcH Qbj Qey Qar
 rw[r,p,o,u,t,m2,q,w]
 clear t m2 q w r p o u
 generalize Qcp l=V at *
 generalize hD1:Qao 1 (l.drop 2)=A at *
 generalize hD2:Qao 2 (l.drop 2)=z at *
 generalize l.getD 0 0=x0 at *
 generalize l.getD 1 0=x1 at *
 generalize l.getD (2+1) 0=x3 at *
 generalize l.getD 2 0=x2 at *
 generalize l.length=n at *
 simp only[decide_eq_true_eq]
 rcases Int.lt_or_le x0 128 with h1|h1
 ·have e:bdN x0=1:=by unfold bdN;(repeat' split)<;>omega
  rw[e,if_pos h1,m e]
  simp
 ·rcases Int.lt_or_le x0 194 with h2|h2
  ·have e:bdN x0=0:=by unfold bdN;(repeat' split)<;>omega
   rw[e,if_neg (by omega),if_neg (by omega),if_neg (by omega),if_neg (by omega)]
   simp
  ·rcases Int.lt_or_le x0 224 with v|v
   ·have e:bdN x0=2:=by unfold bdN;(repeat' split)<;>omega
    have elo:QdF x0=128:=by unfold QdF;(repeat' split)<;>omega
    have ehi:QdE x0=191:=by unfold QdE;(repeat' split)<;>omega
    rw[e,elo,ehi,if_neg (show ¬x0<128 by omega)]
    by_cases hc:2<=n/\128<=x1/\x1<192
    ·rw[if_pos ⟨hc.1,h2,v,hc.2⟩,j e hc.1]
     rw[if_neg (show ¬((2:Int)<2) by omega),if_neg (show ¬(n<2\/x1<128\/191<x1) by omega)]
     simp[Qao]
     omega
    ·rw[if_neg (by omega),if_neg (by omega),if_neg (by omega)]
     rw[if_neg (show ¬((2:Int)<2) by omega),if_pos (show (n<2\/x1<128\/191<x1) by omega)]
     simp
   ·rcases Int.lt_or_le x0 240 with B|B
    ·have e:bdN x0=3:=by unfold bdN;(repeat' split)<;>omega
     have g:(x0=224/\QdF x0=160)\/(x0≠224/\QdF x0=128):=by unfold QdF;(repeat' split)<;>omega
     have d:(x0=237/\QdE x0=159)\/(x0≠237/\QdE x0=191):=by unfold QdE;(repeat' split)<;>omega
     generalize QdF x0=lo at *
     generalize QdE x0=hi at *
     have f:((3:Int)-2).toNat=1:=by decide
     rw[e,f,hD1,if_neg (show ¬x0<128 by omega),if_neg (show ¬(2<=n/\194<=x0/\x0<224/\128<=x1/\x1<192) by omega)]
     by_cases hc:3<=n/\224<=x0/\x0<240/\128<=x1/\x1<192/\(x0=224->160<=x1)/\(x0=237->x1<160)/\128<=x2/\x2<192
     ·rw[if_pos hc,k e hc.1]
      have b : ¬(n<2\/x1<lo\/hi<x1):=by omega
      rw[if_neg (show ¬((3:Int)<2) by omega),if_neg b]
      rw[if_pos (by omega)] at c1
      rw[c1,if_neg (by simp)]
      simp
      omega
     ·rw[if_neg hc,if_neg (by omega)]
      have a:(if (3:Int)<2 then 3 else if n<2\/x1<lo\/hi<x1 then 1 else 2+(A:Int))<3:=by
       rw[if_neg (by omega)]
       by_cases b:n<2\/x1<lo\/hi<x1
       ·rw[if_pos b];omega
       ·rw[if_neg b,c1,if_neg (by omega)]
        omega
      rw[if_pos (Or.inr a),if_pos (Or.inr a)]
    ·rcases Int.lt_or_le 244 x0 with x|x
     ·have e:bdN x0=0:=by unfold bdN;(repeat' split)<;>omega
      rw[e,if_neg (by omega),if_neg (by omega),if_neg (by omega),if_neg (by omega)]
      simp
     ·have e:bdN x0=4:=by unfold bdN;(repeat' split)<;>omega
      have g:(x0=240/\QdF x0=144)\/(x0≠240/\QdF x0=128):=by unfold QdF;(repeat' split)<;>omega
      have d:(x0=244/\QdE x0=143)\/(x0≠244/\QdE x0=191):=by unfold QdE;(repeat' split)<;>omega
      generalize QdF x0=lo at *
      generalize QdE x0=hi at *
      have f:((4:Int)-2).toNat=2:=by decide
      rw[e,f,hD2,if_neg (show ¬x0<128 by omega),if_neg (show ¬(2<=n/\194<=x0/\x0<224/\128<=x1/\x1<192) by omega),if_neg (show ¬(3<=n/\224<=x0/\x0<240/\128<=x1/\x1<192/\(x0=224->160<=x1)/\(x0=237->x1<160)/\128<=x2/\x2<192) by omega)]
      by_cases hc:4<=n/\240<=x0/\x0<=244/\128<=x1/\x1<192/\(x0=240->144<=x1)/\(x0=244->x1<144)/\128<=x2/\x2<192/\128<=x3/\x3<192
      ·rw[if_pos hc,i e hc.1]
       have b : ¬(n<2\/x1<lo\/hi<x1):=by omega
       rw[if_neg (show ¬((4:Int)<2) by omega),if_neg b]
       rw[if_pos (by omega)] at c2
       rw[c2,if_neg (by simp)]
       simp
       omega
      ·rw[if_neg hc]
       have a:(if (4:Int)<2 then 4 else if n<2\/x1<lo\/hi<x1 then 1 else 2+(z:Int))<4:=by
        rw[if_neg (by omega)]
        by_cases b:n<2\/x1<lo\/hi<x1
        ·rw[if_pos b];omega
        ·rw[if_neg b,c2,if_neg (by omega)]
         split<;>omega
       rw[if_pos (Or.inr a),if_pos (Or.inr a)]
def QV (o:Int)(l:List Int):Int:=if l.length<2 then -1 else Qa4 o l
def QhM (o:Int)(l:List Int):Int × Int:=
 if QV o l<0 then (-1-l.getD 0 0,1)
 else if 55296<=QV o l/\QV o l<56320/\56320<=QV o (l.drop 2)/\QV o (l.drop 2)<57344 then (65536+(QV o l-55296)*1024+QV o (l.drop 2)-56320,4) else (QV o l,2)
theorem Qki (o:Int){l:List Int}(b:Byt l)(f:0<l.length):QhM o l=(Qbc o l,Qaf o l):=by
 have h:=QcG o l b
 have g:=QcG o (l.drop 2) (b.drop 2)
 unfold QhM Qbc Qaf
 by_cases h1:l.length=1
 ·have e:QV o l = -1:=by unfold QV;rw[if_pos (by omega)]
  rw[e,if_pos (by omega),if_pos h1,if_pos h1]
 ·have e:QV o l=Qa4 o l:=by unfold QV;rw[if_neg (by omega)]
  rw[e,if_neg (by omega),if_neg h1,if_neg h1]
  have hp:QbR o l=decide (55296<=Qa4 o l/\Qa4 o l<56320/\56320<=QV o (l.drop 2)/\QV o (l.drop 2)<57344):=by
   unfold QbR QV Qfy Qod
   rw[List.length_drop,Bool.eq_iff_iff]
   simp only[Bool.and_eq_true,decide_eq_true_eq]
   by_cases h4:l.length-2<2
   ·rw[if_pos h4]
    omega
   ·rw[if_neg h4]
    omega
  rw[hp]
  simp only[decide_eq_true_eq]
  split
  ·rename_i a
   have d:QV o (l.drop 2)=Qa4 o (l.drop 2):=by
    unfold QV at a ⊢
    split
    ·rename_i c
     rw[if_pos c] at a
     omega
    ·rfl
   rw[d] at a ⊢
   refine Prod.ext ?_ rfl
   dsimp only
   omega
  ·rfl
def QiG (enc:Int)(l:List Int):Int × Int:=if enc=1 then QlJ l else if enc=4 then (l.getD 0 0,1) else if enc=2 then QhM 0 l else QhM 1 l
theorem Qoz {enc:Int}(c:enc=1\/enc=2\/enc=3\/enc=4){l:List Int}(a:Byt l)(b:0<l.length):QiG enc l=(Qa8 enc l,QB enc l):=by
 unfold QiG Qa8 QB
 rcases c with rfl|rfl|rfl|rfl
 ·exact Qqo a b
 ·exact Qki 0 a b
 ·exact Qki 1 a b
 ·rfl
theorem QfE (a:Int)(w:World):Calls Tryz.prog 192 #[.int .i64 a] w fun e w'=>e=.returned (.bool (QbJ a))/\w=w':=by
 go_enter Tryz.func192,Tryz.ntmps192
 go_wp2
 all_goals
  go_light
  go_ret
  refine⟨Qb3 ?_,rfl⟩
  unfold QbJ
  rw[Bool.eq_iff_iff]
  simp
  (try omega)
def Qj6 (l:List Int)(w:World)(e:Ending)(w':World):Prop:=∃v,e=.returned v/\w'.ownsRow w.heap.size 5 1 v l.length (l.map (Value.int .u8))/\ZB w w'
theorem Qb2 (l:List Int)(w:World)(a:l.length<=16):Qj6 l w (.returned (.slice (some ⟨w.heap.size,0,none⟩) l.length l.length)) (w.alloc (.cells (l.map (Value.int .u8)).toArray 5)):=by
 have h1:(l.map (Value.int .u8)).toArray.size=l.length*1:=by rw[List.size_toArray,List.length_map,Nat.mul_one]
 have h2:(l.map (Value.int .u8)).toArray.toList.take (l.length*1)=l.map (Value.int .u8):=by
  show (l.map (Value.int .u8)).take (l.length*1)=_
  exact List.take_of_length_le (by rw[List.length_map,Nat.mul_one];exact Nat.le_refl _)
 exact⟨_,rfl,⟨by rw[List.length_map,Nat.mul_one],.inr ⟨w.heap.size,l.length,(l.map (Value.int .u8)).toArray,rfl,Nat.le_refl _,heap_alloc_new _ _,Nat.le_refl _,by unfold maxLen;omega,h1,h2⟩⟩,Qa (Below.refl _ _)⟩
theorem u8_in (x:Int)(a:0<=x)(h1:x<256):IntKind.u8.wrap x=x:=IntWalk.u8_in x (by omega)
theorem Qlb (a:Int)(w:World)(h:0<=a)(h1:a<=1114111):Calls Tryz.prog 193 #[.int .i64 a] w fun e w'=>Qj6 (Qa9 a) w e w':=by
 by_cases c1:a<128
 ·have b:Qa9 a=[a]:=by unfold Qa9;rw[if_pos c1]
  have d:=u8_in a h (by omega)
  have hn:=Qb2 [a] w (by simp)
  rw[b]
  have c:=Zh hn
  clear hn b
  go_enter Tryz.func193,Tryz.ntmps193
  go_wp2
  go_ret
  exact c.out
 ·by_cases c2:a<2048
  ·have b:Qa9 a=[192+a / 64,128+a % 64]:=by unfold Qa9;rw[if_neg c1,if_pos c2]
   have d:=u8_in (192+a / 64) (by omega) (by omega)
   have f:=u8_in (128+a % 64) (by omega) (by omega)
   have hn:=Qb2 [192+a / 64,128+a % 64] w (by simp)
   rw[b]
   have c:=Zh hn
   clear hn b
   go_enter Tryz.func193,Tryz.ntmps193
   go_wp2
   go_ret
   exact c.out
  ·by_cases c3:a<65536
   ·have b:Qa9 a=[224+a / 4096,128+a / 64 % 64,128+a % 64]:=by unfold Qa9;rw[if_neg c1,if_neg c2,if_pos c3]
    have d:=u8_in (224+a / 4096) (by omega) (by omega)
    have f:=u8_in (128+a / 64 % 64) (by omega) (by omega)
    have g:=u8_in (128+a % 64) (by omega) (by omega)
    have hn:=Qb2 [224+a / 4096,128+a / 64 % 64,128+a % 64] w (by simp)
    rw[b]
    have c:=Zh hn
    clear hn b
    go_enter Tryz.func193,Tryz.ntmps193
    go_wp2
    go_ret
    exact c.out
   ·have b:Qa9 a=[240+a / 262144,128+a / 4096 % 64,128+a / 64 % 64,128+a % 64]:=by unfold Qa9;rw[if_neg c1,if_neg c2,if_neg c3]
    have d:=u8_in (240+a / 262144) (by omega) (by omega)
    have f:=u8_in (128+a / 4096 % 64) (by omega) (by omega)
    have g:=u8_in (128+a / 64 % 64) (by omega) (by omega)
    have i:=u8_in (128+a % 64) (by omega) (by omega)
    have hn:=Qb2 [240+a / 262144,128+a / 4096 % 64,128+a / 64 % 64,128+a % 64] w (by simp)
    rw[b]
    have c:=Zh hn
    clear hn b
    go_enter Tryz.func193,Tryz.ntmps193
    go_wp2
    go_ret
    exact c.out
def Qqm (l:List Int)(p:Nat)(x:List Int):Bool:=decide (p+x.length<=l.length/\∀i,i<x.length->l.getD (p+i) 0=x.getD i 0)
theorem Qrr (l:List Int)(p:Nat)(x:List Int)(h:p+x.length<=l.length):Qqm l p x=decide ((l.drop p).take x.length=x):=by
 unfold Qqm
 rw[Bool.eq_iff_iff]
 simp only[decide_eq_true_eq]
 constructor
 ·rintro⟨_,h2⟩
  apply List.ext_getElem?
  intro i
  rw[List.getElem?_take]
  by_cases a:i<x.length
  ·rw[if_pos a,List.getElem?_drop]
   have:=h2 i a
   rw[List.getD_eq_getElem?_getD,List.getD_eq_getElem?_getD,List.getElem?_eq_getElem (by omega),List.getElem?_eq_getElem a] at this
   simp at this
   rw[List.getElem?_eq_getElem (by omega),List.getElem?_eq_getElem a,this]
  ·rw[if_neg a,List.getElem?_eq_none (by omega)]
 ·intro h2
  refine⟨h,fun i a=>?_⟩
  have:=congrArg (fun y=>y.getD i 0) h2
  rw[List.getD_eq_getElem?_getD,List.getElem?_take,if_pos a,List.getElem?_drop,<-List.getD_eq_getElem?_getD] at this
  exact this
def Qtc (l x:List Int)(p:Nat)(w0:World)(k:Nat)(q:Value)(wr:World):Prop:=
 ∃i:Nat,q=.int .i64 (i:Int)/\i<=x.length/\x.length-i<=k/\Hid (∀j,j<i->l.getD (p+j) 0=x.getD j 0)/\ZB w0 wr
theorem Qjj (D D':Nat->Prop)(A y:Option Addr)(n c m c' p:Nat)(l x:List Int)(w:World)(t:Bts w D A n l)(u:Bts w D' y m x)(hn:n<=2147483648)(hm:m<=16)(hp:p<=n) :
  Calls Tryz.prog 194 #[.slice A n c,.int .i64 (p:Int),.slice y m c'] w fun e w'=>e=.returned (.bool (Qqm l p x))/\ZB w w':=by
 have E:=t.len
 have G:=u.len
 by_cases h1:p+m<=n
 ·have H:((n:Int)<(p:Int)+(m:Int))=False:=by simp;omega
  go_enter Tryz.func194,Tryz.ntmps194
  go_wp2_with fail
  go_loopg [7] m (fun k q wr=>Qtc l x p w k q wr)
  case atStart=>exact⟨0,rfl,Nat.zero_le _,by omega,Zh (fun j g=>absurd g (by omega)),Below.refl _ _⟩
  case round=>
   obtain⟨i,rfl,I,J,B,f⟩:=hrel
   by_cases hlt:i<m
   ·obtain⟨K,F,_,c1⟩:=Bts.at_ (Reads.below t f) (show p+i<n by omega)
    obtain⟨C,r,_,c2⟩:=Bts.at_ (Reads.below u f) hlt
    subst F
    subst r
    obtain⟨a,s⟩:=ZN (l.getD (p+i) 0)
    obtain⟨b,d⟩:=ZN (x.getD i 0)
    rw[s] at c1
    rw[d] at c2
    have v:=Zh s
    have z:=Zh d
    clear s d
    have L:IntKind.i64.wrap ((p:Int)+(i:Int))=((p+i:Nat):Int):=by rw[IntWalk.i64_in _ (by omega)];omega
    by_cases hab:a=b
    ·have o:(a != b)=false:=by simp[hab]
     go_wp2_with fail
     go_quiet (fail)
     go_wp2_with fail
     go_roundg (m-(i+1))
     case measure=>omega
     case rel=>
      refine⟨i+1,by go_num,by omega,by omega,Zh (fun j g=>?_),Q6 f _⟩
      rcases Nat.lt_or_ge j i with h|h
      ·exact B.out j h
      ·rw[show j=i by omega,v.out,z.out,hab]
    ·have o:(a != b)=true:=by simp[hab]
     go_wp2_with fail
     go_quiet (fail)
     go_wp2_with fail
     go_ret
     refine⟨Qb3 ?_,Q6 f _⟩
     symm
     unfold Qqm
     rw[decide_eq_false_iff_not]
     rintro⟨_,h2⟩
     apply hab
     rw[<-v.out,<-z.out]
     exact h2 i (by omega)
   ·go_wp2_with fail
    go_ret
    refine⟨Qb3 ?_,f⟩
    symm
    unfold Qqm
    rw[decide_eq_true_eq]
    exact⟨by omega,fun j g=>B.out j (by omega)⟩
 ·have H:((n:Int)<(p:Int)+(m:Int))=True:=by simp;omega
  go_enter Tryz.func194,Tryz.ntmps194
  go_wp2_with fail
  go_ret
  refine⟨Qb3 ?_,Below.refl _ _⟩
  symm
  unfold Qqm
  rw[decide_eq_false_iff_not]
  rintro⟨h2,_⟩
  omega
def QiO (x0:Int)(l:List Int):Nat->Int
 | 0=>0
 | 1=>x0
 |i+2=>QiO x0 l (i+1)*64+l.getD (i+1) 0-128
def Qhd (n:Nat):Int:=if n=2 then 192 else if n=3 then 224 else if n=4 then 240 else 0
theorem Qgh (l:List Int){n:Nat}(a:1<=n)(h1:n<=4):QaK l n=QiO (l.getD 0 0-Qhd n) l n:=by
 match n,a,h1 with
 | 1,_,_=>simp[QaK,QiO,Qhd]
 | 2,_,_=>rfl
 | 3,_,_=>rfl
 | 4,_,_=>rfl
theorem Qmj {x0:Int}{l:List Int}(a:Byt l)(b : -256<=x0/\x0<=256){i:Nat}(h:i<=4) : -134217728<=QiO x0 l i/\QiO x0 l i<=134217728:=by
 have d:=a.at_ 1
 have c:=a.at_ 2
 have e:=a.at_ 3
 match i,h with
 | 0,_=>simp[QiO]
 | 1,_=>simp only[QiO];omega
 | 2,_=>simp only[QiO,Nat.reduceAdd];omega
 | 3,_=>simp only[QiO,Nat.reduceAdd];omega
 | 4,_=>simp only[QiO,Nat.reduceAdd];omega
def QrX (x0:Int)(l:List Int)(n:Nat)(w0:World)(k:Nat)(b a:Value)(wr:World):Prop:=
 ∃i:Nat,∃v:Int,b=.int .i64 v/\a=.int .i64 (i:Int)/\Hid (v=QiO x0 l i) /\ -134217728<=v/\v<=134217728/\1<=i/\i<=n/\4-i<=k/\ZB w0 wr
theorem QkG (D:Nat->Prop)(A:Option Addr)(N c p n:Nat)(l:List Int)(w:World)(t:Bts w D A N l)(u:Byt l)(Y:N<=2147483648)(hn:n=1\/n=2\/n=3\/n=4)(hp:p+n<=N) :
  Calls Tryz.prog 191 #[.slice A N c,.int .i64 (p:Int),.int .i64 (n:Int)] w fun e w'=>e=.returned (.int .i64 (QaK (l.drop p) n))/\ZB w w':=by
 have M:=t.len
 have b:1<=n/\n<=4:=by omega
 rw[Qgh _ b.1 b.2,Qa2,Nat.add_zero]
 obtain⟨H,rfl,_,c0⟩:=t.at_ (show p<N by omega)
 have d:=Qac c0
 rw[Q4] at d
 have R:=u.at_ p
 obtain⟨x,s⟩:=ZN (l.getD p 0)
 rw[s] at c0 R ⊢
 have o:ZB w (w.alloc (.cells #[.int .i64 0,.int .i64 0,.int .i64 192,.int .i64 224,.int .i64 240] 271)):=Qa (Below.refl _ _)
 have O:=Blk.new w 271 #[.int .i64 0,.int .i64 0,.int .i64 192,.int .i64 224,.int .i64 240]
 have z:=o.cell (p:=H.add p) (by rw[Q4];exact d)
 rw[c0] at z
 have W:=Zh s
 obtain⟨m,hm⟩:=ZN (n)
 have T:p+m<=N/\m<=4:=by omega
 have a:=fun(i:Nat) (h:i<=4)=>Qmj (x0:=x-Qhd m) (l:=l.drop p) (u.drop p) (by unfold Qhd;(repeat' split)<;>omega) (i:=i) h
 have f:=Zh a
 have h1:(0:Int)<=(p:Int):=by omega
 have h2:(p:Int)<(N:Int):=by omega
 have B:=Zh hm
 clear s a o hm
 rcases hn with rfl|rfl|rfl|rfl
 all_goals
  go_enter Tryz.func191,Tryz.ntmps191
  go_wp2_with fail
  go_quiet (fail)
  go_wp2_with fail
  go_loopg [8,9] 4 (fun k J L wr=>QrX (x-Qhd m) (l.drop p) m w k J L wr)
  case atStart=>
   have hm:=B.out
   subst hm
   exact⟨1,_,rfl,rfl,Zh (by simp[QiO,Qhd]),by omega,by omega,by omega,by omega,by omega,Q6 (Qa (Below.refl _ _)) _⟩
  case round=>
   obtain⟨i,v,rfl,rfl,F,U,Q,I,P,X,q⟩:=hrel
   by_cases d:i<m
   ·obtain⟨r,S,_,c1⟩:=Bts.at_ (Reads.below t q) (show p+i<N by omega)
    obtain rfl:H=r:=by injection S
    have C:=u.at_ (p+i)
    have g:QiO (x-Qhd m) (l.drop p) (i+1)=QiO (x-Qhd m) (l.drop p) i*64+l.getD (p+i) 0-128:=by
     obtain⟨j,rfl⟩:∃j,i=j+1:=⟨i-1,by omega⟩
     rw[QiO,Qa2]
    rw[<-F.out] at g
    obtain⟨y,G⟩:=ZN (l.getD (p+i) 0)
    rw[G] at c1 C g
    have V:IntKind.i64.wrap ((p:Int)+(i:Int))=((p+i:Nat):Int):=by rw[IntWalk.i64_in _ (by omega)];omega
    have E:=f.out (i+1) (by omega)
    rw[g] at E
    have hm:=B.out
    subst hm
    have K:=Zh g
    clear G g
    go_wp2_with fail
    all_goals
     clear V
     go_roundg (4-(i+1))
     case measure=>omega
     case rel=>exact⟨i+1,_,rfl,by go_num,Zh K.out.symm,by omega,by omega,by omega,by omega,by omega,q⟩
   ·have hm:=B.out
    subst hm
    go_wp2_with fail
    go_ret
    refine⟨QaB ?_,q⟩
    rw[F.out]
    congr 1
    omega
theorem QkL (l:List Int)(m:Byt l)(v:0<l.length):Qbj l=sz8 (QcH l):=by
 cases l with
 |nil=>simp at v
 |cons b l=>
  have E:=m b List.mem_cons_self
  have k:Qey (b::l)=decide (bdN b=0\/Qar (b::l)<bdN b):=by unfold Qey;rfl
  unfold Qbj QcH
  simp only[List.getD_cons_zero]
  cases hr:Qey (b::l) with
  |true=>
   rw[k,decide_eq_true_eq] at hr
   have t:128<=b:=by
    rcases Int.lt_or_le b 128 with h|h
    ·exfalso
     have A:bdN b=1:=by unfold bdN;rw[if_pos h]
     have D:Qar (b::l)=1:=by unfold Qar;simp only[List.getD_cons_zero];rw[A];rfl
     omega
    ·exact h
   simp only[if_true]
   unfold sz8
   rw[if_neg (by omega),if_pos (by omega)]
  |false=>
   rw[k,decide_eq_false_iff_not,not_or] at hr
   obtain⟨B,a⟩:=hr
   simp only[Bool.false_eq_true,if_false]
   unfold Qcp
   simp only[List.getD_cons_zero,List.drop_succ_cons,List.drop_zero]
   unfold Qar at a
   simp only[List.getD_cons_zero,List.getD_cons_succ,List.length_cons,List.drop_succ_cons] at a
   have I:bdN b=1\/bdN b=2\/bdN b=3\/bdN b=4:=by have:=Qhl b;omega
   by_cases h1:bdN b=1
   ·have j:b<128:=by unfold bdN at h1;(repeat' split at h1)<;>omega
    rw[h1]
    simp[Qb5]
    unfold sz8
    rw[if_neg (by omega),if_pos j]
   ·rw[if_neg (by omega)] at a
    split at a
    ·omega
    ·rename_i o
     cases l with
     |nil=>simp at o
     |cons c l=>
      have y:=m c (by simp)
      simp only[List.getD_cons_zero,List.length_cons] at o a
      simp only[List.drop_succ_cons,List.drop_zero] at a
      have s:QdF b<=c/\c<=QdE b:=by omega
      obtain⟨g,f⟩:=s
      clear o
      by_cases h2:bdN b=2
      ·rw[h2] at a ⊢
       have j:194<=b/\b<224:=by unfold bdN at h2;(repeat' split at h2)<;>omega
       have D:QdF b=128:=by unfold QdF;rw[if_neg (by omega),if_pos (by omega)]
       have F:QdE b=191:=by unfold QdE;rw[if_neg (by omega),if_pos (by omega)]
       simp[Qb5,QkI]
       unfold sz8
       rw[if_neg (by omega),if_neg (by omega),if_pos (by omega)]
      ·cases l with
       |nil=>
        exfalso
        have:Qao (bdN b-2).toNat ([]:List Int)=0:=by cases (bdN b-2).toNat<;>rfl
        rw[this] at a
        omega
       |cons d l=>
        have z:=m d (by simp)
        by_cases h3:bdN b=3
        ·rw[h3] at a ⊢
         rw[show ((3:Int)-2).toNat=1 by rfl] at a
         simp only[Qao] at a
         have q:128<=d/\d<192:=by
          split at a
          ·assumption
          ·omega
         have j:224<=b/\b<240:=by unfold bdN at h3;(repeat' split at h3)<;>omega
         simp[Qb5,QkI]
         have p:b=224->160<=c:=fun h=>by subst h;unfold QdF at g;simp at g;exact g
         have n:b=237->c<=159:=fun h=>by subst h;unfold QdE at f;simp at f;exact f
         have u:128<=c:=by unfold QdF at g;(repeat' split at g)<;>omega
         have C:c<=191:=by unfold QdE at f;(repeat' split at f)<;>omega
         have i:(b % 16*64+c % 64)*64+d % 64=(b-224)*4096+(c-128)*64+(d-128):=by omega
         rw[i]
         have w:2048<=(b-224)*4096+(c-128)*64+(d-128):=by
          by_cases h:b=224
          ·have:=p h;omega
          ·omega
         have m2:(b-224)*4096+(c-128)*64+(d-128)<65536:=by omega
         have G : ¬(55296<=(b-224)*4096+(c-128)*64+(d-128)/\(b-224)*4096+(c-128)*64+(d-128)<=57343):=by
          intro H
          have:b=237:=by omega
          have:=n this
          omega
         unfold sz8
         rw[if_neg (by omega),if_neg (by omega),if_neg (by omega),if_pos (by omega)]
        ·have r:bdN b=4:=by omega
         rw[r] at a ⊢
         rw[show ((4:Int)-2).toNat=2 by rfl] at a
         cases l with
         |nil=>
          exfalso
          simp only[Qao] at a
          split at a<;>omega
         |cons e l=>
          have x:=m e (by simp)
          simp only[Qao] at a
          have q:(128<=d/\d<192)/\128<=e/\e<192:=by
           split at a
           ·split at a
            ·exact⟨by assumption,by assumption⟩
            ·omega
           ·omega
          have j:240<=b/\b<=244:=by unfold bdN at r;(repeat' split at r)<;>omega
          simp[Qb5,QkI]
          have p:b=240->144<=c:=fun h=>by subst h;unfold QdF at g;simp at g;exact g
          have n:b=244->c<=143:=fun h=>by subst h;unfold QdE at f;simp at f;exact f
          have u:128<=c:=by unfold QdF at g;(repeat' split at g)<;>omega
          have C:c<=191:=by unfold QdE at f;(repeat' split at f)<;>omega
          have i:((b % 8*64+c % 64)*64+d % 64)*64+e % 64=(b-240)*262144+(c-128)*4096+(d-128)*64+(e-128):=by omega
          rw[i]
          have w:65536<=(b-240)*262144+(c-128)*4096+(d-128)*64+(e-128):=by
           by_cases h:b=240
           ·have:=p h;omega
           ·omega
          have m2:(b-240)*262144+(c-128)*4096+(d-128)*64+(e-128)<=1114111:=by
           by_cases h:b=244
           ·have:=n h;omega
           ·omega
          unfold sz8
          rw[if_neg (by omega),if_neg (by omega),if_neg (by omega),if_neg (by omega)]
theorem Qe8 (o:Int)(l:List Int)(a:Byt l)(d:0<l.length):Qaf o l=Qfb (Qbc o l):=by
 have e:=QcG o l a
 have c:=QcG o (l.drop 2) (a.drop 2)
 have b:=a.at_ 0
 unfold Qaf Qbc Qfb
 by_cases h1:l.length=1
 ·rw[if_pos h1,if_pos h1,if_neg (by omega),if_pos (by omega)]
 ·rw[if_neg h1,if_neg h1]
  cases QbR o l with
  |true=>simp only[if_true];rw[if_neg (by omega),if_neg (by omega),if_neg (by omega)]
  |false=>simp only[Bool.false_eq_true,if_false];rw[if_neg (by omega),if_neg (by omega),if_pos (by omega)]
theorem Qnw (enc:Int)(l:List Int)(d:enc=1\/enc=2\/enc=3\/enc=4)(a:Byt l)(b:0<l.length):QB enc l=szA enc (Qa8 enc l):=by
 unfold QB Qa8 szA
 rcases d with rfl|rfl|rfl|rfl
 ·exact QkL l a b
 ·exact Qe8 0 l a b
 ·exact Qe8 1 l a b
 ·have c:=a.at_ 0
  simp[Qma]
  unfold szL
  rw[if_neg (by simp at c;omega)]
theorem QhV (enc:Int)(b:enc=1\/enc=2\/enc=3\/enc=4) : ∀(n:Nat) (l:List Int),l.length<=n->Byt l->dec enc l=Qat enc ((dec enc l).map Prod.fst):=by
 intro n
 induction n with
 |zero=>
  intro l h _
  have e:l=[]:=List.eq_nil_of_length_eq_zero (by omega)
  subst e
  rfl
 |succ n ih=>
  intro l h a
  by_cases h0:0<l.length
  ·have c:=QZ enc l h0
   rw[QaN enc l h0]
   have:=ih (l.drop (QB enc l).toNat) (by rw[List.length_drop];omega) (a.drop _)
   unfold Qat at this ⊢
   rw[List.map_cons,List.map_cons,<-this]
   rw[Qnw enc l b a h0]
  ·have e:l=[]:=List.eq_nil_of_length_eq_zero (by omega)
   subst e
   rfl
end Go.Proofs.YtgiihhikdoikgaaGreat
