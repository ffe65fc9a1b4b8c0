/-
  The walks of package tree at the pieces, seventh part: Key, Find.
-/
import Derived.Test.YtgiihhikdoikgaaGreatLTree3
set_option linter.unusedSimpArgs false
set_option linter.unusedVariables false
set_option maxRecDepth 100000
set_option maxHeartbeats 32000000
namespace Go.Proofs.YtgiihhikdoikgaaGreat
open Go.RowKit
theorem QfC (t:Tr)(a:Option Addr)(w:World)(h:NodeAt w t a) :
  Calls Tryz.prog 143 #[.agg #[.pointer a]] w fun e w'=>e=.returned (.int .i64 t.size)/\ZB w w':=by
 have c:ZB w (w.alloc (.cells #[.pointer a] 102)):=Qa (Below.refl _ w)
 have b:=Qbr t a _ (NodeAt.below c t a h)
 have d:=Zh b
 clear b
 go_enter Tryz.func143,Tryz.ntmps143
 go_wp2_with fail
 refine(d.out).mono ?_
 rintro e w1 ⟨rfl,rfl⟩
 go_wp2_with fail
 go_ret
 exact⟨rfl,c⟩
theorem Qd5 (t:Tr)(a:Option Addr)(w:World)(h:NodeAt w t a) :
  Calls Tryz.prog 51 #[.agg #[.pointer a]] w fun e w'=>
   e=.returned (.agg #[.int .i64 t.sum.atoms,.int .i64 t.sum.bytes,.int .i64 t.sum.breaks,.bool t.sum.lf,.bool t.sum.cr])/\ZB w w':=by
 cases t with
 |nil=>
  cases h
  go_enter Tryz.func51,Tryz.ntmps51
  go_wp2_with fail
  refine bodyPost_ret (v:=.agg #[.int .i64 0,.int .i64 0,.int .i64 0,.bool false,.bool false]) (by simp[results,Tryz.results51,go_sem]) rfl ⟨rfl,?_⟩
  repeat (first|exact Below.refl _ _|apply Qa)
 |node l x r=>
  obtain⟨b,al,ar,rfl,d,_,_⟩:=h
  obtain⟨S,f⟩:=ZN ((Tr.node l x r).sum)
  rw[f] at d ⊢
  clear f
  have c:=(d.alloc (.cells #[.pointer (some ⟨b,0,none⟩)] 102)).alloc (.cells Qq.cells 99)
  obtain⟨g,n1,n2,i,j,n,m,m2,k,o⟩:=Qaz c
  simp only[Qq,Sums.cells] at g n1 n2 i j
  go_enter Tryz.func51,Tryz.ntmps51
  go_wp2_with fail
  refine bodyPost_ret (v:=.agg #[.int .i64 S.atoms,.int .i64 S.bytes,.int .i64 S.breaks,.bool S.lf,.bool S.cr]) (by simp[results,Tryz.results51,go_sem]) rfl ⟨rfl,?_⟩
  repeat (first|exact Below.refl _ _|apply Qa)
def Tr.get (t:Tr)(j:Int):Option Pc:=if j<0 then none else t.list[j.toNat]?
theorem Tr.get_node (l:Tr)(x:Pc)(r:Tr)(j:Int)(h:0<=j):(Tr.node l x r).get j=if j<l.size then l.get j else if j=l.size then some x else r.get (j-l.size-1):=by
 have a:=Tr.size_list l
 unfold Tr.get
 rw[if_neg (by omega),Tr.list]
 split
 ·rw[if_neg (by omega),List.getElem?_append_left (by omega)]
 ·rw[List.getElem?_append_right (by omega)]
  split
  ·rw[show j.toNat-l.list.length=0 by omega];rfl
  ·rw[if_neg (by omega),show j.toNat-l.list.length=(j-l.size-1).toNat+1 by omega];rfl
def AtR (p:Option Pc)(W:World)(k:Nat)(b c:Value)(wr:World):Prop:=
 ∃(t:Tr) (a:Option Addr) (j:Int),wr=W/\b=.pointer a/\c=.int .i64 j/\NodeAt W t a/\t.get j=p/\t.list.length<=k/\t.list.length<=1073741824 /\ -1073741826<=j/\j<=1073741826
def QfD (p:Option Pc):Value:=match p with
 |some x=>.tuple #[.agg #[.slice x.A x.n x.c,.int .i64 x.tag,.int .i64 x.sum.atoms,.int .i64 x.sum.bytes,.int .i64 x.sum.breaks,.bool x.sum.lf,.bool x.sum.cr],.bool true]
 |none=>.tuple #[.agg #[.slice none 0 0,.int .i64 0,.int .i64 0,.int .i64 0,.int .i64 0,.bool false,.bool false],.bool false]
theorem QaJ {w:World}{b:Nat}{al ar:Option Addr}{x:Pc}{sz tl:Int}{s:Sums}(h:Blk w b 147 (Qef al ar x sz tl s)) :
  w.cell? ⟨b,0,none⟩=some (.pointer al)/\w.cell? ⟨b,1,none⟩=some (.pointer ar)/\ItemAt w b 2 x:=
 ⟨h.cell 0,h.cell 1,h.cell 2,h.cell 3,h.cell 4,h.cell 5,h.cell 6,h.cell 7,h.cell 8⟩
theorem QgA (t:Tr)(a:Option Addr)(i:Int)(w:World)(h:NodeAt w t a)(N:t.list.length<=1073741824)(H : -1073741826<=i/\i<=1073741826) :
  Calls Tryz.prog 116 #[.agg #[.pointer a],.int .i64 i] w fun e w'=>e=.returned (QfD (t.get i))/\ZB w w':=by
 obtain⟨p,hp⟩:=ZN (t.get i)
 rw[hp]
 have U:=Zh hp
 clear hp
 have S:ZB w ((w.alloc (.cells #[.pointer a] 102)).alloc (.cells (Qx none 0 0 0 Qq) 107)):=Qa (Qa (Below.refl _ w))
 have h2:=NodeAt.below S t a h
 go_enter Tryz.func116,Tryz.ntmps116
 go_wp2_with fail
 go_loopg [6,1] t.list.length (fun k X Z wr=>AtR p ((w.alloc (.cells #[.pointer a] 102)).alloc (.cells (Qx none 0 0 0 Qq) 107)) k X Z wr)
 case atStart=>exact⟨t,a,i,rfl,rfl,rfl,h2,U.out,Nat.le_refl _,N,H.1,H.2⟩
 case round=>
  obtain⟨T,a1,j,rfl,rfl,rfl,u,G,C,D,j1,j2⟩:=hrel
  have E:=Zh G
  clear G
  simp only[Qx,Qq]
  cases T with
  |nil=>
   cases u
   have g:p=none:=by rw[<-E.out];unfold Tr.get;split<;>rfl
   subst g
   go_wp2_with fail
   refine bodyPost_ret (v:=QfD none) (by simp[results,Tryz.results116,go_sem,QfD]) rfl ⟨rfl,?_⟩
   repeat (first|exact Below.refl _ _|apply Qa)
  |node l x r=>
   have o:=Tr.size_list l
   have m:(Tr.node l x r).list.length=l.list.length+r.list.length+1:=by simp only[Tr.list,List.length_append,List.length_cons];omega
   obtain⟨b,al,ar,rfl,I,y,z⟩:=u
   obtain⟨c0,c1,A⟩:=QaJ I
   obtain⟨Y,O,L,i3,K,J,Q⟩:=A.out
   simp only[Qx,Qq] at c0 c1 Y O L i3 K J Q
   have d:=Qbr l al _ y
   obtain⟨sz,f⟩:∃s,l.size=s:=⟨_,rfl⟩
   rw[f] at d o
   simp only[Qx,Qq] at d
   have B:=Zh d
   have F:=Zh f
   have V:0<=sz:=by omega
   have W:sz<=1073741824:=by omega
   have R:=show l.list.length<_ from Nat.lt_of_lt_of_le (by omega) C
   have a0:=show r.list.length<_ from Nat.lt_of_lt_of_le (by omega) C
   have P:l.list.length<=1073741824:=by omega
   have M:r.list.length<=1073741824:=by omega
   clear d f o m C D
   by_cases hj:j<0
   ·have g:p=none:=by rw[<-E.out];unfold Tr.get;rw[if_pos hj]
    subst g
    go_wp2_with fail
    refine bodyPost_ret (v:=QfD none) (by simp[results,Tryz.results116,go_sem,QfD]) rfl ⟨rfl,?_⟩
    repeat (first|exact Below.refl _ _|apply Qa)
   ·have c:=Tr.get_node l x r j (by omega)
    rw[F.out,E.out] at c
    by_cases h1:j=sz
    ·have hp:p=some x:=by rw[c,if_neg (by omega),if_pos h1]
     subst hp
     have q:(j==sz)=true:=by rw[beq_iff_eq];exact h1
     clear h1 c
     go_wp2_with fail
     refine(B.out).mono ?_
     rintro e w1 ⟨rfl,rfl⟩
     go_wp2_with fail
     refine bodyPost_ret (v:=QfD (some x)) (by simp[results,Tryz.results116,go_sem,QfD]) rfl ⟨rfl,?_⟩
     repeat (first|exact Below.refl _ _|apply Qa)
    ·have q:(j==sz)=false:=by rw[beq_eq_false_iff_ne];exact h1
     by_cases h2:j<sz
     ·have hp:l.get j=p:=by rw[c,if_pos h2]
      have n:=Zh hp
      clear h1 c hp
      go_wp2_with fail
      refine(B.out).mono ?_
      rintro e w1 ⟨rfl,rfl⟩
      go_wp2_with fail
      go_roundg l.list.length
      case measure=>omega
      case rel=>exact⟨l,al,j,rfl,rfl,rfl,y,n.out,Nat.le_refl _,by omega,by omega,by omega⟩
     ·have hp:r.get (j-sz-1)=p:=by rw[c,if_neg h2,if_neg h1]
      have n:=Zh hp
      clear h1 c hp
      go_wp2_with fail
      refine(B.out).mono ?_
      rintro e w1 ⟨rfl,rfl⟩
      go_wp2_with fail
      go_roundg r.list.length
      case measure=>omega
      case rel=>exact⟨r,ar,j-sz-1,rfl,rfl,rfl,z,n.out,Nat.le_refl _,by omega,by omega,by omega⟩
theorem QH (s:Sums):QM Qq s=s:=by unfold QM;exact if_pos rfl
theorem Qz {s:Sums}(h:s.good):QM s Qq=s:=by
 unfold QM
 split
 ·rename_i a;exact(h.2.2.2.1 a).symm
 ·exact if_pos rfl
theorem Qew {s o:Sums}(h1:s.atoms≠0)(h2:o.atoms≠0):QM s o={ atoms:=s.atoms+o.atoms,bytes:=s.bytes+o.bytes,breaks:=if (s.cr && o.lf)=true then s.breaks+o.breaks-1 else s.breaks+o.breaks,lf:=s.lf,cr:=o.cr }:=by
 unfold QM;rw[if_neg h1,if_neg h2]
theorem QaA {a b c:Sums}(e:a.good)(d:b.good)(f:c.good):QM (QM a b) c=QM a (QM b c):=by
 by_cases h1:a.atoms=0
 ·rw[e.2.2.2.1 h1,QH,QH]
 by_cases h2:b.atoms=0
 ·rw[d.2.2.2.1 h2,QH,Qz e]
 by_cases h3:c.atoms=0
 ·rw[f.2.2.2.1 h3,Qz d,Qz (QE e d).1]
 have n1:0<=a.atoms:=by obtain⟨x,y,_⟩:=e;omega
 have n2:0<=b.atoms:=by obtain⟨x,y,_⟩:=d;omega
 have g:0<=c.atoms:=by obtain⟨x,y,_⟩:=f;omega
 have h:=(QE e d).2.1
 have i:=(QE d f).2.1
 rw[Qew (s:=QM a b) (by omega) h3,Qew (o:=QM b c) h1 (by omega),Qew h1 h2,Qew h2 h3]
 dsimp only
 rw[Int.add_assoc,Int.add_assoc]
 congr 1
 split<;>split<;>omega
def Qdq (ps:List Pc):Sums:=ps.foldr (fun p s=>QM p.sum s) Qq
theorem QbU:Qdq []=Qq:=rfl
theorem QaL (p:Pc)(ps:List Pc):Qdq (p::ps)=QM p.sum (Qdq ps):=rfl
theorem QI {ps:List Pc}(h:AllGood ps):(Qdq ps).good/\(Qdq ps).bytes=Qbl ps:=by
 induction ps with
 |nil=>exact⟨Qa0,rfl⟩
 |cons p ps ih=>
  have h1:=ih (fun q a=>h q (List.mem_cons_of_mem _ a))
  have h2:=QE (h p List.mem_cons_self) h1.1
  rw[QaL,QaI]
  exact⟨h2.1,by rw[h2.2.2,h1.2]⟩
theorem Qks {a b:List Pc}(c:AllGood a)(d:AllGood b):Qdq (a++b)=QM (Qdq a) (Qdq b):=by
 induction a with
 |nil=>rw[List.nil_append,QbU,QH]
 |cons p ps ih=>
  have h1:AllGood ps:=fun q e=>c q (List.mem_cons_of_mem _ e)
  rw[List.cons_append,QaL,ih h1,QaL,QaA (c p List.mem_cons_self) (QI h1).1 (QI d).1]
theorem Tr.good_l {l:Tr}{x:Pc}{r:Tr}(h:AllGood (Tr.node l x r).list):AllGood l.list:=fun p hp=>h p (by simp[Tr.list,hp])
theorem Tr.good_r {l:Tr}{x:Pc}{r:Tr}(h:AllGood (Tr.node l x r).list):AllGood r.list:=fun p hp=>h p (by simp[Tr.list,hp])
theorem Tr.good_x {l:Tr}{x:Pc}{r:Tr}(h:AllGood (Tr.node l x r).list):x.sum.good:=h x (by simp[Tr.list])
theorem Qqs (l:Tr)(x:Pc):Qjg l x=QM l.sum x.sum:=by
 cases l with
 |nil=>exact(QH _).symm
 |node=>rfl
theorem QqT {s:Sums}(h:s.good)(r:Tr):Qsm s r=QM s r.sum:=by
 cases r with
 |nil=>exact(Qz h).symm
 |node=>rfl
theorem Tr.sum_list : ∀t:Tr,AllGood t.list->t.sum=Qdq t.list
 | .nil,_=>rfl
 | .node l x r,h=>by
  have a:=Tr.sum_list l (Tr.good_l h)
  have b:=Tr.sum_list r (Tr.good_r h)
  have gl:=QI (Tr.good_l h)
  have gr:=QI (Tr.good_r h)
  have gx:=Tr.good_x h
  rw[Tr.sum_node,QqT (QfB l x (Tr.good_l h) gx).1,Qqs,a,b,Tr.list,Qks (Tr.good_l h) (fun p hp=>h p (by simp only[Tr.list,List.mem_append];exact Or.inr hp)),QaL,QaA gl.1 gx gr.1]
def Qfj (s:Sums)(l:Tr):Sums:=match l with | .nil=>s | .node .. => QM s l.sum
theorem QiS {s:Sums}(h:s.good)(l:Tr)(d:AllGood l.list):Qfj s l=QM s (Qdq l.list):=by
 cases l with
 |nil=>exact(Qz h).symm
 |node a b c=>show QM s (Tr.node a b c).sum=_;rw[Tr.sum_list _ d]
theorem QmF (l:Tr)(x:Pc)(r:Tr)(j:Int)(h:j<=l.list.length):(Tr.node l x r).list.take j.toNat=l.list.take j.toNat:=by
 rw[Tr.list,List.take_append_of_le_length (by omega)]
theorem Qll (l:Tr)(x:Pc)(r:Tr)(j:Int)(h:(l.list.length:Int)<j):(Tr.node l x r).list.take j.toNat=l.list++x::r.list.take (j-l.list.length-1).toNat:=by
 rw[Tr.list,List.take_append,List.take_of_length_le (by omega),show j.toNat-l.list.length=(j-l.list.length-1).toNat+1 by omega,List.take_succ_cons]
theorem Qc4 {ps:List Pc}(h:AllGood ps)(k:Nat):AllGood (ps.take k):=fun p hp=>h p (List.mem_of_mem_take hp)
theorem QnD {s:Sums}(c:s.good){l:Tr}{x:Pc}{r:Tr}(h:AllGood (Tr.node l x r).list)(j:Int)(e:(l.list.length:Int)<j) :
  QM (QM (Qfj s l) x.sum) (Qdq (r.list.take (j-l.list.length-1).toNat))=QM s (Qdq ((Tr.node l x r).list.take j.toNat)):=by
 have a:=Tr.good_l h
 have d:=Qc4 (Tr.good_r h) (j-l.list.length-1).toNat
 have b:=Tr.good_x h
 have gl:=(QI a).1
 have gr:=(QI d).1
 rw[Qll l x r j e,Qks a (by intro p hp;rcases List.mem_cons.1 hp with rfl|hp;exact b;exact d p hp),QaL,QiS c l a,QaA (QE c gl).1 b gr,QaA c gl (QE b gr).1]
theorem Qw {w:World}{b:Nat}{s:Sums}(h:Blk w b 99 s.cells) :
  w.cell? ⟨b,0,none⟩=some (.int .i64 s.atoms)/\w.cell? ⟨b,1,none⟩=some (.int .i64 s.bytes)/\w.cell? ⟨b,2,none⟩=some (.int .i64 s.breaks)/\w.cell? ⟨b,3,none⟩=some (.bool s.lf)/\w.cell? ⟨b,4,none⟩=some (.bool s.cr) /\
  w.frozen? ⟨b,0,none⟩=false/\w.frozen? ⟨b,1,none⟩=false/\w.frozen? ⟨b,2,none⟩=false/\w.frozen? ⟨b,3,none⟩=false/\w.frozen? ⟨b,4,none⟩=false:=
 ⟨h.cell 0,h.cell 1,h.cell 2,h.cell 3,h.cell 4,h.frozen 0,h.frozen 1,h.frozen 2,h.frozen 3,h.frozen 4⟩
def Qsr (w:World)(b:Nat)(s:Sums):World:=((((w.setCell ⟨b,0,none⟩ (.int .i64 s.atoms)).setCell ⟨b,1,none⟩ (.int .i64 s.bytes)).setCell ⟨b,2,none⟩ (.int .i64 s.breaks)).setCell ⟨b,3,none⟩ (.bool s.lf)).setCell ⟨b,4,none⟩ (.bool s.cr)
theorem Qdb {w:World}{b:Nat}{s s':Sums}(h:Blk w b 99 s.cells):Blk (Qsr w b s') b 99 s'.cells:=
 ((((h.set_ 0 _).set_ 1 _).set_ 2 _).set_ 3 _).set_ 4 _
theorem QdH {w:World}{b g:Nat}{T:TypeId}{c:Array Value}{s':Sums}(h:Blk w g T c)(a:g≠b):Blk (Qsr w b s') g T c:=
 ((((h.far (p:=⟨b,0,none⟩) a _).far (p:=⟨b,1,none⟩) a _).far (p:=⟨b,2,none⟩) a _).far (p:=⟨b,3,none⟩) a _).far (p:=⟨b,4,none⟩) a _
theorem Qay {w w1:World}{b:Nat}{s':Sums}(h:ZB w w1)(a:w.heap.size<=b):ZB w (Qsr w1 b s'):=
 ((((h.setCell a _).setCell a _).setCell a _).setCell a _).setCell a _
def QsJ (S:Sums)(e:Tr)(d:Option Addr)(W:World)(k:Nat)(b c:Value)(wr:World):Prop:=
 ∃(t:Tr) (a:Option Addr) (j:Int) (s:Sums),b=.pointer a/\c=.int .i64 j/\NodeAt W t a/\t.list.length<=k/\t.list.length<=1073741824 /\ -1073741826<=j/\j<=1073741826 /\
  AllGood t.list/\s.good/\s.bytes+Qbl t.list<=2147483648/\QM s (Qdq (t.list.take j.toNat))=S /\
  ZB W wr/\Blk wr (W.heap.size+1) 99 Qq.cells/\Blk wr (W.heap.size+2) 99 s.cells
theorem QgO (t:Tr)(a:Option Addr)(i:Int)(w:World)(h:NodeAt w t a)(ht:t.list.length<=1073741824)(hi : -1073741826<=i/\i<=1073741826)(hg:AllGood t.list)(hB:Qbl t.list<=2147483648) :
  Calls Tryz.prog 115 #[.agg #[.pointer a],.int .i64 i] w fun e w'=>e=.returned (.agg (Qdq (t.list.take i.toNat)).cells)/\ZB w w':=by
 have D:=Tr.size_list t
 obtain⟨S,hS⟩:=ZN (Qdq (t.list.take i.toNat))
 have H:(min i t.size).toNat=min i.toNat t.list.length:=by omega
 have a7:QM Qq (Qdq (t.list.take (min i t.size).toNat))=S:=by
  rw[QH,<-hS,H,<-List.take_take,List.take_length]
 rw[hS]
 have HS:=Zh a7
 have a8 : -1073741826<=min i t.size:=by omega
 have a2:min i t.size<=1073741826:=by omega
 clear hS a7 H
 have hW:ZB w (((w.alloc (.cells #[.pointer a] 102)).alloc (.cells Qq.cells 99)).alloc (.cells Qq.cells 99)):=Qa (Qa (Qa (Below.refl _ w)))
 have O:Blk (((w.alloc (.cells #[.pointer a] 102)).alloc (.cells Qq.cells 99)).alloc (.cells Qq.cells 99)) (w.heap.size+1) 99 Qq.cells:=by
  have:=(Blk.new (w.alloc (.cells #[.pointer a] 102)) 99 Qq.cells).alloc (.cells Qq.cells 99)
  simpa only[World.size_alloc] using this
 have a4:Blk (((w.alloc (.cells #[.pointer a] 102)).alloc (.cells Qq.cells 99)).alloc (.cells Qq.cells 99)) (w.heap.size+2) 99 Qq.cells:=by
  have:=Blk.new ((w.alloc (.cells #[.pointer a] 102)).alloc (.cells Qq.cells 99)) 99 Qq.cells
  simpa only[World.size_alloc] using this
 have b1:Blk (((w.alloc (.cells #[.pointer a] 102)).alloc (.cells Qq.cells 99)).alloc (.cells Qq.cells 99)) w.heap.size 102 #[.pointer a]:=
  ((Blk.new w _ _).alloc _).alloc _
 have hc:=QfC t a _ (NodeAt.below hW t a h)
 have V:=Zh hc
 clear hc D
 simp only[Qq,Sums.cells] at V
 go_enter Tryz.func115,Tryz.ntmps115
 go_wp2_with fail
 refine(V.out).mono ?_
 rintro e w1 ⟨rfl,C⟩
 have K:=b1.below C
 have L:=O.below C
 have M:=a4.below C
 have c5:=Qf hW C
 have c0:=K.cell 0
 simp at c0
 clear b1 O a4 hW
 obtain⟨m,hm⟩:=ZN (min i t.size)
 rw[hm] at HS a8 a2
 have HM:=Zh hm
 clear hm
 go_upto_region 3 with fail
 go_cut [1,6] (fun X P wx=>X=.int .i64 m/\P=.pointer a/\wx=w1)
 case first=>
  go_wp2_with fail
  all_goals
   go_meet
   refine⟨?_,rfl,rfl⟩
   have:=HM.out
   first|rw[show i=m by omega]|rw[show t.size=m by omega]
 case rest=>
  obtain⟨rfl,rfl,rfl⟩:=hcut
  go_wp2_with fail
  go_loopg [6,1] t.list.length (fun k P X wr=>QsJ S t a w k P X wr)
  case atStart=>exact⟨t,a,m,Qq,rfl,rfl,h,Nat.le_refl _,ht,a8,a2,hg,Qa0,by simp only[Qq];omega,HS.out,c5,L,M⟩
  case round=>
   obtain⟨t1,a1,j,s,rfl,rfl,a3,hk,c2,j1,j2,E,G,O,hF,f,q,o⟩:=hrel
   have W:=NodeAt.below f _ _ a3
   have HF:=Zh hF
   clear hF HS HM V c0 L M K C
   cases t1 with
   |nil=>
    cases W
    have e:s=S:=by have:=HF.out;simp only[Tr.list,List.take_nil,QbU] at this;rwa [Qz G] at this
    subst e
    obtain⟨n0,n1,n2,n3,n4,m0,m1,m2,m3,m4⟩:=Qw o
    obtain⟨z0,z1,z2,z3,z4,y0,y1,y2,y3,y4⟩:=Qw q
    go_wp2_with fail
    refine bodyPost_ret (v:=.agg s.cells) (by simp[results,Tryz.results115,go_sem,Sums.cells,z0,z1,z2,z3,z4]) rfl ⟨rfl,?_⟩
    exact Qay (s':=s) f (Nat.le_succ _)
   |node l x r=>
    by_cases hj:j<=0
    ·have e:s=S:=by have:=HF.out;rw[show j.toNat=0 by omega,List.take_zero,QbU,Qz G] at this;exact this
     subst e
     obtain⟨b,al,ar,rfl,hb,B,c7⟩:=W
     obtain⟨n0,n1,n2,n3,n4,m0,m1,m2,m3,m4⟩:=Qw o
     obtain⟨z0,z1,z2,z3,z4,y0,y1,y2,y3,y4⟩:=Qw q
     go_wp2_with fail
     refine bodyPost_ret (v:=.agg s.cells) (by simp[results,Tryz.results115,go_sem,Sums.cells,z0,z1,z2,z3,z4]) rfl ⟨rfl,?_⟩
     exact Qay (s':=s) f (Nat.le_succ _)
    ·have T:=Tr.size_list l
     have Q:(Tr.node l x r).list.length=l.list.length+r.list.length+1:=by simp only[Tr.list,List.length_append,List.length_cons];omega
     have Y:Qbl (Tr.node l x r).list=Qbl l.list+(x.sum.bytes+Qbl r.list):=by rw[Tr.list,Qby,QaI]
     have gl:=Tr.good_l E
     have gr:=Tr.good_r E
     have gx:=Tr.good_x E
     have tl:=Q7 gl
     have tr:=Q7 gr
     have tx:0<=x.sum.bytes:=by obtain⟨p1,p2,p3,_⟩:=gx;omega
     have ts:0<=s.bytes:=by obtain⟨p1,p2,p3,_⟩:=G;omega
     clear W
     obtain⟨b,al,ar,rfl,N,I,a0⟩:=a3
     have hb:=N.below f
     have B:=NodeAt.below f _ _ I
     obtain⟨c0,c1,a9⟩:=QaJ hb
     obtain⟨sz,D⟩:∃s,l.size=s:=⟨_,rfl⟩
     have y:=Qbr l al _ B
     have p:=QmF l x r j
     have d:=QnD G (j:=j) E
     rw[D] at y T
     rw[<-T] at p d
     have d0:0<=sz:=by omega
     have d1:sz<=1073741824:=by omega
     have d3:=show l.list.length<_ from Nat.lt_of_lt_of_le (by omega) hk
     have d4:=show r.list.length<_ from Nat.lt_of_lt_of_le (by omega) hk
     have b5:l.list.length<=1073741824:=by omega
     have b8:r.list.length<=1073741824:=by omega
     have c6:s.bytes+Qbl l.list<=2147483648:=by omega
     have gac:(Qfj s l).good/\(Qfj s l).bytes=s.bytes+Qbl l.list:=by
      rw[QiS G l gl]
      have:=QE G (QI gl).1
      exact⟨this.1,by rw[this.2.2,(QI gl).2]⟩
     have okx:x.sum.ok:=gx.ok (by omega)
     have oks:s.ok:=G.ok (by omega)
     have okl:l.sum.ok:=(Tr.sum_good l gl).1.ok (by rw[(Tr.sum_good l gl).2];omega)
     have oka:(Qfj s l).ok:=gac.1.ok (by omega)
     have gnx:=QE gac.1 gx
     have b2:(QM (Qfj s l) x.sum).bytes+Qbl r.list<=2147483648:=by omega
     have V:=Zh y
     have HL:=Zh p
     have HR:=Zh d
     have HG:=Zh gnx
     clear y D T Q hk c2 p d Y gac gnx
     have c8:0<j:=by omega
     by_cases hjs:j<=sz
     ·go_wp2_with fail
      refine(V.out).mono ?_
      rintro e w1 ⟨rfl,rfl⟩
      go_wp2_with fail
      go_roundg l.list.length
      case measure=>omega
      case rel=>exact⟨l,al,j,s,rfl,rfl,I,Nat.le_refl _,b5,j1,j2,gl,G,c6,by rw[<-HL.out hjs];exact HF.out,f,q,o⟩
     ·have b0:sz<j:=by omega
      go_wp2_with fail
      refine(V.out).mono ?_
      rintro e w1 ⟨rfl,rfl⟩
      go_upto_if 36 with fail
      go_cut [1,6,7] (fun X P q7 wx=>X=.int .i64 j/\P=.pointer (some ⟨b,0,none⟩)/\q7=.int .i64 sz/\ZB w wx/\Blk wx (w.heap.size+1) 99 Qq.cells/\Blk wx (w.heap.size+2) 99 (Qfj s l).cells)
      case first=>
       cases l with
       |nil=>
        cases B
        go_wp2_with fail
        go_meet
        exact⟨rfl,rfl,rfl,f,q,o⟩
       |node la lx lr=>
        obtain⟨bl,d2,c9,rfl,c4,_,_⟩:=B
        obtain⟨p0,p1,p2,p3,p4,_,_,_,_,_⟩:=Qaz c4
        obtain⟨n0,n1,n2,n3,n4,m0,m1,m2,m3,m4⟩:=Qw o
        have R:Qfj s (.node la lx lr)=QM s (Tr.node la lx lr).sum:=rfl
        obtain⟨sl,Z⟩:∃s,(Tr.node la lx lr).sum=s:=⟨_,rfl⟩
        rw[Z] at p0 p1 p2 p3 p4 okl R
        have b6:=Zh R
        have f1:=Qgp s
        simp only[Sums.cells] at f1
        have J:=o
        clear R Z o
        go_wp2_with fail
        go_region_with (first|(go_at_call 118;refine(QbB s sl _ oks okl).mono ?_;rintro e w4 ⟨rfl,g⟩;obtain⟨j0,j1,j2,j3,j4,j5,j6,j7,j8,j9⟩:=Qw (J.below (QD g))))
        all_goals
         go_wp2_with fail
         go_meet
         refine⟨rfl,rfl,rfl,Qay (s':=QM s sl) (Qf f (QD g)) (by omega),QdH (s':=QM s sl) (q.below (QD g)) (by omega),?_⟩
         rw[b6.out]
         exact Qdb (J.below (QD g))
      case rest=>
       obtain⟨rfl,rfl,rfl,U,a6,u⟩:=hcut
       have b4:=N.below U
       obtain⟨c0,c1,a9⟩:=QaJ b4
       obtain⟨i0,i1,i2,i3,i4,i5,i6⟩:=a9
       have d:=HR.out b0
       obtain⟨F,b3⟩:=ZN (Qfj s l)
       rw[b3] at u oka b2 d HG
       have b7:=Zh d
       have f1:=Qgp F
       have f2:=Qer x.A x.n x.c x.tag x.sum
       simp only[Sums.cells] at f1
       simp only[Qx] at f2
       obtain⟨n0,n1,n2,n3,n4,m0,m1,m2,m3,m4⟩:=Qw u
       clear b3 d q o f V HL HR B hb
       simp only[Nat.zero_add,Nat.reduceAdd] at i0 i1 i2 i3 i4 i5 i6
       go_upto_region 10 with fail
       go_cut [1,6,7] (fun X P q7 wx=>X=.int .i64 j/\P=.pointer (some ⟨b,0,none⟩)/\q7=.int .i64 sz/\ZB w wx/\Blk wx (w.heap.size+1) 99 Qq.cells/\Blk wx (w.heap.size+2) 99 (QM F x.sum).cells)
       case first=>
        go_region_with (first|(go_at_call 220;refine(QdB x.A x.n x.c x.tag x.sum _).mono ?_;rintro e w3 ⟨rfl,z⟩;obtain⟨k0,k1,k2,k3,k4,k5,k6,k7,k8,k9⟩:=Qw (u.below (QD z)))|(go_at_call 118;refine(QbB F x.sum _ oka okx).mono ?_;rintro e w4 ⟨rfl,g⟩;obtain⟨j0,j1,j2,j3,j4,j5,j6,j7,j8,j9⟩:=Qw (u.below (Qf (QD z) g))))
        all_goals
         go_wp2_with fail
         go_meet
         exact⟨rfl,rfl,rfl,Qay (s':=QM F x.sum) (Qf U (Qf (QD z) g)) (by omega),QdH (s':=QM F x.sum) (a6.below (Qf (QD z) g)) (by omega),Qdb (u.below (Qf (QD z) g))⟩
       case rest=>
        obtain⟨rfl,rfl,rfl,a5,b9,c3⟩:=hcut
        clear i0 i1 i2 i3 i4 i5 i6 c0 c1 f1 f2 n0 n1 n2 n3 n4 m0 m1 m2 m3 m4 a6 u U b4
        obtain⟨c0,c1,_⟩:=QaJ (N.below a5)
        go_wp2_with fail
        go_roundg r.list.length
        case measure=>omega
        case rel=>exact⟨r,ar,j-sz-1,QM F x.sum,rfl,rfl,a0,Nat.le_refl _,b8,by omega,by omega,gr,HG.out.1,b2,by rw[b7.out];exact HF.out,a5,b9,c3⟩
def Qdi (s:Sums)(k:Int):Int:=if k=0 then s.atoms else if k=1 then s.breaks else 0
theorem Qn0 (s:Sums)(k:Int)(w:World) :
  Calls Tryz.prog 218 #[.agg s.cells,.int .i64 k] w fun e w'=>e=.returned (.int .i64 (Qdi s k))/\ZB w w':=by
 simp only[Sums.cells]
 have c:ZB w (w.alloc (.cells #[.int .i64 s.atoms,.int .i64 s.bytes,.int .i64 s.breaks,.bool s.lf,.bool s.cr] 99)):=Qa (Below.refl _ _)
 have b : ∀v,v=Qdi s k->Ending.returned (.int .i64 v)=.returned (.int .i64 (Qdi s k)):=fun v h=>by rw[h]
 by_cases h0:k=0
 ·have e:s.atoms=Qdi s k:=by unfold Qdi;rw[if_pos h0]
  have a:=Zh e
  have q:(k==0)=true:=by rw[beq_iff_eq];exact h0
  clear e h0
  go_enter Tryz.func218,Tryz.ntmps218
  go_wp2_with fail
  go_ret
  exact⟨b _ a.out,c⟩
 ·have d:(k==0)=false:=by rw[beq_eq_false_iff_ne];exact h0
  by_cases h1:k=1
  ·have e:s.breaks=Qdi s k:=by unfold Qdi;rw[if_neg h0,if_pos h1]
   have a:=Zh e
   have q:(k==1)=true:=by rw[beq_iff_eq];exact h1
   clear e h0 h1
   go_enter Tryz.func218,Tryz.ntmps218
   go_wp2_with fail
   go_ret
   exact⟨b _ a.out,c⟩
  ·have e:0=Qdi s k:=by unfold Qdi;rw[if_neg h0,if_neg h1]
   have a:=Zh e
   have q:(k==1)=false:=by rw[beq_eq_false_iff_ne];exact h1
   clear e h0 h1
   go_enter Tryz.func218,Tryz.ntmps218
   go_wp2_with fail
   go_ret
   exact⟨b _ a.out,c⟩
theorem Qql (s : Sums)(w : World) : (method 399 99 (.agg s.cells) "Key").run Tryz.prog w = .ok (218, .agg s.cells) w := by kernel_rfl
theorem Qig {a b:Sums}(h:a.good)(d:b.good)(k:Int):Qdi a k<=Qdi (QM a b) k:=by
 obtain⟨l,j,p,f,n,o⟩:=h
 obtain⟨m,q,r,b4,g,i⟩:=d
 by_cases h1:a.atoms=0
 ·have e:=f h1
  rw[e,QH]
  unfold Qdi
  simp only[Qq]
  split
  ·omega
  ·split<;>omega
 ·by_cases h2:b.atoms=0
  ·have e:QM a b=a:=by unfold QM;rw[if_neg h1,if_pos h2]
   rw[e]
   exact Int.le_refl _
  ·rw[Qew h1 h2]
   unfold Qdi
   dsimp only
   split
   ·omega
   ·split
    ·split
     ·rename_i c
      simp only[Bool.and_eq_true] at c
      have:=g c.2
      omega
     ·omega
    ·omega
def QbT (k n:Int):Sums->List Pc->Int
 |_,[]=>1
 |s,p::ps=>if n<=Qdi (QM s p.sum) k then 1 else QbT k n (QM s p.sum) ps+1
theorem Qga (k n:Int)(m:List Pc) : ∀(l:List Pc) (s:Sums),s.good->AllGood l->¬n<=Qdi s k->n<=Qdi (QM s (Qdq l)) k->QbT k n s (l++m)=QbT k n s l
 | [],s,hs,_,h1,h2=>by rw[QbU,Qz hs] at h2;exact absurd h2 h1
 |p::l,s,hs,hl,h1,h2=>by
  have hp:=hl p List.mem_cons_self
  have a:AllGood l:=fun q c=>hl q (List.mem_cons_of_mem _ c)
  rw[List.cons_append]
  unfold QbT
  split
  ·rfl
  ·rename_i b
   rw[Qga k n m l (QM s p.sum) (QE hs hp).1 a b (by rw[QaA hs hp (QI a).1];exact h2)]
theorem Qfi (k n:Int)(m:List Pc) : ∀(l:List Pc) (s:Sums),s.good->AllGood l->¬n<=Qdi (QM s (Qdq l)) k->QbT k n s (l++m)=QbT k n (QM s (Qdq l)) m+l.length
 | [],s,hs,_,h2=>by rw[QbU,Qz hs];simp
 |p::l,s,hs,hl,h2=>by
  have hp:=hl p List.mem_cons_self
  have a:AllGood l:=fun q b=>hl q (List.mem_cons_of_mem _ b)
  have e:QM (QM s p.sum) (Qdq l)=QM s (Qdq (p::l)):=by rw[QaL,QaA hs hp (QI a).1]
  have hm:=Qig (QE hs hp).1 (QI a).1 k
  rw[e] at hm
  rw[List.cons_append]
  rw[show QbT k n s (p::(l++m))=if n<=Qdi (QM s p.sum) k then 1 else QbT k n (QM s p.sum) (l++m)+1 from rfl]
  rw[if_neg (by omega),Qfi k n m l (QM s p.sum) (QE hs hp).1 a (by rw[e];exact h2),e,List.length_cons]
  omega
end Go.Proofs.YtgiihhikdoikgaaGreat
