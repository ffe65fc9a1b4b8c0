/-
  The walks of package piece: Seek.
-/
import Derived.Test.YtgiihhikdoikgaaGreatLWalk
import Derived.Maps.AppendAt
set_option linter.unusedSimpArgs false
set_option linter.unusedVariables false
set_option maxRecDepth 100000
set_option maxHeartbeats 32000000
namespace Go.Proofs.YtgiihhikdoikgaaGreat
open Go.RowKit
theorem QnT {enc:Int}{ps:List Pc}(c : ∀p ∈ ps,PcOk enc p){at_:Int}{i n:Nat}(j:Qgx enc ps at_ i n){p:Pc}(hp:ps[i]? = some p)(k:at_<=((QC enc ps).length:Int)) :
  QM (Qdq (ps.take i)) (Qi ((dec enc p.bytes).take n))=Qi ((QC enc ps).take at_.toNat):=by
 obtain⟨h1,h2,l⟩:=j
 have a:i<ps.length:=by
  rcases Nat.lt_or_ge i ps.length with h|h
  ·exact h
  ·rw[List.getElem?_eq_none h] at hp;cases hp
 have b:ps=ps.take i++p::ps.drop (i+1):=by
  rw[List.getElem?_eq_getElem a] at hp
  injection hp with hp
  rw[<-hp,<-List.drop_eq_getElem_cons a,List.take_append_drop]
 have hn:n<=(dec enc p.bytes).length:=by
  rcases Nat.lt_or_ge 0 n with e|e
  ·obtain⟨_,_,d⟩:=l (by omega)
   have:ps.take (i+1)=ps.take i++[p]:=by rw[List.take_add_one,hp];rfl
   rw[this,Qax,List.length_append] at d
   simp[QC] at d ⊢
   simp[QC] at h2
   omega
  ·omega
 have f:(QC enc ps).take at_.toNat=QC enc (ps.take i)++(dec enc p.bytes).take n:=by
  conv=>lhs;rw[b]
  rw[Qax,QS,List.take_append,List.take_of_length_le (by omega),show at_.toNat-(QC enc (ps.take i)).length=n by omega,List.take_append_of_le_length hn]
 rw[f,Qes (Qai enc _) ((Qbu enc _).take n),Qa6 (fun q g=>c q (List.mem_of_mem_take g))]
theorem QR {w:World}{b:Nat}{x:Pc}(h:Blk w b 107 x.cells) :
  w.cell? ⟨b,0,none⟩=some (.slice x.A x.n x.c)/\w.cell? ⟨b,1,none⟩=some (.int .i64 x.tag)/\w.cell? ⟨b,2,none⟩=some (.int .i64 x.sum.atoms)/\w.cell? ⟨b,3,none⟩=some (.int .i64 x.sum.bytes)/\w.cell? ⟨b,4,none⟩=some (.int .i64 x.sum.breaks)/\w.cell? ⟨b,5,none⟩=some (.bool x.sum.lf)/\w.cell? ⟨b,6,none⟩=some (.bool x.sum.cr):=
 (QG h).1
def QrY (w:World)(c:Nat)(a b:Sums)(wx:World):Prop:=ZB w wx/\Blk wx w.heap.size 99 b.cells/\Blk wx c 99 a.cells
section
variable {w w1:World} {p0 p1 p2 p3 p4 p5 p6 p7 r:Addr} {v0 v1 v2 v3 v4 v5 v6 v7 x:Value} {o:Obj}
theorem QfZ (a:ZB w w1)(h:w.cell? p0=some v0/\w.cell? p1=some v1/\w.cell? p2=some v2/\w.cell? p3=some v3/\w.cell? p4=some v4/\w.cell? p5=some v5/\w.cell? p6=some v6/\w.cell? p7=some v7) :
  w1.cell? p0=some v0/\w1.cell? p1=some v1/\w1.cell? p2=some v2/\w1.cell? p3=some v3/\w1.cell? p4=some v4/\w1.cell? p5=some v5/\w1.cell? p6=some v6/\w1.cell? p7=some v7:=
 ⟨Qh a h.1,Qh a h.2.1,Qh a h.2.2.1,Qh a h.2.2.2.1,Qh a h.2.2.2.2.1,Qh a h.2.2.2.2.2.1,Qh a h.2.2.2.2.2.2.1,Qh a h.2.2.2.2.2.2.2⟩
theorem QaZ (h:w.cell? p0=some v0/\w.cell? p1=some v1/\w.cell? p2=some v2/\w.cell? p3=some v3/\w.cell? p4=some v4/\w.cell? p5=some v5/\w.cell? p6=some v6/\w.cell? p7=some v7) :
  w.drew.cell? p0=some v0/\w.drew.cell? p1=some v1/\w.drew.cell? p2=some v2/\w.drew.cell? p3=some v3/\w.drew.cell? p4=some v4/\w.drew.cell? p5=some v5/\w.drew.cell? p6=some v6/\w.drew.cell? p7=some v7:=h
theorem Qbt (h:w.cell? p0=some v0/\w.cell? p1=some v1/\w.cell? p2=some v2/\w.cell? p3=some v3/\w.cell? p4=some v4/\w.cell? p5=some v5/\w.cell? p6=some v6/\w.cell? p7=some v7) :
  (w.alloc o).cell? p0=some v0/\(w.alloc o).cell? p1=some v1/\(w.alloc o).cell? p2=some v2/\(w.alloc o).cell? p3=some v3/\(w.alloc o).cell? p4=some v4/\(w.alloc o).cell? p5=some v5/\(w.alloc o).cell? p6=some v6/\(w.alloc o).cell? p7=some v7:=
 QfZ (Qa (Below.refl _ _)) h
theorem Qbx {w:World}{p r:Addr}{v x:Value}(a:p.block≠r.block)(h:w.cell? p=some v):(w.setCell r x).cell? p=some v:=(World.cell?_of_block (w:=w) (Below.heap_setCell w r x p.block a)).trans h
theorem Qhe {b:Nat}{g:Nat}{j:Nat}(h1:b≠r.block)(h2:g≠r.block)(h:w.cell? ⟨b,0,none⟩=some v0/\w.cell? ⟨b,1,none⟩=some v1/\w.cell? ⟨b,2,none⟩=some v2/\w.cell? ⟨b,3,none⟩=some v3/\w.cell? ⟨b,4,none⟩=some v4/\w.cell? ⟨b,5,none⟩=some v5/\w.cell? ⟨b,6,none⟩=some v6/\w.cell? ⟨g,j,none⟩=some v7) :
  (w.setCell r x).cell? ⟨b,0,none⟩=some v0/\(w.setCell r x).cell? ⟨b,1,none⟩=some v1/\(w.setCell r x).cell? ⟨b,2,none⟩=some v2/\(w.setCell r x).cell? ⟨b,3,none⟩=some v3/\(w.setCell r x).cell? ⟨b,4,none⟩=some v4/\(w.setCell r x).cell? ⟨b,5,none⟩=some v5/\(w.setCell r x).cell? ⟨b,6,none⟩=some v6/\(w.setCell r x).cell? ⟨g,j,none⟩=some v7:=
 ⟨Qbx h1 h.1,Qbx h1 h.2.1,Qbx h1 h.2.2.1,Qbx h1 h.2.2.2.1,Qbx h1 h.2.2.2.2.1,Qbx h1 h.2.2.2.2.2.1,Qbx h1 h.2.2.2.2.2.2.1,Qbx h2 h.2.2.2.2.2.2.2⟩
end
theorem QiP {w w1:World}(a:Below w.drew.heap.size w.drew w1):w.heap.size<=w1.heap.size:=a.size
theorem Qi9 {w w1:World}{o:Obj}(a:Below (w.alloc o).drew.heap.size (w.alloc o).drew w1):w.heap.size<w1.heap.size:=by
 have:=a.size
 rw[show (w.alloc o).drew.heap.size=(w.alloc o).heap.size from rfl,World.size_alloc] at this
 exact this
theorem QjA {w w1:World}{o o':Obj}(a:Below ((w.alloc o).alloc o').drew.heap.size ((w.alloc o).alloc o').drew w1):w.heap.size+1<w1.heap.size:=by
 have:=a.size
 rw[show ((w.alloc o).alloc o').drew.heap.size=((w.alloc o).alloc o').heap.size from rfl,World.size_alloc,World.size_alloc] at this
 exact this
theorem QjD {w w1:World}(a:Below (w.alloc (.cells #[.slice none 0 0,.int .i64 0,.int .i64 0,.int .i64 0,.int .i64 0,.bool false,.bool false] 107)).drew.heap.size (w.alloc (.cells #[.slice none 0 0,.int .i64 0,.int .i64 0,.int .i64 0,.int .i64 0,.bool false,.bool false] 107)).drew w1):(w1.cell? ⟨w.heap.size,0,none⟩=some (.slice none 0 0)/\w1.cell? ⟨w.heap.size,1,none⟩=some (.int .i64 0)/\w1.cell? ⟨w.heap.size,2,none⟩=some (.int .i64 0)/\w1.cell? ⟨w.heap.size,3,none⟩=some (.int .i64 0)/\w1.cell? ⟨w.heap.size,4,none⟩=some (.int .i64 0)/\w1.cell? ⟨w.heap.size,5,none⟩=some (.bool false)/\w1.cell? ⟨w.heap.size,6,none⟩=some (.bool false))/\w1.frozen? ⟨w.heap.size,0,none⟩=false/\w1.frozen? ⟨w.heap.size,1,none⟩=false/\w1.frozen? ⟨w.heap.size,2,none⟩=false/\w1.frozen? ⟨w.heap.size,3,none⟩=false/\w1.frozen? ⟨w.heap.size,4,none⟩=false/\w1.frozen? ⟨w.heap.size,5,none⟩=false/\w1.frozen? ⟨w.heap.size,6,none⟩=false:=
 QG (A:=none) (n:=0) (c:=0) (tag:=0) (s:=Qq) ((Blk.new w _ _).drew.below a)
theorem Qjb {w w1:World}(a:Below ((w.alloc (.cells #[.slice none 0 0,.int .i64 0,.int .i64 0,.int .i64 0,.int .i64 0,.bool false,.bool false] 107)).alloc (.cells #[.slice none 0 0,.int .i64 0,.int .i64 0,.int .i64 0,.int .i64 0,.bool false,.bool false] 107)).drew.heap.size ((w.alloc (.cells #[.slice none 0 0,.int .i64 0,.int .i64 0,.int .i64 0,.int .i64 0,.bool false,.bool false] 107)).alloc (.cells #[.slice none 0 0,.int .i64 0,.int .i64 0,.int .i64 0,.int .i64 0,.bool false,.bool false] 107)).drew w1):((w1.cell? ⟨w.heap.size,0,none⟩=some (.slice none 0 0)/\w1.cell? ⟨w.heap.size,1,none⟩=some (.int .i64 0)/\w1.cell? ⟨w.heap.size,2,none⟩=some (.int .i64 0)/\w1.cell? ⟨w.heap.size,3,none⟩=some (.int .i64 0)/\w1.cell? ⟨w.heap.size,4,none⟩=some (.int .i64 0)/\w1.cell? ⟨w.heap.size,5,none⟩=some (.bool false)/\w1.cell? ⟨w.heap.size,6,none⟩=some (.bool false))/\w1.frozen? ⟨w.heap.size,0,none⟩=false/\w1.frozen? ⟨w.heap.size,1,none⟩=false/\w1.frozen? ⟨w.heap.size,2,none⟩=false/\w1.frozen? ⟨w.heap.size,3,none⟩=false/\w1.frozen? ⟨w.heap.size,4,none⟩=false/\w1.frozen? ⟨w.heap.size,5,none⟩=false/\w1.frozen? ⟨w.heap.size,6,none⟩=false)/\((w1.cell? ⟨w.heap.size+1,0,none⟩=some (.slice none 0 0)/\w1.cell? ⟨w.heap.size+1,1,none⟩=some (.int .i64 0)/\w1.cell? ⟨w.heap.size+1,2,none⟩=some (.int .i64 0)/\w1.cell? ⟨w.heap.size+1,3,none⟩=some (.int .i64 0)/\w1.cell? ⟨w.heap.size+1,4,none⟩=some (.int .i64 0)/\w1.cell? ⟨w.heap.size+1,5,none⟩=some (.bool false)/\w1.cell? ⟨w.heap.size+1,6,none⟩=some (.bool false))/\w1.frozen? ⟨w.heap.size+1,0,none⟩=false/\w1.frozen? ⟨w.heap.size+1,1,none⟩=false/\w1.frozen? ⟨w.heap.size+1,2,none⟩=false/\w1.frozen? ⟨w.heap.size+1,3,none⟩=false/\w1.frozen? ⟨w.heap.size+1,4,none⟩=false/\w1.frozen? ⟨w.heap.size+1,5,none⟩=false/\w1.frozen? ⟨w.heap.size+1,6,none⟩=false):=by
 refine⟨QG (A:=none) (n:=0) (c:=0) (tag:=0) (s:=Qq) (((Blk.new w _ _).alloc _).drew.below a),?_⟩
 have:=Blk.new (w.alloc (.cells #[.slice none 0 0,.int .i64 0,.int .i64 0,.int .i64 0,.int .i64 0,.bool false,.bool false] 107)) 107 #[.slice none 0 0,.int .i64 0,.int .i64 0,.int .i64 0,.int .i64 0,.bool false,.bool false]
 rw[World.size_alloc] at this
 exact QG (A:=none) (n:=0) (c:=0) (tag:=0) (s:=Qq) (this.drew.below a)
theorem Qio (D:Nat->Prop)(g:Nat)(enc lim:Int)(t:Tr)(a:Option Addr)(add:Value)(at_:Int)(w:World)(h:TextIn w D g enc lim t a add)(h0:0<=at_)(h1:at_<=((QC enc t.list).length:Int)) :
  Calls Tryz.prog 113 #[.pointer (some ⟨g,0,none⟩),.int .i64 at_] w fun e w'=>e=.returned (.agg (Qi ((QC enc t.list).take at_.toNat)).cells)/\ZB w w':=by
 obtain⟨V,hV⟩:=ZN (Qi ((QC enc t.list).take at_.toNat))
 rw[hV]
 have HV:=Zh hV
 clear hV
 have hW:ZB w (w.alloc (.cells Qq.cells 99)):=Qa (Below.refl _ w)
 have b4:Blk (w.alloc (.cells Qq.cells 99)) w.heap.size 99 Qq.cells:=Blk.new w _ _
 have hf:=Qd4 D g enc lim t a add at_ _ (h.below hW) h0 h1
 have HF:=Zh hf
 have d0:=h.decLen
 have Z:=h.len
 have c3:=h.tot
 have a1:at_<=1073741824:=by omega
 clear hf
 simp only[Sums.cells,Qq] at HF
 go_enter Tryz.func113,Tryz.ntmps113
 go_wp2_with fail
 refine(HF.out).mono ?_
 rintro e w1 ⟨i,nn,rfl,K,a4⟩
 have X:=Qf hW a4
 obtain⟨c0,c2⟩:=(h.below X).cells
 have b3:=b4.below a4
 have c1:=K.1
 have d3:nn<=1073741824:=by have:=K.2.1;omega
 have W:=Zh K
 have hu:=fun(w':World) (hb:ZB w w')=>QgO t a (i:Int) w' (NodeAt.below hb t a h.node) Z (by omega) h.good (by omega)
 have a2:=fun(w':World) (hb:ZB w w')=>QgA t a (i:Int) w' (NodeAt.below hb t a h.node) Z (by omega)
 obtain⟨z,a7⟩:∃S,Qdq (t.list.take i)=S:=⟨_,rfl⟩
 obtain⟨op,a6⟩:∃p,t.list[i]? = p:=⟨_,rfl⟩
 have Y:t.get (i:Int)=op:=by unfold Tr.get;rw[if_neg (by omega),Int.toNat_natCast];exact a6
 rw[Int.toNat_natCast,a7] at hu
 rw[Y] at a2
 have E:=Zh a7
 have J:=Zh a6
 have HU:=Zh hu
 have b0:=Zh a2
 have g1:z.good:=by rw[<-E.out];exact(QI (Qc4 h.good i)).1
 have o1 : z.ok := g1.ok (by
  have:=(QI (Qc4 h.good i)).2
  have:=QmR h.good i
  rw[<-E.out]
  omega)
 clear hu a2 a7 a6 Y K b4 c1
 simp only[Sums.cells] at HU
 go_wp2_with fail
 refine(HU.out _ X).mono ?_
 rintro e I ⟨rfl,a0⟩
 have R:=Qf X a0
 obtain⟨c0,c2⟩:=(h.below R).cells
 have a8:=b3.below a0
 have zg:=(h.below R).blk.lt
 have z4:=a8.lt
 go_wp2_with fail
 have U:=Qa (o:=.cells z.cells 99) R
 have a3:=a8.alloc (.cells z.cells 99)
 have a5:Blk (I.alloc (.cells z.cells 99)) I.heap.size 99 z.cells:=Blk.new I _ _
 simp only[Sums.cells] at U a3 a5
 refine(b0.out _ U).mono ?_
 rintro e w3 ⟨rfl,N⟩
 have y:=Qf U N
 have B:=a3.below N
 have u:=a5.below N
 have c8:w.heap.size<I.heap.size:=z4
 have T:=B.lt
 have M:=u.lt
 have c5:=(h.below y).blk.lt
 clear U a3 a5 a4 a0 N HF HU b0 b3 a8 c0 c2 zg z4 hW X R
 cases op with
 |none=>
  have Q:V=z:=by
   rw[<-HV.out,<-E.out]
   have h2:=W.out.2.1
   have h3:=W.out.2.2
   have hz:at_=0:=by
    rcases Int.lt_or_le 0 at_ with h|h
    ·obtain⟨h4,_⟩:=h3 h
     have:=J.out
     rw[List.getElem?_eq_getElem h4] at this
     cases this
    ·omega
   rw[Qa6 (fun q hq=>h.ok q (List.mem_of_mem_take hq)),List.eq_nil_of_length_eq_zero (l:=QC enc (t.list.take i)) (by omega),hz]
   rfl
  subst Q
  simp only[QfD]
  go_upto_if 33 with fail
  go_cut [] (fun wx=>QrY w I.heap.size V Qq wx)
  case first=>
   go_wp2_with fail
   go_meet
   exact⟨Qa y,B.alloc _,u.alloc _⟩
  case rest=>
   obtain⟨f,F,k⟩:=hcut
   clear B u T M y c0 c2
   obtain⟨g0,g1,g2,g3,g4,_⟩:=Qw k
   obtain⟨j0,j1,j2,j3,j4,u0,u1,u2,u3,u4⟩:=Qw F
   go_wp2_with fail
   refine bodyPost_ret (v:=.agg V.cells) (by simp[results,Tryz.results113,go_sem,Sums.cells,j0,j1,j2,j3,j4]) rfl ⟨rfl,?_⟩
   exact Qay (s':=V) f (Nat.le_refl _)
 |some p=>
  obtain⟨b,pc⟩:∃b:Bool,b=true:=⟨true,rfl⟩
  have L:=h.ok p (List.mem_of_getElem? J.out)
  have b2:=h.bts p (List.mem_of_getElem? J.out)
  have hcut:=fun(w':World) (hb:ZB w w')=>QiK enc D p (nn:Int) w' h.enc4 L (Reads.below b2 hb) (by omega) (by omega)
  simp only[Qr4,Int.toNat_natCast] at hcut
  obtain⟨S2,P⟩:∃S,Qi ((dec enc p.bytes).take nn)=S:=⟨_,rfl⟩
  have Q:QM z S2=V:=by rw[<-HV.out,<-E.out,<-P];exact QnT h.ok W.out J.out h1
  have o2:S2.ok:=by
   have h1:=Qm ((Qbu enc p.bytes).take nn)
   have h2:=(Qhy enc p.bytes.length p.bytes (Nat.le_refl _)).2
   have h3:=Qbo enc nn p.bytes
   unfold szs at h3
   rw[<-P]
   refine h1.1.ok ?_
   rw[h1.2.2]
   have h4:=L.len
   have h5:=L.nle
   omega
  rw[P] at hcut
  obtain⟨m1,b1⟩:∃m,(szs enc p.bytes nn).toNat=m:=⟨_,rfl⟩
  rw[b1] at hcut
  obtain⟨A2,n2,d1,t2,S3,G⟩:∃(A2:Option Addr) (n2 c2:Nat) (t2:Int) (S3:Sums),Qx (if p.c=m1 then p.A else p.A.map (·.add m1)) (p.n-m1) (p.c-m1) (if 0<=p.tag then p.tag+szs enc p.bytes nn else p.tag) (Qi ((dec enc p.bytes).drop nn))=Qx A2 n2 c2 t2 S3:=⟨_,_,_,_,_,rfl⟩
  rw[G] at hcut
  simp only[Qx,Pc.cells] at hcut
  have H:=Zh hcut
  have b5:=Zh Q
  clear hcut Q P b1 G L b2 pc HV W E g1
  simp only[QfD]
  go_upto_if 33 with fail
  go_cut [] (fun wx=>QrY w I.heap.size V Qq wx)
  case first=>
   obtain⟨w4,s⟩:=ZN (w3.alloc (.cells #[.slice p.A p.n p.c,.int .i64 p.tag,.int .i64 p.sum.atoms,.int .i64 p.sum.bytes,.int .i64 p.sum.breaks,.bool p.sum.lf,.bool p.sum.cr] 107))
   rw[s]
   have f:ZB w w4:=by rw[<-s];exact Qa y
   have F:Blk w4 w.heap.size 99 Qq.cells:=by rw[<-s];exact B.alloc _
   have k:Blk w4 I.heap.size 99 z.cells:=by rw[<-s];exact u.alloc _
   have j:Blk w4 w3.heap.size 107 p.cells:=by rw[<-s];exact Blk.new w3 _ _
   have d4:w.heap.size<w3.heap.size:=T
   have c4:I.heap.size<w3.heap.size:=M
   clear s B u T M y c0 c2
   have ct:=(h.below f).cells.1
   go_upto_region 5 with fail
   have c6:=(h.below f).blk.lt
   have d2:=j.lt
   have s0:(w4.cell? ⟨w3.heap.size,0,none⟩=some (.slice p.A p.n p.c)/\w4.cell? ⟨w3.heap.size,1,none⟩=some (.int .i64 p.tag)/\w4.cell? ⟨w3.heap.size,2,none⟩=some (.int .i64 p.sum.atoms)/\w4.cell? ⟨w3.heap.size,3,none⟩=some (.int .i64 p.sum.bytes)/\w4.cell? ⟨w3.heap.size,4,none⟩=some (.int .i64 p.sum.breaks)/\w4.cell? ⟨w3.heap.size,5,none⟩=some (.bool p.sum.lf)/\w4.cell? ⟨w3.heap.size,6,none⟩=some (.bool p.sum.cr)/\w4.cell? ⟨g,0,none⟩=some (.int .i64 enc)):=⟨(QR j).1,(QR j).2.1,(QR j).2.2.1,(QR j).2.2.2.1,(QR j).2.2.2.2.1,(QR j).2.2.2.2.2.1,(QR j).2.2.2.2.2.2,ct⟩
   have b7:=QaZ s0
   have zz:w4.drew.heap.size=w4.heap.size:=rfl
   have ZZ:=Zh zz
   clear zz ct
   go_region_held3 (fun w'=>(w'.cell? ⟨w3.heap.size,0,none⟩=some (.slice p.A p.n p.c)/\w'.cell? ⟨w3.heap.size,1,none⟩=some (.int .i64 p.tag)/\w'.cell? ⟨w3.heap.size,2,none⟩=some (.int .i64 p.sum.atoms)/\w'.cell? ⟨w3.heap.size,3,none⟩=some (.int .i64 p.sum.bytes)/\w'.cell? ⟨w3.heap.size,4,none⟩=some (.int .i64 p.sum.breaks)/\w'.cell? ⟨w3.heap.size,5,none⟩=some (.bool p.sum.lf)/\w'.cell? ⟨w3.heap.size,6,none⟩=some (.bool p.sum.cr)/\w'.cell? ⟨g,0,none⟩=some (.int .i64 enc))) (first|(with_reducible assumption)|((repeat (first|(with_reducible refine Qhe (by dsimp only;omega) (by dsimp only;omega) ?_)|(with_reducible refine Qbt ?_)|(with_reducible refine QaZ ?_)));with_reducible assumption)) (first|(go_at_call 141;(with_reducible refine(H.out w4.drew f.drew).mono ?_);rintro e w5 ⟨rfl,d⟩;have s1:=QfZ d (QaZ s0);have a9:=QiP d;have C:=Qf (Below.refl _ w4).drew d)|(go_at_call 141;(with_reducible refine(H.out (w4.alloc (.cells #[.slice none 0 0,.int .i64 0,.int .i64 0,.int .i64 0,.int .i64 0,.bool false,.bool false] 107)).drew (Qa f).drew).mono ?_);rintro e w5 ⟨rfl,d⟩;have s1:=QfZ d (QaZ (Qbt s0));have a9:=Qi9 d;obtain⟨⟨g0,g1,g2,g3,g4,g5,g6⟩,v0,v1,v2,v3,v4,v5,v6⟩:=QjD d;have C:=Qf (Qa (Below.refl _ w4)).drew d)|(go_at_call 141;(with_reducible refine(H.out ((w4.alloc (.cells #[.slice none 0 0,.int .i64 0,.int .i64 0,.int .i64 0,.int .i64 0,.bool false,.bool false] 107)).alloc (.cells #[.slice none 0 0,.int .i64 0,.int .i64 0,.int .i64 0,.int .i64 0,.bool false,.bool false] 107)).drew (Qa (Qa f)).drew).mono ?_);rintro e w5 ⟨rfl,d⟩;have s1:=QfZ d (QaZ (Qbt (Qbt s0)));have a9:=QjA d;obtain⟨⟨⟨g0,g1,g2,g3,g4,g5,g6⟩,v0,v1,v2,v3,v4,v5,v6⟩,⟨j0,j1,j2,j3,j4,j5,j6⟩,u0,u1,u2,u3,u4,u5,u6⟩:=Qjb d;have C:=Qf (Qa (Qa (Below.refl _ w4))).drew d))
   all_goals
    have c9:I.heap.size<w5.heap.size:=by have:=C.size;omega
    have c7:I.heap.size<w4.heap.size:=by omega
    obtain⟨n0,n1,n2,n3,n4,r0,r1,r2,r3,r4⟩:=Qw (k.below C)
    clear b7
    go_wp2_with (first|(go_at_call 118;refine(QbB z S2 _ o1 o2).mono ?_;rintro e w6 ⟨rfl,b8⟩;have O:=Qf (a:=w4) (by repeat (first|with_reducible exact C|(with_reducible refine Qa ?_)|(with_reducible refine Below.setCell ?_ (by dsimp only;omega) _))) b8;obtain⟨k0,k1,k2,k3,k4,l0,l1,l2,l3,l4⟩:=Qw (k.below O)))
    go_meet
    have b9:=F.below O
    have b6:=k.below O
    refine⟨Qay (s':=QM z S2) (Qf f O) (by omega),QdH (s':=QM z S2) b9 (by omega),?_⟩
    rw[<-b5.out]
    exact Qdb (s':=QM z S2) b6
  case rest=>
   obtain⟨f,F,k⟩:=hcut
   clear B u T M y c0 c2
   obtain⟨g0,g1,g2,g3,g4,_⟩:=Qw k
   obtain⟨j0,j1,j2,j3,j4,u0,u1,u2,u3,u4⟩:=Qw F
   go_wp2_with fail
   refine bodyPost_ret (v:=.agg V.cells) (by simp[results,Tryz.results113,go_sem,Sums.cells,j0,j1,j2,j3,j4]) rfl ⟨rfl,?_⟩
   exact Qay (s':=V) f (Nat.le_refl _)
theorem Qk5 (D:Nat->Prop)(g:Nat)(enc:Int)(q:List (Int × Int))(F:FuncId)(caps:Array Value)(f tt:Int)(w:World)(h:TextAt w D g enc q)(j:min tt q.length<=max f 0) :
  Calls Tryz.prog 97 #[.pointer (some ⟨g,0,none⟩),.int .i64 f,.int .i64 tt,.func (.func F) #[] caps] w fun e w'=>e=.returned (.tuple #[])/\ZB w w':=by
 obtain⟨c,a⟩:=ZN ((w.alloc (.cells #[.pointer (some ⟨g,0,none⟩)] 33)).alloc (.cells #[.func (.func F) #[] caps] 144))
 have i:ZB w c:=by rw[<-a];exact Qa (Qa (Below.refl _ w))
 have b4:Blk c w.heap.size 33 #[.pointer (some ⟨g,0,none⟩)]:=by rw[<-a];exact(Blk.new w _ _).alloc _
 have o:=QaS D g enc _ c (h.below i)
 have p:=h.len
 obtain⟨n,m⟩:=ZN (q.length)
 rw[m] at o p j
 have k:=Zh a
 have v:=Zh o
 clear a o m
 go_enter Tryz.func97,Tryz.ntmps97
 go_upto_region 1 with fail
 have s:=k.out
 rw[s]
 clear s k
 go_cut [1,2] (fun t x wx=>t=.int .i64 (max f 0)/\x=.int .i64 (min tt n)/\ZB w wx)
 case first=>
  have u:=b4.cell 0
  simp at u
  by_cases q0:f<0<;>by_cases t:tt<=n
  all_goals
   go_wp2_with fail
   refine(v.out).mono ?_
   rintro e w1 ⟨rfl,b⟩
   go_wp2_with fail
   go_meet
   exact⟨QoW (by omega),QoW (by omega),Qf i b⟩
 case rest=>
  obtain⟨rfl,rfl,b⟩:=hcut
  obtain⟨r,d⟩:=ZN (max f 0)
  obtain⟨m2,l⟩:=ZN (min tt (n:Int))
  rw[d,l] at j ⊢
  clear d l
  go_wp2_with fail
  exact bodyPost_ret (results_none rfl _ _ _) rfl ⟨rfl,b⟩
theorem Qos {α : Type}(f tt:Int)(l:List α)(h:min tt (l.length:Int)<=max f 0):seg f tt l=[]:=by
 unfold seg
 by_cases h1:tt<=max f 0
 ·rw[show tt.toNat-f.toNat=0 by omega,List.take_zero]
 ·rw[List.drop_eq_nil_of_le (by omega),List.take_nil]
def TextTag (w:World)(D:Nat->Prop)(g:Nat)(enc:Int)(ats:List (Int × Int)):Prop:=∃lim t a add,TextIn w D g enc lim t a add/\QaM enc t.list=ats
theorem TextAt.tags {w:World}{D:Nat->Prop}{g:Nat}{enc:Int}{b:List (Int × Int)}(h:TextAt w D g enc b):∃ats,TextTag w D g enc ats/\ats.map Prod.fst=b.map Prod.fst:=by
 obtain⟨lim,t,a,add,h,rfl⟩:=h
 exact⟨_,⟨lim,t,a,add,h,rfl⟩,Qhj _ _⟩
theorem QfJ {σ : Type}(F:FuncId)(caps:Array Value)(J : σ -> (Nat->Prop)->World->Prop)(step : σ -> Int->Int -> σ)(size : σ -> Nat)(l:Sees F caps J step size)(D:Nat->Prop)(g:Nat)(enc:Int)(ats:List (Int × Int))(f tt:Int)
  (i : σ) (c:Nat->Prop) (w:World) (h:TextTag w D g enc ats) (p : ∀b,D b->b<w.heap.size->¬c b) (k:J i c w) (m:size i<=1000) (o : -2147483648<=f) (q:tt<=2147483648) :
  Calls Tryz.prog 97 #[.pointer (some ⟨g,0,none⟩),.int .i64 f,.int .i64 tt,.func (.func F) #[] caps] w fun e w'=>QeY J ((seg f tt ats).foldl (fun s a=>step s a.1 a.2) i) c w e w':=by
 obtain⟨lim,t,a,add,h,rfl⟩:=h
 by_cases hft:max f 0<min tt (QC enc t.list).length
 ·exact QlB F caps J step size l D g enc lim t a add f tt i c w h p k m o q hft
 ·refine(Qk5 D g enc _ F caps f tt w ⟨lim,t,a,add,h,rfl⟩ (by omega)).mono ?_
  rintro e w' ⟨rfl,d⟩
  rw[Qos f tt _ (by rw[QaQ];omega)]
  refine⟨rfl,⟨c,?_,fun b d=>.inl d⟩,Fr.of_below d⟩
  exact l.keep _ _ _ _ k (fun b n=>by obtain⟨r,T,j,_⟩:=l.kind _ _ _ b k n;exact d.block b j.lt)
def Qpn (base g:Nat)(s:List Int)(X:Nat->Prop)(w:World):Prop:=∃v,Blk w g 36 #[v]/\w.ownsRow base 3 1 v s.length (s.map (Value.int .i64))/\X=fun b=>b=g\/v.ownBlock=some b
theorem Qlx (base g:Nat)(a tg:Int)(xs:List Int)(X:Nat->Prop)(w:World)(h:Qpn base g xs X w)(D:base<=g)(E:base<=w.heap.size)(hn:xs.length<=2147483648) :
  Calls Tryz.prog 98 #[.int .i64 a,.int .i64 tg,.pointer (some ⟨g,0,none⟩)] w fun e w'=>QeY (Qpn base g) (xs++[a]) X w e w':=by
 obtain⟨v,j,t,rfl⟩:=h
 obtain⟨C,z,n,p,o⟩:=info_parts Qa3
 have c0:=j.cell 0
 have A:=j.frozen 0
 simp at c0
 have u:=j.lt
 go_enter Tryz.func98,Tryz.ntmps98
 go_wp2_with (at_builtin;refine wpList_append_own_at _ rfl (.tmp 5) (.tmp 7) 36 rfl base 3 C (.int .i64 0) 1 8 Tryz.underlying36 z n p o rfl (by decide) v xs.length _ rfl (t.alloc _) ⟨w.heap.size,0,none⟩ 1 1 [.int .i64 a] rfl rfl ?c1 ?c2 ?c3 ?c4 ?c5 ?_)
 case c1=>exact cell_one_new _ _ _
 case c2=>simp[Value.oneCell']
 case c3=>unfold maxLen;omega
 case c4=>omega
 case c5=>simp;omega
 intro x w1 c l _ k
 have d:Blk w1 g 36 #[v]:=(j.alloc _).grown l (fun e=>Qk t j (by decide) e.symm)
 have m:Fr (fun b=>b=g\/v.ownBlock=some b) w w1:=((Fr.refl _ w).alloc _).grown l (fun r y _=>.inr y)
 have f : ∀b,x.ownBlock=some b->v.ownBlock=some b\/w.heap.size<=b:=by
  intro b e
  rcases k with h|h
  ·exact .inl (h.symm.trans e)
  ·rw[h] at e
   injection e with e
   exact .inr (by rw[<-e];simp)
 have c1:=d.cell 0
 have F:=d.frozen 0
 simp at c1
 clear c0 A
 obtain⟨r,cap,rfl,_,B⟩:=c.form (by omega)
 have q:=Zh f
 clear f k
 go_wp2_with fail
 go_end0
 refine⟨rfl,⟨_,⟨_,d.set_ 0 _,?_,rfl⟩,?_⟩,m.setCell (.inl (.inl rfl)) _⟩
 ·rw[List.length_append,List.map_append]
  exact ownsRow_setCell_other c (Qk c d (by decide)) _
 ·rintro b (i|i)
  ·exact .inl (.inl i)
  ·rcases q.out b i with s|s
   ·exact .inl (.inr s)
   ·exact .inr s
theorem QmS (base g:Nat)(l:base<=g):Sees 98 #[.pointer (some ⟨g,0,none⟩)] (fun(s:List Int) X w=>Qpn base g s X w/\base<=w.heap.size) (fun s a _=>s++[a]) List.length:=by
 constructor
 ·intro s a _;simp
 ·rintro s X a tg w ⟨h,c⟩ hn
  refine(Qlx base g a tg s X w h l c hn).mono ?_
  rintro e w' ⟨rfl,⟨X',h1,h2⟩,i⟩
  exact⟨rfl,⟨X',⟨h1,Nat.le_trans c i.size⟩,h2⟩,i⟩
 ·exact Tryz.call98
 ·rintro s X w b ⟨⟨v,c,f,rfl⟩,_⟩ (rfl|j)
  ·exact⟨_,_,c,.inr rfl⟩
  ·rcases f.2 with ⟨rfl,_⟩|⟨r,cap,cur,rfl,h1,h2,_⟩
   ·simp[Value.ownBlock] at j
   ·have e:r=b:=by simpa[Value.ownBlock] using j
    subst e
    exact⟨_,_,h2,.inl rfl⟩
 ·rintro s X w w' ⟨⟨v,c,f,rfl⟩,m⟩ k
  have d:Blk w' g 36 #[v]:=(k g (.inl rfl)).trans c
  refine⟨⟨v,d,⟨f.1,?_⟩,rfl⟩,by have:=d.lt;omega⟩
  rcases f.2 with h|⟨r,cap,cur,rfl,h1,h2,i⟩
  ·exact .inl h
  ·exact .inr ⟨r,cap,cur,rfl,h1,(k r (.inr rfl)).trans h2,i⟩
theorem Ql1 (l:List (Int × Int)) : ∀s:List Int,l.foldl (fun s a=>s++[a.1]) s=s++l.map Prod.fst:=by
 induction l with
 |nil=>intro s;simp
 |cons a l ih=>intro s;simp[ih]
def NewInts (l:List Int)(w:World)(e:Ending)(w':World):Prop:=∃v,e=.returned v/\w'.ownsRow w.heap.size 3 1 v l.length (l.map (Value.int .i64))/\ZB w w'
theorem Qap (D:Nat->Prop)(g:Nat)(enc:Int)(l:List (Int × Int))(f tt:Int)(w:World)(h:TextAt w D g enc l)(t : -2147483648<=f)(x:tt<=2147483648) :
  Calls Tryz.prog 42 #[.pointer (some ⟨g,0,none⟩),.int .i64 f,.int .i64 tt] w fun e w'=>NewInts (seg f tt (l.map Prod.fst)) w e w':=by
 have o:ZB w (w.alloc (.cells #[.slice none 0 0] 36)):=Qa (Below.refl _ w)
 obtain⟨ats,p,c⟩:=((h.more (D':=fun b=>b<w.heap.size) (fun b _ h=>h)).below o).tags
 have k:=QfJ 98 #[.pointer (some ⟨w.heap.size,0,none⟩)] (fun(s:List Int) X w'=>Qpn w.heap.size w.heap.size s X w'/\w.heap.size<=w'.heap.size) (fun s a _=>s++[a]) List.length (QmS _ _ (Nat.le_refl _))
  (fun b=>b<w.heap.size) g enc ats f tt [] (fun b=>b=w.heap.size\/(Value.slice none 0 0).ownBlock=some b) _ p (fun b d _ j=>by rcases j with rfl|j;exact absurd d (Nat.lt_irrefl _);simp[Value.ownBlock] at j)
  ⟨⟨_,Blk.new w _ _,⟨rfl,.inl ⟨rfl,rfl⟩⟩,rfl⟩,by simp⟩ (by simp) t x
 rw[Ql1,Qjs,c,List.nil_append] at k
 obtain⟨L,m⟩:=ZN (seg f tt (l.map Prod.fst))
 rw[m] at k ⊢
 have q:=Zh k
 clear k m c
 go_enter Tryz.func42,Tryz.ntmps42
 go_wp2_with fail
 refine(q.out).mono ?_
 rintro e w1 ⟨rfl,⟨X',⟨⟨v,d,n,rfl⟩,y⟩,j⟩,u⟩
 have c0:=d.cell 0
 simp at c0
 have r:=Zh n
 have i:ZB w w1:=bfr o u (fun b d=>by rcases d with rfl|d;exact Nat.le_refl _;simp[Value.ownBlock] at d)
 clear n j
 go_wp2_with fail
 go_ret
 exact⟨v,rfl,r.out,i⟩
def fbF (k:Int):Sums->List (Int × Int)->Nat
 |_,[]=>0
 |s,d::r=>if k<=s.breaks then 0 else fbF k (Qas s d) r+1
theorem Qf5 {s:Sums}{d:Int × Int}(b:s.good)(a:1<=d.2):(Qas s d).good/\(Qas s d).atoms=s.atoms+1/\s.breaks<=(Qas s d).breaks:=by
 have h1:=QE b (QbV d.1 d.2 a)
 have h2:=Qig b (QbV d.1 d.2 a) 1
 exact⟨h1.1,h1.2.1,h2⟩
theorem QkY {xs:List (Int × Int)} : ∀{s:Sums},s.good->PosD xs->s.breaks<=(xs.foldl Qas s).breaks:=by
 induction xs with
 |nil=>intro s _ _;exact Int.le_refl _
 |cons d xs ih=>
  intro s c a
  have h1:=Qf5 c (a d List.mem_cons_self)
  exact Int.le_trans h1.2.2 (ih h1.1 (fun e b=>a e (List.mem_cons_of_mem _ b)))
theorem QlU {k:Int}{ys:List (Int × Int)}(xs:List (Int × Int)) : ∀(s:Sums),s.good->PosD xs ->
  (k<=(xs.foldl Qas s).breaks->fbF k s (xs++ys)=fbF k s xs)/\((xs.foldl Qas s).breaks<k->fbF k s (xs++ys)=xs.length+fbF k (xs.foldl Qas s) ys):=by
 induction xs with
 |nil=>
  intro s c _
  refine⟨fun h=>?_,fun h=>by simp⟩
  cases ys with
  |nil=>rfl
  |cons d r=>
   rw[List.nil_append]
   show (if k<=s.breaks then 0 else fbF k (Qas s d) r+1)=0
   exact if_pos h
 |cons d xs ih=>
  intro s c b
  have h1:=Qf5 c (b d List.mem_cons_self)
  have a:PosD xs:=fun e j=>b e (List.mem_cons_of_mem _ j)
  have hm:=QkY h1.1 a
  obtain⟨i,g⟩:=ih _ h1.1 a
  have l:fbF k s (d::xs++ys)=if k<=s.breaks then 0 else fbF k (Qas s d) (xs++ys)+1:=rfl
  have m:fbF k s (d::xs)=if k<=s.breaks then 0 else fbF k (Qas s d) xs+1:=rfl
  rw[l,m]
  refine⟨fun h=>?_,fun h=>?_⟩
  ·split
   ·rfl
   ·rw[i h]
  ·have f:(xs.foldl Qas (Qas s d)).breaks<k:=h
   have h2:=h1.2.2
   rw[if_neg (by omega),g f]
   show _=xs.length+1+fbF k (xs.foldl Qas (Qas s d)) ys
   omega
theorem Qqa (k:Int)(xs:List (Int × Int)) : ∀s,fbF k s xs<=xs.length:=by
 induction xs with
 |nil=>intro s;simp[fbF]
 |cons d xs ih=>intro s;simp only[fbF,List.length_cons];split;omega;have:=ih (Qas s d);omega
theorem Qnd {kk:Int} : ∀(ps:List Pc) (s:Sums) (n:Int),AllGood ps->s.good->Qdi s kk<n->n<=Qdi (QM s (Qdq ps)) kk ->
  ∃i:Nat,QbT kk n s ps=i+1/\i<ps.length/\Qdi (QM s (Qdq (ps.take i))) kk<n/\n<=Qdi (QM s (Qdq (ps.take (i+1)))) kk:=by
 intro ps
 induction ps with
 |nil=>intro s n _ b h1 h2;rw[QbU,Qz b] at h2;omega
 |cons p ps ih=>
  intro s n c b h1 h2
  have hp:=c p List.mem_cons_self
  have a:AllGood ps:=fun q f=>c q (List.mem_cons_of_mem _ f)
  have ga:=QE b hp
  have d:QbT kk n s (p::ps)=if n<=Qdi (QM s p.sum) kk then 1 else QbT kk n (QM s p.sum) ps+1:=rfl
  rw[d]
  by_cases hle:n<=Qdi (QM s p.sum) kk
  ·rw[if_pos hle]
   refine⟨0,rfl,by simp,?_,?_⟩
   ·rw[List.take_zero,QbU,Qz b];exact h1
   ·rw[Nat.zero_add,List.take_succ_cons,List.take_zero,QaL,QbU,Qz hp];exact hle
  ·rw[if_neg hle]
   rw[QaL,<-QaA b hp (QI a).1] at h2
   obtain⟨i,h,j,e,g⟩:=ih (QM s p.sum) n a ga.1 (by omega) h2
   refine⟨i+1,by rw[h];omega,by simpa using j,?_,?_⟩
   ·rw[List.take_succ_cons,QaL,<-QaA b hp (QI (Qc4 a i)).1];exact e
   ·rw[List.take_succ_cons,QaL,<-QaA b hp (QI (Qc4 a (i+1))).1];exact g
def sF (a:List (Int × Int))(k:Int):Int:=
 if k=0 then 0 else if k<0\/(Qi a).breaks<k then -1 else
 if (Qi (a.take (fbF k Qq a))).cr=true/\fbF k Qq a<a.length/\(a.map Prod.fst).getD (fbF k Qq a) 0=10 then (fbF k Qq a:Int)+1 else fbF k Qq a
def bF (a:List (Int × Int))(at_:Int):Int:=
 if at_<=0 then 0 else if a.length<=at_ then (Qi a).breaks else
 if (Qi (a.take at_.toNat)).cr=true/\(a.map Prod.fst).getD at_.toNat 0=10 then (Qi (a.take at_.toNat)).breaks-1 else (Qi (a.take at_.toNat)).breaks
theorem Qjd (l:List Int)(k:Nat)(h:k<l.length):seg (k:Int) ((k:Int)+1) l=[l.getD k 0]:=by
 unfold seg
 rw[show ((k:Int)+1).toNat-(k:Int).toNat=1 by omega,Int.toNat_natCast,List.drop_eq_getElem_cons h,List.getD_eq_getElem?_getD,List.getElem?_eq_getElem h]
 rfl
theorem Qcy (D:Nat->Prop)(g:Nat)(enc:Int)(m:List (Int × Int))(at_:Int)(w:World)(h:TextAt w D g enc m) :
  Calls Tryz.prog 63 #[.pointer (some ⟨g,0,none⟩),.int .i64 at_] w fun e w'=>e=.returned (.int .i64 (bF m at_))/\ZB w w':=by
 have H:=h.len
 by_cases h0:at_<=0
 ·have e:bF m at_=0:=if_pos h0
  rw[e]
  clear e
  go_enter Tryz.func63,Tryz.ntmps63
  go_wp2_with fail
  go_ret
  exact⟨rfl,Below.refl _ _⟩
 ·have a1:0<at_:=by omega
  have Q:=QaS D g enc m w h
  obtain⟨n,hn⟩:=ZN (m.length)
  rw[hn] at Q H
  have L:=Zh hn
  have C:=Zh Q
  clear Q hn
  by_cases h1:(n:Int)<=at_
  ·obtain⟨V,y⟩:=ZN (bF m at_)
   have e:V=(Qi m).breaks:=by rw[<-y];unfold bF;rw[if_neg h0,if_pos (by rw[L.out];exact h1)]
   rw[y,e]
   clear y e
   obtain⟨lim,t,a,add,T,rfl⟩:=h
   obtain⟨S,s⟩:=ZN (Qi (QC enc t.list))
   rw[s]
   have HS:=Zh s
   clear s
   go_enter Tryz.func63,Tryz.ntmps63
   go_wp2_with fail
   refine(C.out).mono ?_
   rintro e w1 ⟨rfl,b⟩
   have B:=T.below b
   obtain⟨c0,c2⟩:=B.cells
   have i:=Qd5 t a w1 B.node
   rw[B.sum,HS.out] at i
   have HC:=Zh i
   have kf:=Qme S.atoms S.bytes S.breaks S.lf S.cr
   clear i C
   go_wp2_with fail
   refine(HC.out).mono ?_
   rintro e A ⟨rfl,f⟩
   go_wp2_with fail
   go_ret
   exact⟨rfl,Qf b f⟩
  ·have a2:at_<(n:Int):=by omega
   obtain⟨k,rfl⟩:∃k:Nat,at_=(k:Int):=⟨at_.toNat,by omega⟩
   obtain⟨⟨sa,sb,sk,sl,sc⟩,s⟩:∃S,Qi (m.take k)=S:=⟨_,rfl⟩
   obtain⟨c,i⟩:=ZN ((m.map Prod.fst).getD k 0)
   have e:bF m k=if sc=true/\c=10 then sk-1 else sk:=by
    unfold bF
    rw[if_neg h0,if_neg (by rw[L.out];omega),Int.toNat_natCast,s,i]
   have x:=fun(w':World) (M:ZB w w')=>Qap D g enc m (k:Int) ((k:Int)+1) w' (h.below M) (by omega) (by omega)
   rw[Qjd _ k (by rw[List.length_map,L.out];omega),i] at x
   have I:=Qm (h.pos.take k)
   rw[s] at I
   obtain⟨⟨U,Y,X,_⟩,O,K⟩:=I
   dsimp only at U Y X O
   have R:0<=sk/\sk<=1073741824:=⟨U,by rw[List.length_take] at O;omega⟩
   obtain⟨W,Z⟩:=R
   rw[e]
   have G:=Zh x
   have l : ∀w',ZB w w'->Calls Tryz.prog 113 #[.pointer (some ⟨g,0,none⟩),.int .i64 (k:Int)] w' fun e A=>e=.returned (.agg (Sums.mk sa sb sk sl sc).cells)/\ZB w' A:=fun w' M=>by
    obtain⟨lim,t,a,add,T,rfl⟩:=h
    have:=Qio D g enc lim t a add (k:Int) w' (T.below M) (by omega) (by rw[L.out];omega)
    rw[Int.toNat_natCast,s] at this
    exact this
   simp only[Sums.cells] at l
   have p:=Zh l
   clear x l e s i U Y X O K
   cases sc
   ·rw[if_neg (by simp)]
    go_enter Tryz.func63,Tryz.ntmps63
    go_wp2_with fail
    refine(C.out).mono ?_
    rintro e w1 ⟨rfl,b⟩
    clear C
    go_wp2_with fail
    refine(p.out _ b).mono ?_
    rintro e A ⟨rfl,f⟩
    have z:=Qf b f
    clear p
    go_wp2_with fail
    go_ret
    exact⟨rfl,Qa z⟩
   ·have q : ∀V:Int,V=(if true=true/\c=10 then sk-1 else sk)->Ending.returned (.int .i64 V)=.returned (.int .i64 (if true=true/\c=10 then sk-1 else sk)):=fun V h=>by rw[h]
    obtain⟨V,y⟩:∃V:Int,(if true=true/\c=10 then sk-1 else sk)=V:=⟨_,rfl⟩
    rw[y]
    have HV:=Zh y
    clear q y
    go_enter Tryz.func63,Tryz.ntmps63
    go_wp2_with fail
    refine(C.out).mono ?_
    rintro e w1 ⟨rfl,b⟩
    clear C
    go_wp2_with fail
    refine(p.out _ b).mono ?_
    rintro e A ⟨rfl,f⟩
    have z:=Qf b f
    have J:=Qa (o:=.cells (Sums.mk sa sb sk sl true).cells 99) z
    have b5:Blk (A.alloc (.cells (Sums.mk sa sb sk sl true).cells 99)) A.heap.size 99 (Sums.mk sa sb sk sl true).cells:=Blk.new A _ _
    have j:=G.out _ J
    simp only[Sums.cells] at j b5
    have u:=Zh j
    clear j G p b f
    go_wp2_with fail
    refine(u.out).mono ?_
    rintro e w3 ⟨v,rfl,d,F⟩
    have E:=Qf J F
    have b6:=b5.below F
    have c2:=b6.cell 2
    simp at c2
    obtain⟨r,cap,rfl,a0,a3⟩:=d.form (by simp)
    have c0:=d.cells (g:=r) rfl 0 (.int .i64 c) (by simp)
    have qc:(c==10)=decide (c=10):=by rw[Bool.eq_iff_iff];simp
    have HO:=Zh d
    simp[Addr.add] at c0
    clear d u
    by_cases i:c=10
    ·subst i
     go_wp2_with fail
     go_ret
     refine⟨QaB ?_,E⟩
     have:=HV.out
     simp at this
     omega
    ·have q:(c==10)=false:=by rw[beq_eq_false_iff_ne];exact i
     have N:=HV.out
     rw[if_neg (fun h=>i h.2)] at N
     have P:=Zh N
     clear N i qc
     go_wp2_with fail
     go_ret
     exact⟨QaB P.out,E⟩
def isE (A:List Int)(p:Nat):Bool:=decide (0<p/\p<=A.length/\(A.getD (p-1) 0=10\/(A.getD (p-1) 0=13/\¬(p<A.length/\A.getD p 0=10))))
def Qdk (A:List Int):Nat->Nat
 | 0=>0
 |n+1=>Qdk A n+if isE A (n+1)=true then 1 else 0
theorem QbI (A:List Int)(n:Nat):Qdk A (n+1)=Qdk A n+if isE A (n+1)=true then 1 else 0:=rfl
theorem QaT (A:List Int){m n:Nat}(h:m<=n):Qdk A m<=Qdk A n:=by
 induction n with
 |zero=>rw[show m=0 by omega];exact Nat.le_refl _
 |succ n ih=>
  rcases Nat.lt_or_ge n m with h1|h1
  ·rw[show m=n+1 by omega];exact Nat.le_refl _
  ·exact Nat.le_trans (ih h1) (Nat.le_add_right _ _)
theorem Qel (A:List Int){m n:Nat}(h:m<n)(a:isE A n=true):Qdk A m<Qdk A n:=by
 have h1:=QaT A (show m<=n-1 by omega)
 have h2:=QbI A (n-1)
 rw[show n-1+1=n by omega,a,if_pos rfl] at h2
 omega
theorem Qct (A:List Int)(n:Nat):Qdk A n<=n:=by
 induction n with
 |zero=>exact Nat.le_refl _
 |succ n ih=>rw[QbI];split<;>omega
section
variable {ds:List (Int × Int)} (hp:PosD ds)
include hp
theorem Qgw {n:Nat}(hn:n<ds.length):(Qi (ds.take (n+1))).breaks=(Qi (ds.take n)).breaks+(if (ds.map Prod.fst).getD n 0=10\/(ds.map Prod.fst).getD n 0=13 then 1 else 0)-(if (Qi (ds.take n)).cr=true/\(ds.map Prod.fst).getD n 0=10 then 1 else 0) /\
  (Qi (ds.take (n+1))).cr=((ds.map Prod.fst).getD n 0==13):=by
 have e:=Qm (hp.take n)
 obtain⟨s,a⟩:=ZN (Qi (ds.take n))
 obtain⟨d,c⟩:∃d,ds[n]? = some d:=⟨_,List.getElem?_eq_getElem hn⟩
 have g:(ds.map Prod.fst).getD n 0=d.1:=by rw[List.getD_eq_getElem?_getD,List.getElem?_map,c];rfl
 have b:Qi (ds.take (n+1))=QM s (QJ d.1 d.2):=by
  rw[List.take_add_one,c]
  unfold Qi at a ⊢
  rw[Option.toList_some,List.foldl_append,a]
  rfl
 rw[b,g,a]
 rw[a] at e
 obtain⟨⟨_,_,_,f,_⟩,h,_⟩:=e
 by_cases h0:s.atoms=0
 ·rw[f h0,QH]
  simp only[QJ,Qq]
  exact⟨by simp,trivial⟩
 ·rw[Qew h0 (by simp[QJ])]
  dsimp only[QJ]
  refine⟨?_,rfl⟩
  by_cases hc:s.cr=true<;>by_cases h10:d.1=10
  ·simp[hc,h10]
  ·simp[hc,h10]
  ·simp[hc,h10]
  ·simp[hc,h10]
def Qo2 (A:List Int)(n:Nat):Bool:=decide (0<n/\n<A.length/\A.getD (n-1) 0=13/\A.getD n 0=10)
theorem Ql5 {n:Nat}(hn:n<=ds.length):(Qi (ds.take n)).cr=decide (0<n/\(ds.map Prod.fst).getD (n-1) 0=13):=by
 cases n with
 |zero=>rfl
 |succ n=>
  rw[(Qgw hp (n:=n) (by omega)).2,Nat.add_sub_cancel,Bool.eq_iff_iff]
  simp
theorem Qg9 {n:Nat}(hn:n<=ds.length):(Qi (ds.take n)).breaks=Qdk (ds.map Prod.fst) n+(if Qo2 (ds.map Prod.fst) n=true then 1 else 0):=by
 induction n with
 |zero=>simp[Qo2,Qdk,Qi,Qq]
 |succ n ih=>
  have h1:=(Qgw hp (n:=n) (by omega)).1
  rw[ih (by omega),Ql5 hp (by omega)] at h1
  rw[h1,QbI]
  have b:(ds.map Prod.fst).length=ds.length:=List.length_map ..
  obtain⟨A,d⟩:=ZN (ds.map Prod.fst)
  rw[d] at b ⊢
  unfold Qo2 isE
  simp only[Nat.add_sub_cancel,decide_eq_true_eq]
  obtain⟨x,c⟩:=ZN (A.getD n 0)
  obtain⟨y,f⟩:=ZN (A.getD (n+1) 0)
  obtain⟨z,e⟩:=ZN (A.getD (n-1) 0)
  rw[c,f,e]
  by_cases h10:x=10
  ·subst h10
   by_cases hc:0<n/\z=13
   ·have a:(0<n/\n<A.length/\z=13/\(10:Int)=10)=True:=by simp;exact⟨hc.1,by omega,hc.2⟩
    simp[a,hc,show n<A.length by omega,show n+1<=A.length by omega]
   ·have a : ¬(0<n/\n<A.length/\z=13/\(10:Int)=10):=fun h=>hc ⟨h.1,h.2.2.1⟩
    simp[hc,show n+1<=A.length by omega]
    rw[if_neg (fun h=>hc ⟨h.1,h.2.2⟩)]
    omega
  ·have a : ¬(0<n/\n<A.length/\z=13/\x=10):=fun h=>h10 h.2.2.2
   by_cases h13:x=13
   ·subst h13
    by_cases hy10:n+1<A.length/\y=10
    ·simp[a,hy10,show n+1<=A.length by omega]
    ·simp[hy10,show n+1<=A.length by omega]
   ·simp[a,h10,h13]
theorem Qnr:(Qi ds).breaks=Qdk (ds.map Prod.fst) ds.length:=by
 have:=Qg9 hp (n:=ds.length) (Nat.le_refl _)
 rw[List.take_length] at this
 rw[this,if_neg (by unfold Qo2;simp)]
 omega
theorem Qqk (at_:Int):bF ds at_=Qdk (ds.map Prod.fst) (min at_.toNat ds.length):=by
 unfold bF
 by_cases h0:at_<=0
 ·rw[if_pos h0,show at_.toNat=0 by omega,Nat.zero_min];rfl
 ·rw[if_neg h0]
  by_cases h1:(ds.length:Int)<=at_
  ·rw[if_pos h1,Qnr hp,Nat.min_eq_right (by omega)]
  ·rw[if_neg h1,Nat.min_eq_left (by omega)]
   have h2:=Qg9 hp (n:=at_.toNat) (by omega)
   rw[h2,Ql5 hp (by omega)]
   unfold Qo2
   simp only[decide_eq_true_eq,List.length_map]
   by_cases hc:(0<at_.toNat/\(ds.map Prod.fst).getD (at_.toNat-1) 0=13)/\(ds.map Prod.fst).getD at_.toNat 0=10
   ·rw[if_pos hc,if_pos ⟨hc.1.1,by omega,hc.1.2,hc.2⟩];omega
   ·rw[if_neg hc,if_neg (fun h=>hc ⟨⟨h.1,h.2.2.1⟩,h.2.2.2⟩)];omega
omit hp in
theorem Qoq {k:Int} : ∀(r pre:List (Int × Int)),PosD (pre++r) ->
  (∀j,j<fbF k (Qi pre) r->(Qi (pre++r.take j)).breaks<k)/\(k<=(Qi (pre++r)).breaks->k<=(Qi (pre++r.take (fbF k (Qi pre) r))).breaks):=by
 intro r
 induction r with
 |nil=>intro pre _;exact⟨fun j h=>by simp[fbF] at h,fun h=>by simpa[fbF] using h⟩
 |cons d r ih=>
  intro pre b
  have f:fbF k (Qi pre) (d::r)=if k<=(Qi pre).breaks then 0 else fbF k (Qas (Qi pre) d) r+1:=rfl
  have g:Qas (Qi pre) d=Qi (pre++[d]):=by unfold Qi;rw[List.foldl_append];rfl
  have a:PosD ((pre++[d])++r):=by simpa using b
  obtain⟨e,c⟩:=ih (pre++[d]) a
  rw[f,g]
  by_cases hk:k<=(Qi pre).breaks
  ·rw[if_pos hk]
   exact⟨fun j h=>absurd h (Nat.not_lt_zero _),fun _=>by simpa using hk⟩
  ·rw[if_neg hk]
   refine⟨fun j h=>?_,fun h=>?_⟩
   ·cases j with
    |zero=>simpa using hk
    |succ j=>
     have:=e j (by omega)
     simpa using this
   ·have:=c (by simpa using h)
    simpa using this
theorem Qre {k:Int}(t:0<k)(h1:k<=Qdk (ds.map Prod.fst) ds.length):∃p:Nat,sF ds k=p/\isE (ds.map Prod.fst) p=true/\(Qdk (ds.map Prod.fst) p:Int)=k:=by
 obtain⟨J,j⟩:=ZN (fbF k Qq ds)
 have c:J<=ds.length:=by rw[<-j];exact Qqa _ _ _
 obtain⟨l,f⟩:=Qoq (k:=k) ds [] (by simpa using hp)
 have r:Qi []=Qq:=rfl
 rw[r,j] at l f
 simp only[List.nil_append] at l f
 have o:=Qnr hp
 have q:=f (by omega)
 have d:0<J:=by
  rcases Nat.eq_zero_or_pos J with h|h
  ·rw[h,List.take_zero,r] at q
   simp only[Qq] at q
   omega
  ·exact h
 have f4:=l (J-1) (by omega)
 have c1:=Qg9 hp c
 have c0:=Qg9 hp (n:=J-1) (by omega)
 have s:=QbI (ds.map Prod.fst) (J-1)
 rw[show J-1+1=J by omega] at s
 have a:=(Qgw hp (n:=J-1) (by omega)).1
 rw[show J-1+1=J by omega] at a
 have m:=Ql5 hp c
 have i:sF ds k=if (Qi (ds.take J)).cr=true/\J<ds.length/\(ds.map Prod.fst).getD J 0=10 then (J:Int)+1 else J:=by
  unfold sF
  rw[if_neg (by omega),if_neg (by omega),j]
 rw[i,m]
 have u:(ds.map Prod.fst).length=ds.length:=List.length_map ..
 simp only[decide_eq_true_eq]
 by_cases hc:(0<J/\(ds.map Prod.fst).getD (J-1) 0=13)/\J<ds.length/\(ds.map Prod.fst).getD J 0=10
 ·rw[if_pos hc]
  have b:Qo2 (ds.map Prod.fst) J=true:=by unfold Qo2;simp only[decide_eq_true_eq];exact⟨hc.1.1,by omega,hc.1.2,hc.2.2⟩
  have e:isE (ds.map Prod.fst) (J+1)=true:=by unfold isE;simp only[decide_eq_true_eq,Nat.add_sub_cancel];exact⟨by omega,by omega,.inl hc.2.2⟩
  refine⟨J+1,by omega,e,?_⟩
  rw[QbI,e,if_pos rfl]
  rw[b,if_pos rfl] at c1
  have:(Qi (ds.take J)).breaks<=(Qi (ds.take (J-1))).breaks+1:=by
   rw[a]
   split<;>split<;>omega
  omega
 ·rw[if_neg hc]
  have b : ¬Qo2 (ds.map Prod.fst) J=true:=by
   unfold Qo2
   simp only[decide_eq_true_eq]
   exact fun h=>hc ⟨⟨h.1,h.2.2.1⟩,by omega,h.2.2.2⟩
  rw[if_neg b] at c1
  have g:(Qi (ds.take (J-1))).breaks<(Qi (ds.take J)).breaks:=by omega
  have e:isE (ds.map Prod.fst) J=true:=by
   unfold isE
   simp only[decide_eq_true_eq]
   refine⟨d,by omega,?_⟩
   by_cases h10:(ds.map Prod.fst).getD (J-1) 0=10
   ·exact .inl h10
   ·by_cases h13:(ds.map Prod.fst).getD (J-1) 0=13
    ·exact .inr ⟨h13,fun h=>hc ⟨⟨d,h13⟩,by omega,h.2⟩⟩
    ·rw[a,if_neg (by omega),if_neg (fun h=>h10 h.2)] at g
     omega
  refine⟨J,rfl,e,?_⟩
  have:(Qi (ds.take J)).breaks<=(Qi (ds.take (J-1))).breaks+1:=by
   rw[a]
   split<;>split<;>omega
  omega
end
def SkR (enc k:Int)(x:Pc)(Q:List (Int × Int))(J:Nat)(w:World)(a b:Nat)(kk:Nat)(q:Value)(wr:World):Prop:=
 ∃(p:Nat) (pre:List (Int × Int)),q=.int .i64 (p:Int)/\pre++dec enc (x.bytes.drop p)=Q/\pre.length+fbF k (Qi pre) (dec enc (x.bytes.drop p))=J/\p<=x.n/\x.n-p<=kk/\ZB w wr /\
  Blk wr a 99 (Qi pre).cells/\Blk wr b 107 x.cells
theorem Qis {a b:List (Int × Int)}(h:PosD (a++b)):(Qi a).bytes<=(Qi (a++b)).bytes:=by
 have f:PosD a:=fun d e=>h d (List.mem_append_left _ e)
 have c:PosD b:=fun d e=>h d (List.mem_append_right _ e)
 have h1:=(QE (Qm f).1 (Qm c).1).2.2
 have h2:=(Qm c).1
 rw[Qes f c,h1]
 obtain⟨x,y,z,_⟩:=h2
 omega
theorem QpZ (l:List Int)(k:Nat)(h:l.length<=k):seg (k:Int) ((k:Int)+1) l=[]:=by
 unfold seg
 rw[Int.toNat_natCast,List.drop_eq_nil_of_le h,List.take_nil]
theorem Qn5 (D:Nat->Prop)(g:Nat)(enc lim:Int)(t:Tr)(a:Option Addr)(add:Value)(k:Int)(w:World)(h:TextIn w D g enc lim t a add)(k0:0<k)(k1:k<=(Qi (QC enc t.list)).breaks) :
  Calls Tryz.prog 65 #[.pointer (some ⟨g,0,none⟩),.int .i64 k] w fun e w'=>e=.returned (.int .i64 (sF (QC enc t.list) k))/\ZB w w':=by
 have i6:=h.decLen
 have e5:=h.tot
 have a7:=h.good
 obtain⟨i,e1,e2,e3,e4⟩:=Qnd (kk:=1) t.list Qq k a7 Qa0 (by simp only[Qq,Qdi];omega) (by rw[QH,Qa6 h.ok];exact k1)
 rw[QH] at e3 e4
 obtain⟨x,hx⟩:∃x,t.list[i]? = some x:=⟨_,List.getElem?_eq_getElem e2⟩
 have E:=h.ok x (List.mem_of_getElem? hx)
 have b4:=h.bts x (List.mem_of_getElem? hx)
 have c5:t.list.take (i+1)=t.list.take i++[x]:=by rw[List.take_add_one,hx];rfl
 have U:QC enc t.list=QC enc (t.list.take i)++(dec enc x.bytes++QC enc (t.list.drop (i+1))):=by
  conv=>lhs;rw[<-List.take_append_drop (i+1) t.list,c5]
  rw[Qax,Qax,List.append_assoc]
  congr 2
  simp[QC]
 have a2:Qdq (t.list.take i)=Qi (QC enc (t.list.take i)):=Qa6 (fun q Z=>h.ok q (List.mem_of_mem_take Z))
 have h6:Qdq (t.list.take (i+1))=Qi (QC enc (t.list.take i)++dec enc x.bytes):=by
  rw[Qa6 (fun q Z=>h.ok q (List.mem_of_mem_take Z)),c5,Qax]
  congr 2
  simp[QC]
 rw[a2] at e3
 rw[h6] at e4
 obtain⟨b,M⟩:∃p,QC enc (t.list.take i)=p:=⟨_,rfl⟩
 have e6:PosD b:=by rw[<-M];exact Qai _ _
 rw[M] at e3 e4 U a2
 have i2:(Qi b).breaks<k:=e3
 have g5:k<=(Qi (b++dec enc x.bytes)).breaks:=e4
 obtain⟨y,H⟩:=ZN (QC enc t.list)
 rw[H] at U k1 i6 ⊢
 obtain⟨J,hJ⟩:=ZN (fbF k Qq y)
 have g1:b.length+fbF k (Qi b) (dec enc x.bytes)=J:=by
  rw[<-hJ,U,(QlU b Qq Qa0 e6).2 i2]
  show _=b.length+fbF k (Qi b) (dec enc x.bytes++QC enc (t.list.drop (i+1)))
  rw[(QlU (dec enc x.bytes) (Qi b) (Qm e6).1 (Qbu _ _)).1 ?_]
  ·have:(dec enc x.bytes).foldl Qas (Qi b)=Qi (b++dec enc x.bytes):=by unfold Qi;rw[List.foldl_append]
   rw[this];exact g5
 have hQ:∃rest,y=(b++dec enc x.bytes)++rest:=⟨_,by rw[U,List.append_assoc]⟩
 have C:PosD y:=by rw[<-H];exact Qai _ _
 have l0:(Qi y).bytes<=1073741824:=by rw[<-H,<-Qa6 h.ok,(QI a7).2];exact e5
 obtain⟨V,hV⟩:=ZN (sF y k)
 have h4:V=if (Qi (y.take J)).cr=true/\J<y.length/\(y.map Prod.fst).getD J 0=10 then (J:Int)+1 else J:=by
  rw[<-hV]
  unfold sF
  rw[if_neg (by omega),if_neg (by omega),hJ]
 rw[hV]
 have i9:J<=y.length:=by rw[<-hJ];exact Qqa _ _ _
 have c9:=fun(w':World) (hb:ZB w w')=>Qku t a 1 k w' (NodeAt.below hb t a h.node) h.len a7 (by omega)
 rw[if_neg (by omega),e1] at c9
 have b0:=h.len
 have hu:=fun(w':World) (hb:ZB w w')=>QgO t a (i:Int) w' (NodeAt.below hb t a h.node) b0 (by omega) a7 (by omega)
 have I:=fun(w':World) (hb:ZB w w')=>QgA t a (i:Int) w' (NodeAt.below hb t a h.node) b0 (by omega)
 have a8:t.get (i:Int)=some x:=by unfold Tr.get;rw[if_neg (by omega),Int.toNat_natCast];exact hx
 rw[Int.toNat_natCast,a2] at hu
 rw[a8] at I
 have F:=Qd5 t a w h.node
 rw[h.sum,H] at F
 have u:=(Qm C).1
 have k2:k<=1073741824:=by
  obtain⟨q1,q2,q3,_⟩:=u
  omega
 have h2:TextAt w D g enc y:=⟨lim,t,a,add,h,H⟩
 have T:=fun(w':World) (hb:ZB w w')=>Qap D g enc y (J:Int) ((J:Int)+1) w' (h2.below hb) (by omega) (by omega)
 obtain⟨S,hS⟩:=ZN (Qi y)
 rw[hS] at F k1
 have a9:=Zh F
 have g3:=Zh c9
 have HU:=Zh hu
 have g0:=Zh I
 have d9:=Zh T
 have g7:=Zh h4
 have i5:=Zh g1
 have HQ:=Zh hQ
 have g6:=Zh C
 have i1:i<=1073741824:=by omega
 have kf:=Qme S.atoms S.bytes S.breaks S.lf S.cr
 obtain⟨_,c2⟩:=h.cells
 have q0:(k==0)=false:=by rw[beq_eq_false_iff_ne];omega
 clear F c9 hu I T h4 g1 hQ C e1 e2 e3 e4 c5 a2 h6 hV hS a8 hx H M U hJ u g5
 go_enter Tryz.func65,Tryz.ntmps65
 go_wp2_with fail
 refine(a9.out).mono ?_
 rintro e w1 ⟨rfl,a1⟩
 obtain⟨_,c2⟩:=(h.below a1).cells
 clear a9
 go_wp2_with fail
 refine(g3.out _ a1).mono ?_
 rintro e w2 ⟨rfl,d8⟩
 have a5:=Qf a1 d8
 obtain⟨_,c2⟩:=(h.below a5).cells
 clear g3 a1 d8
 simp only[Sums.cells] at HU
 go_wp2_with fail
 refine(HU.out _ a5).mono ?_
 rintro e w3 ⟨rfl,f6⟩
 have a6:=Qf a5 f6
 obtain⟨_,c2⟩:=(h.below a6).cells
 have zg:=(h.below a6).blk.lt
 have Y:=Qa (o:=.cells (Qi b).cells 99) a6
 have W:Blk (w3.alloc (.cells (Qi b).cells 99)) w3.heap.size 99 (Qi b).cells:=Blk.new w3 _ _
 simp only[Sums.cells] at Y W
 clear HU f6 a5
 go_wp2_with fail
 refine(g0.out _ Y).mono ?_
 rintro e w4 ⟨rfl,b9⟩
 have a0:=Qf Y b9
 have l:=W.below b9
 have e9:=Qa (o:=.cells x.cells 107) a0
 have g2:=l.alloc (.cells x.cells 107)
 have e0:Blk (w4.alloc (.cells x.cells 107)) w4.heap.size 107 x.cells:=Blk.new w4 _ _
 have l7:w3.heap.size<w4.heap.size:=l.lt
 have n6:w.heap.size<=w3.heap.size:=a6.size
 clear g0 b9 Y a0 W l c2 zg
 simp only[QfD]
 simp only[Pc.cells,Qx] at e9 g2 e0
 go_wp2_with fail
 go_loopg [9] x.n (fun kk q wr=>SkR enc k x (b++dec enc x.bytes) J w w3.heap.size w4.heap.size kk q wr)
 case atStart=>
  exact⟨0,b,rfl,by rw[List.drop_zero],by rw[List.drop_zero];exact i5.out,Nat.zero_le _,Nat.le_refl _,e9,g2,e0⟩
 case round=>
  obtain⟨p,pre,rfl,Z,f5,hp,hk,hW,W,b7⟩:=hrel
  have e7:=E.len
  have c6:=Zh Z
  have d7:=Zh f5
  have O:=Zh e7
  obtain⟨rest,f⟩:=HQ.out
  have L:PosD (pre++(dec enc (x.bytes.drop p)++rest)):=by rw[<-List.append_assoc,Z,<-f];exact g6.out
  have b3:PosD pre:=fun d hd=>L d (List.mem_append_left _ hd)
  have g8:=Qis L
  rw[<-List.append_assoc,Z,<-f] at g8
  have u:=Qm b3
  have b2:(Qi pre).ok:=u.1.ok (by omega)
  have h8:pre.length<=1073741824:=by
   have:=congrArg List.length f
   rw[<-Z] at this
   simp only[List.length_append] at this
   omega
  obtain⟨⟨sa,sb,sk,sl,sc⟩,hs⟩:∃s,Qi pre=s:=⟨_,rfl⟩
  have h7:sa=(pre.length:Int):=by rw[<-u.2.1,hs]
  have h3:0<=sk/\sk<=1073741824:=by
   rw[hs] at u
   obtain⟨⟨y1,y2,_⟩,y4,_⟩:=u
   dsimp only at y1 y2 y4
   omega
  rw[hs] at W b2
  have HS:=Zh hs
  have e8:=Zh h7
  obtain⟨c0,c1,c2,X,R,f0,f1,f2,f3,f4⟩:=Qw W
  obtain⟨d0,d1,d2,d3,d4,d5,d6⟩:=QR b7
  dsimp only at c0 c1 c2 X R
  obtain⟨l8,l2⟩:=h3
  clear Z f5 e7 L g8 u hs h7 f
  by_cases hgo2:p<x.n/\sk<k
  ·obtain⟨K,b8⟩:=hgo2
   have hz:=QZ enc (x.bytes.drop p) (by rw[List.length_drop];have:=O.out;omega)
   have a3:=QaN enc (x.bytes.drop p) (by rw[List.length_drop];have:=O.out;omega)
   rw[List.length_drop,O.out] at hz
   obtain⟨z,b5⟩:∃z:Nat,QB enc (x.bytes.drop p)=(z:Int):=⟨(QB enc (x.bytes.drop p)).toNat,by omega⟩
   obtain⟨at_,I⟩:∃a,Qa8 enc (x.bytes.drop p)=a:=⟨_,rfl⟩
   have c8:=fun(wy:World) (hy:ZB wr wy)=>QcP enc D x.A x.n x.c p x.bytes wy h.enc4 (Reads.below (Reads.below b4 hW) hy) E.byt (by have:=E.nle;omega) E.cap K
   rw[b5,I] at c8 a3
   rw[b5] at hz
   rw[List.drop_drop,Int.toNat_natCast] at a3
   have l6:=E.nle
   have h0:=Zh c8
   have f7:=Zh a3
   have l9:1<=z:=by omega
   have l3:z<=x.n-p:=by omega
   have l4:decide (sk<k)=true:=by simpa using b8
   have l5:=Zh E
   have m0:=Zh b4
   have HH:=Zh h
   have ct:=(h.below hW).cells.1
   clear c8 a3 hz b5 I E b4 h h2
   go_upto_region 10 with fail
   go_cut [10,11] (fun h9 i7 wx=>h9=.int .i64 at_/\i7=.int .i64 (z:Int)/\ZB wr wx)
   case first=>
    clear c0 c1 c2 X R f0 f1 f2 f3 f4 d1 d2 d3 d4 d5 d6
    refine(wpIn_wide (n:=3)).1 ?_
    refine QcR (fun _=>trivial) rfl (fun _ _ _ _ h=>callsIn_wide.2 h) 7 _ (by kernel_rfl) (by kernel_rfl) rfl ?_
    simp only[List.take_succ_cons,List.take_zero]
    repeat still_step
    refine wpStill_nil ?_
    gi_wp2_with (first|(refine⟨trivial,?_⟩;gi_at_call 117;refine(callsIn_wide.2 (h0.out _ (Below.drew (Below.refl _ _)))).mono ?_;rintro e w5 ⟨rfl,m⟩))
    all_goals
     refine MidQ.go ?_
     simp only[List.drop_succ_cons,List.drop_zero]
     repeat still_step
     refine wpStill_nil ?_
     gi_wp2
     gi_meet
     exact⟨rfl,rfl,QD m⟩
   case rest=>
    obtain⟨rfl,rfl,m⟩:=hcut
    have l:=W.below m
    have i3:=b7.below m
    have a0:=Qf hW m
    have h5:(QJ at_ z).ok:=Qgo at_ z (by omega)
    clear c0 c1 c2 X R f0 f1 f2 f3 f4 d0 d1 d2 d3 d4 d5 d6 W b7 hW m h0 ct
    obtain⟨c0,c1,c2,X,R,f0,f1,f2,f3,f4⟩:=Qw l
    dsimp only at c0 c1 c2 X R
    go_upto_region 11 with fail
    go_cut [] (fun wx=>Blk wx w3.heap.size 99 (QM ⟨sa,sb,sk,sl,sc⟩ (QJ at_ z)).cells/\Blk wx w4.heap.size 107 x.cells/\ZB w wx)
    case first=>
     go_region_with (first|(go_at_call 119;refine(Qf6 _ _ _).mono ?_;rintro e w6 ⟨rfl,c7⟩;obtain⟨k0,k1,k2,k3,k4,k5,k6,k7,k8,k9⟩:=Qka (QD c7) ⟨c0,c1,c2,X,R,f0,f1,f2,f3,f4⟩)|(go_at_call 118;refine(QbB ⟨sa,sb,sk,sl,sc⟩ (QJ at_ z) _ b2 h5).mono ?_;rintro e w7 ⟨rfl,hb7⟩;obtain⟨j0,j1,j2,j3,j4,j5,j6,j7,j8,j9⟩:=Qka (Qf (QD c7) hb7) ⟨c0,c1,c2,X,R,f0,f1,f2,f3,f4⟩))
     all_goals
      go_wp2_with fail
      go_meet
      have Q:=Qf (QD c7) hb7
      exact⟨Qdb (l.below Q),QdH (s':=QM ⟨sa,sb,sk,sl,sc⟩ (QJ at_ z)) (i3.below Q) (by omega),Qay (s':=QM ⟨sa,sb,sk,sl,sc⟩ (QJ at_ z)) (Qf a0 Q) n6⟩
    case rest=>
     obtain⟨g4,f9,g9⟩:=hcut
     clear c0 c1 c2 X R f0 f1 f2 f3 f4
     have N:Qi (pre++[(at_,(z:Int))])=QM ⟨sa,sb,sk,sl,sc⟩ (QJ at_ z):=by
      rw[<-HS.out]
      unfold Qi
      rw[List.foldl_append]
      rfl
     have f8:=Zh N
     clear N
     go_wp2_with fail
     go_roundg (x.n-(p+z))
     case measure=>omega
     case rel=>
      refine⟨p+z,pre++[(at_,(z:Int))],by go_num,?_,?_,by omega,by omega,g9,?_,f9⟩
      ·rw[<-c6.out,f7.out,List.append_assoc];rfl
      ·rw[<-d7.out,f7.out,HS.out,f8.out,List.length_append]
       show _=pre.length+(if k<=sk then 0 else fbF k (QM ⟨sa,sb,sk,sl,sc⟩ (QJ at_ z)) (dec enc (x.bytes.drop (p+z)))+1)
       rw[if_neg (by omega)]
       simp only[List.length_singleton]
       omega
      ·rw[f8.out];exact g4
  ·have i8:J=pre.length:=by
    rw[<-d7.out]
    by_cases K:p<x.n
    ·have b8:k<=sk:=by omega
     rw[HS.out,QaN enc _ (by rw[List.length_drop];have:=O.out;omega)]
     show pre.length+(if k<=sk then 0 else _)=pre.length
     rw[if_pos b8]
     rfl
    ·rw[List.drop_eq_nil_of_le (by have:=O.out;omega),QcY]
     rfl
   subst i8
   obtain rfl:=e8.out
   have P:y.take pre.length=pre:=by
    obtain⟨rest,f⟩:=HQ.out
    rw[f,<-c6.out,List.append_assoc,List.take_append_of_le_length (Nat.le_refl _),List.take_length]
   have hV:=g7.out
   rw[P,HS.out] at hV
   dsimp only at hV
   have T:=d9.out wr hW
   obtain⟨c,hc⟩:=ZN ((y.map Prod.fst).getD pre.length 0)
   rw[hc] at hV
   have HV:=Zh hV
   have i0:=Zh hc
   have b1:=Zh T
   clear T hV hc P d9 g7 HQ c6 d7 e8 g6 HS d1 d2 d3 d4 d5 d6
   go_upto_region 13 with fail
   all_goals
    go_wp2_with fail
    refine(b1.out).mono ?_
    rintro e w5 ⟨v,rfl,j,m⟩
    have a4:=Qf hW m
    have l:=W.below m
    clear b1 c0 c1 c2 X R f0 f1 f2 f3 f4 d0 W b7 hW
    have c0:=l.cell 0
    have R:=l.cell 4
    simp[Sums.cells] at c0 R
    by_cases K:pre.length<y.length
    ·rw[Qjd _ _ (by rw[List.length_map];exact K),i0.out] at j
     obtain⟨r,cap,rfl,l1,m1⟩:=j.form (by simp)
     have y0:=j.cells (g:=r) rfl 0 (.int .i64 c) (by simp)
     simp[Addr.add] at y0
     have G:=HV.out
     clear j
     cases sc
     ·rw[if_neg (by simp)] at G
      have B:=Zh G
      clear G
      go_wp2_with fail
      go_ret
      exact⟨QaB B.out.symm,a4⟩
     ·by_cases hc:c=10
      ·subst hc
       rw[if_pos ⟨rfl,K,rfl⟩] at G
       have B:=Zh G
       clear G
       go_wp2_with fail
       go_ret
       exact⟨QaB B.out.symm,a4⟩
      ·have q:(c==10)=false:=by rw[beq_eq_false_iff_ne];exact hc
       rw[if_neg (fun h=>hc h.2.2)] at G
       have B:=Zh G
       clear G hc
       go_wp2_with fail
       go_ret
       exact⟨QaB B.out.symm,a4⟩
    ·rw[QpZ _ _ (by rw[List.length_map];omega)] at j
     have G:=HV.out
     rw[if_neg (fun h=>K h.2.1)] at G
     have B:=Zh G
     have i4:∃A cap,v=.slice A 0 cap:=by
      rcases j.2 with ⟨h1,_⟩|⟨r,cap,cur,h1,_⟩
      ·exact⟨_,_,h1⟩
      ·exact⟨_,_,h1⟩
     obtain⟨A,cap,rfl⟩:=i4
     clear G j
     cases sc
     all_goals
      go_wp2_with fail
      go_ret
      exact⟨QaB B.out.symm,a4⟩
theorem QgB (D:Nat->Prop)(g:Nat)(enc:Int)(f:List (Int × Int))(k:Int)(w:World)(h:TextAt w D g enc f) :
  Calls Tryz.prog 65 #[.pointer (some ⟨g,0,none⟩),.int .i64 k] w fun e w'=>e=.returned (.int .i64 (sF f k))/\ZB w w':=by
 by_cases k0:k=0
 ·subst k0
  have e:sF f 0=0:=if_pos rfl
  rw[e]
  clear e
  go_enter Tryz.func65,Tryz.ntmps65
  go_wp2_with fail
  go_ret
  exact⟨rfl,Below.refl _ _⟩
 ·have o:(k==0)=false:=by rw[beq_eq_false_iff_ne];exact k0
  by_cases k1:k<0
  ·have e:sF f k = -1:=by unfold sF;rw[if_neg k0,if_pos (.inl k1)]
   rw[e]
   have m:decide (k<0)=true:=by simpa using k1
   clear e k0
   go_enter Tryz.func65,Tryz.ntmps65
   go_wp2_with fail
   go_ret
   exact⟨rfl,Below.refl _ _⟩
  ·obtain⟨lim,t,a,add,d,rfl⟩:=h
   by_cases k2:k<=(Qi (QC enc t.list)).breaks
   ·exact Qn5 D g enc lim t a add k w d (by omega) k2
   ·have e:sF (QC enc t.list) k = -1:=by unfold sF;rw[if_neg k0,if_pos (.inr (by omega))]
    rw[e]
    have b:=Qd5 t a w d.node
    rw[d.sum] at b
    obtain⟨S,j⟩:=ZN (Qi (QC enc t.list))
    rw[j] at b k2
    have c:=Zh b
    have kf:=Qme S.atoms S.bytes S.breaks S.lf S.cr
    obtain⟨_,c2⟩:=d.cells
    have l:decide (k<0)=false:=by simpa using k1
    have n:S.breaks<k:=by omega
    have p:0<=k:=by omega
    clear b j e k0
    go_enter Tryz.func65,Tryz.ntmps65
    go_wp2_with fail
    refine(c.out).mono ?_
    rintro e w1 ⟨rfl,i⟩
    go_wp2_with fail
    go_ret
    exact⟨rfl,i⟩
end Go.Proofs.YtgiihhikdoikgaaGreat
