/-
  The walks of package tree at the pieces, second part: of.
-/
import Derived.Test.YtgiihhikdoikgaaGreatLSized
set_option linter.unusedSimpArgs false
set_option linter.unusedVariables false
set_option maxRecDepth 100000
set_option maxHeartbeats 32000000
namespace Go.Proofs.YtgiihhikdoikgaaGreat
open Go.RowKit
theorem QdB (A:Option Addr)(n c:Nat)(tag:Int)(s:Sums)(w:World):Calls Tryz.prog 220 #[.agg (Qx A n c tag s)] w fun e w'=>
  e=.returned (.agg #[.int .i64 s.atoms,.int .i64 s.bytes,.int .i64 s.breaks,.bool s.lf,.bool s.cr])/\ZB w w':=by
 simp only[Qx]
 go_enter Tryz.func220,Tryz.ntmps220
 go_wp2
 refine bodyPost_ret (v:=.agg #[.int .i64 s.atoms,.int .i64 s.bytes,.int .i64 s.breaks,.bool s.lf,.bool s.cr]) (by simp[results,Tryz.results220,go_sem]) rfl ⟨rfl,?_⟩
 repeat (first|exact Below.refl _ _|apply Qa)
theorem Qer (A : Option Addr)(n c : Nat)(tag : Int)(s : Sums)(w : World) : (method 399 107 (.agg (Qx A n c tag s)) "Measure").run Tryz.prog w = .ok (220, .agg (Qx A n c tag s)) w := by kernel_rfl
theorem Qgp (s : Sums)(w : World) : (method 399 99 (.agg s.cells) "Add").run Tryz.prog w = .ok (118, .agg s.cells) w := by kernel_rfl
def Qp1 (l:Tr)(x:Pc)(r:Tr)(w:World)(e:Ending)(w':World):Prop:=∃a,e=.returned (.pointer a)/\NodeAt w' (.node l x r) a/\ZB w w'
theorem QeZ {P:Program}{f:FuncId}{args:Array Value}{w:World}{v:Value}(h:Calls P f args w fun e w'=>e=.returned v/\w=w'):Calls P f args w fun e w'=>e=.returned v/\w'=w:=h.mono fun _ _ ⟨a,b⟩=>⟨a,b.symm⟩
def Tr.small (t:Tr):Prop:=0<=t.size/\t.size<=1073741824/\0<=t.tall/\t.tall<=1073741824
def Qso (al ar:Option Addr)(x:Pc)(size tall:Int)(w wx:World)(a:Value):Prop:=
 a=.pointer (some ⟨w.heap.size+1,0,none⟩)/\Blk wx w.heap.size 107 x.cells/\Blk wx (w.heap.size+1) 147 (Qef al ar x size tall Qq)/\ZB w wx
theorem Qaz {w:World}{b:Nat}{al ar:Option Addr}{x:Pc}{sz tl:Int}{s:Sums}(h:Blk w b 147 (Qef al ar x sz tl s)) :
  w.cell? ⟨b,11,none⟩=some (.int .i64 s.atoms)/\w.cell? ⟨b,12,none⟩=some (.int .i64 s.bytes)/\w.cell? ⟨b,13,none⟩=some (.int .i64 s.breaks)/\w.cell? ⟨b,14,none⟩=some (.bool s.lf)/\w.cell? ⟨b,15,none⟩=some (.bool s.cr) /\
  w.frozen? ⟨b,11,none⟩=false/\w.frozen? ⟨b,12,none⟩=false/\w.frozen? ⟨b,13,none⟩=false/\w.frozen? ⟨b,14,none⟩=false/\w.frozen? ⟨b,15,none⟩=false:=
 ⟨h.cell 11,h.cell 12,h.cell 13,h.cell 14,h.cell 15,h.frozen 11,h.frozen 12,h.frozen 13,h.frozen 14,h.frozen 15⟩
theorem Qha {w:World}{b:Nat}{al ar:Option Addr}{x:Pc}{sz tl:Int}{s s':Sums}(h:Blk w b 147 (Qef al ar x sz tl s)) :
  Blk (((((w.setCell ⟨b,11,none⟩ (.int .i64 s'.atoms)).setCell ⟨b,12,none⟩ (.int .i64 s'.bytes)).setCell ⟨b,13,none⟩ (.int .i64 s'.breaks)).setCell ⟨b,14,none⟩ (.bool s'.lf)).setCell ⟨b,15,none⟩ (.bool s'.cr)) b 147 (Qef al ar x sz tl s'):=
 ((((h.set_ 11 _).set_ 12 _).set_ 13 _).set_ 14 _).set_ 15 _
theorem Qcd {w w1:World}{b:Nat}{u1 u2 u3 u4 c:Value}(h:ZB w w1)(a:w.heap.size<=b) :
  ZB w (((((w1.setCell ⟨b,11,none⟩ u1).setCell ⟨b,12,none⟩ u2).setCell ⟨b,13,none⟩ u3).setCell ⟨b,14,none⟩ u4).setCell ⟨b,15,none⟩ c):=
 ((((h.setCell a _).setCell a _).setCell a _).setCell a _).setCell a _
theorem Qnt (l r:Tr)(al ar:Option Addr)(x:Pc)(w:World)(z:NodeAt w l al)(H:NodeAt w r ar)(bl:l.small)(br:r.small)(ox:x.sum.ok)(ol:l.sum.ok)(or:r.sum.ok)(olx:(Qjg l x).ok) :
  Calls Tryz.prog 177 #[.pointer al,.agg x.cells,.pointer ar] w fun e w'=>Qp1 l x r w e w':=by
 obtain⟨l1,l2,l3,l4⟩:=bl
 obtain⟨r1,r2,r3,r4⟩:=br
 have N:ZB w ((w.alloc (.cells x.cells 107)).drew):=(Qa (Below.refl _ w)).drew
 have o:=NodeAt.below N l al z
 have j:=NodeAt.below N r ar H
 have Q:=QeZ (Qbr l al _ o)
 have k2:=QeZ (Qbr r ar _ j)
 have k3:=QeZ (QbX l al _ o)
 have T:=QeZ (QbX r ar _ j)
 have es:(Tr.node l x r).size=l.size+1+r.size:=rfl
 have et:(Tr.node l x r).tall=max l.tall r.tall+1:=rfl
 obtain⟨sl,C⟩:∃n,l.size=n:=⟨_,rfl⟩
 obtain⟨sr,J⟩:∃n,r.size=n:=⟨_,rfl⟩
 obtain⟨tl,F⟩:∃n,l.tall=n:=⟨_,rfl⟩
 obtain⟨tr,D⟩:∃n,r.tall=n:=⟨_,rfl⟩
 rw[C] at Q l1 l2 es
 rw[J] at k2 r1 r2 es
 rw[F] at k3 l3 l4 et
 rw[D] at T r3 r4 et
 have O:=Zh Q
 have M:=Zh k2
 have K:=Zh k3
 have L:=Zh T
 have ES:=Zh es
 have ET:=Zh et
 clear Q k2 k3 T C J F D es et
 simp only[Pc.cells,Qx] at *
 go_enter Tryz.func177,Tryz.ntmps177
 go_wp2_with fail
 go_cut [7] (fun s7 wx=>Qso al ar x (sl+1+sr) (max tl tr+1) w wx s7)
 case first=>
  by_cases hm:tl<tr
  all_goals
   refine wp_region_still_tail 16 (by kernel_rfl) (by kernel_rfl) ?_
   change wpStill _ _ (World.drew _) (fun a'=>wpList _ _ _ _ a' (World.drew _)) _ _
   simp only[List.take_succ_cons,List.take_zero,List.drop_succ_cons,List.drop_zero]
   repeat still_step
   still_call O.out
   repeat still_step
   still_call M.out
   repeat still_step
   still_call K.out
   repeat still_step
   still_call L.out
   repeat still_step
   refine wpStill_nil ?_
   clear O M K L ES ET o j z H N
   go_wp2_with fail
   go_meet
   first|rw[show max tl tr=tr by omega]|rw[show max tl tr=tl by omega]
   refine⟨rfl,((Blk.new w _ _).alloc _).drew,?_,(Qa (Qa (Below.refl _ w))).drew⟩
   have:=Blk.new (w.alloc (.cells x.cells 107)) 147
   simp only[World.size_alloc] at this
   exact(this _).drew
 case rest=>
  obtain⟨rfl,d,k,g⟩:=hcut
  have U:=d.cell 0
  have b1:=d.cell 1
  have W:=d.cell 2
  have b3:=d.cell 3
  have b4:=d.cell 4
  have b5:=d.cell 5
  have P:=d.cell 6
  simp[Pc.cells,Qx] at U b1 W b3 b4 b5 P
  have q:=Qer x.A x.n x.c x.tag x.sum
  simp only[Qx] at q
  go_upto_region 2 with fail
  go_cut [] (fun wx=>Blk wx (w.heap.size+1) 147 (Qef al ar x (sl+1+sr) (max tl tr+1) x.sum)/\ZB w wx)
  case first=>
   go_wp2_with fail
   refine(QdB x.A x.n x.c x.tag x.sum _).mono ?_
   rintro e w3 ⟨rfl,E⟩
   have h:=k.below E
   have a3:=Qf g E
   obtain⟨n0,n1,n2,X,n4,m0,m1,m2,m3,m4⟩:=Qaz h
   simp only[Qq] at n0 n1 n2 X n4
   clear U b1 W b3 b4 b5 P q O M K L o j
   go_wp2_with fail
   go_meet
   exact⟨Qha h,Qcd a3 (by omega)⟩
  case rest=>
   clear U b1 W b3 b4 b5 P q O M K L o j k d g N
   obtain⟨p,g⟩:=hcut
   go_upto_if 32 with fail
   go_cut [] (fun wx=>Blk wx (w.heap.size+1) 147 (Qef al ar x (sl+1+sr) (max tl tr+1) (Qjg l x))/\ZB w wx)
   case first=>
    have t:=NodeAt.below g l al z
    cases l with
    |nil=>
     cases z
     go_wp2_with fail
     go_meet
     exact⟨p,g⟩
    |node a b c=>
     obtain⟨bl,a2,a0,rfl,a4,_,_⟩:=t
     obtain⟨Z,Y,S,p3,p4,_,_,_,_,_⟩:=Qaz a4
     obtain⟨n0,n1,n2,X,n4,m0,m1,m2,m3,m4⟩:=Qaz p
     obtain⟨s,y⟩:=ZN ((Tr.node a b c).sum)
     have G:Qjg (.node a b c) x=QM s x.sum:=by rw[<-y];rfl
     rw[y] at Z Y S p3 p4 ol
     have R:=Zh G
     have q:=Qgp s
     simp only[Sums.cells] at q
     clear G y
     go_wp2_with fail
     go_region_with (first|(go_at_call 118;refine(QbB s x.sum _ ol ox).mono ?_;rintro e w4 ⟨rfl,f⟩;obtain⟨j0,j1,j2,j3,j4,j5,j6,j7,j8,j9⟩:=Qaz (p.below (QD f))))
     all_goals
      go_wp2_with fail
      go_meet
      refine⟨?_,Qcd (Qf g (QD f)) (by omega)⟩
      rw[R.out]
      exact Qha (p.below (QD f))
   case rest=>
    obtain⟨m,i⟩:=hcut
    clear p g
    have t:=NodeAt.below i l al z
    have I:=NodeAt.below i r ar H
    obtain⟨s1,u⟩:∃s,Qjg l x=s:=⟨_,rfl⟩
    rw[u] at olx m
    have B:=Zh u
    clear u
    cases r with
    |nil=>
     cases H
     go_wp2_with fail
     go_ret
     refine⟨_,rfl,⟨_,_,_,rfl,?_,t,rfl⟩,i⟩
     rw[ES.out,ET.out,Tr.sum_node,B.out]
     exact m
    |node a b c=>
     have a5:=I
     obtain⟨br,a2,a0,rfl,a1,_,_⟩:=I
     obtain⟨Z,Y,S,p3,p4,_,_,_,_,_⟩:=Qaz a1
     obtain⟨n0,n1,n2,X,n4,m0,m1,m2,m3,m4⟩:=Qaz m
     have v:(Tr.node l x (.node a b c)).sum=QM s1 (Tr.node a b c).sum:=by rw[Tr.sum_node,B.out];rfl
     obtain⟨s,y⟩:=ZN ((Tr.node a b c).sum)
     rw[y] at Z Y S p3 p4 or v
     have V:=Zh v
     have q:=Qgp s1
     simp only[Sums.cells] at q
     clear v y
     go_wp2_with fail
     go_region_with (first|(go_at_call 118;refine(QbB s1 s _ olx or).mono ?_;rintro e w4 ⟨rfl,f⟩;obtain⟨j0,j1,j2,j3,j4,j5,j6,j7,j8,j9⟩:=Qaz (m.below (QD f))))
     all_goals
      go_wp2_with fail
      go_ret
      refine⟨_,rfl,⟨_,al,some ⟨br,0,none⟩,rfl,?_,?_,?_⟩,Qcd (Qf i (QD f)) (by omega)⟩
      ·rw[ES.out,ET.out,V.out]
       exact Qha (m.below (QD f))
      ·exact NodeAt.below (Qcd (Qf i (QD f)) (by omega)) l al z
      ·exact NodeAt.below (Qcd (Qf i (QD f)) (by omega)) _ _ H
end Go.Proofs.YtgiihhikdoikgaaGreat
