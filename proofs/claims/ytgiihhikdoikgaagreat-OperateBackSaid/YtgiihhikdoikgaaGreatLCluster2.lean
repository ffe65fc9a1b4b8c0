/-
  The walks of package cluster, second part: takes, begin.
-/
import Derived.Test.YtgiihhikdoikgaaGreatLCluster
set_option linter.unusedSimpArgs false
set_option linter.unusedVariables false
set_option maxRecDepth 100000
set_option maxHeartbeats 32000000
namespace Go.Proofs.YtgiihhikdoikgaaGreat
open Go.RowKit
theorem ScanAt.after {w0 w1 a:World}{g:Nat}{s s':Scan}(h:ScanAt w0 w1 g s)(k:ScanAt w1 a g s'):ScanAt w0 a g s':=⟨k.1,h.2.trans k.2⟩
noncomputable def Qdm (s:Scan)(a:Int):Bool:=
 if s.last=1/\Qaa a=2 then true
 else if QdL s.last=true\/QdL (Qaa a)=true then false
 else if Qaa a=4\/Qaa a=5\/Qaa a=8\/s.last=7 then true
 else if QgF s.last (Qaa a)=true then true
 else if QiY a=1/\s.conj=2 then true
 else if Qaa a=14 then s.pict==2
 else if Qaa a=6 then s.flags % 2==1
 else false
noncomputable def QcX (s:Scan)(a:Int):Scan:=if Qdm s a=true then QfP s (Qaa a) (QiY a) else s
theorem Qh7 (g:Nat)(s:Scan)(a:Int)(w:World)(h:Blk w g 200 s.cells)(p:0<=s.flags/\s.flags<=4611686018427387904) :
  Calls Tryz.prog 129 #[.pointer (some ⟨g,0,none⟩),.int .i64 a] w fun e w'=>
   e=.returned (.bool (Qdm s a))/\ScanAt w w' g (QcX s a):=by
 obtain⟨f,i⟩:=p
 go_enter Tryz.func129,Tryz.ntmps129
 go_upto_block 0 with (first|(go_at_call 130;refine(QdQ _ _).mono ?_;rintro e w1 ⟨rfl,c⟩)|(go_at_call 149;refine(QeG _ _).mono ?_;rintro e j ⟨rfl,b⟩))
 have d:ScanAt w j g s:=⟨(h.below c).below b,Fr.of_below (Qf c b)⟩
 clear c b h
 obtain⟨c0,c1,c2,m,o,q,k,l⟩:=d.facts
 go_cut [7] (fun n wx=>n=.bool (Qdm s a)/\wx=j)
 case first=>
  cases hp:(QiY a==1)<;>cases hl:(s.last==1)
  all_goals
   go_wp2_with (first|(go_at_call 131;refine(Qhs _ _).mono ?_;rintro e w1 ⟨rfl,rfl⟩)|(go_at_call 150;refine(Qld _ _ _).mono ?_;rintro e w1 ⟨rfl,rfl⟩))
  all_goals
   go_light
   go_meet
   refine⟨congrArg Value.bool ?_,rfl⟩
   (try simp only[beq_iff_eq,beq_eq_false_iff_ne,ne_eq] at *)
   clear c0 c1 c2 m o q k l d
   unfold Qdm
   (repeat' split)<;>first|rfl|(simp_all;done)|(simp_all;omega)
 case rest=>
  obtain⟨rfl,rfl⟩:=hcut
  cases hj:Qdm s a
  ·go_wp2
   go_ret
   refine⟨Qb3 hj.symm,d.eq ?_⟩
   simp[QcX,hj]
  ·go_wp2_with (go_at_call 148;refine(QjN g s _ _ _ d.1 ⟨f,i⟩).mono ?_;rintro e w1 ⟨rfl,hn⟩)
   go_ret
   refine⟨Qb3 hj.symm,(ScanAt.after d hn).eq ?_⟩
   simp[QcX,hj]
end Go.Proofs.YtgiihhikdoikgaaGreat
