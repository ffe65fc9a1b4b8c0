/-
  The walks of package codec, fourth part: Next. The walks of package piece, first part: sums.
-/
import Derived.Test.YtgiihhikdoikgaaGreatLHeavy
set_option linter.unusedSimpArgs false
set_option linter.unusedVariables false
set_option maxRecDepth 100000
set_option maxHeartbeats 32000000
namespace Go.Proofs.YtgiihhikdoikgaaGreat
open Go.RowKit
def Qci (enc:Int):Value:=
 if enc=1 then .iface 209 (.agg #[]) else if enc=2 then .iface 211 (.agg #[.int .i64 0]) else if enc=3 then .iface 211 (.agg #[.int .i64 1]) else .iface 212 (.agg #[])
theorem QcJ (enc:Int)(w:World)(h:enc=1\/enc=2\/enc=3\/enc=4):Calls Tryz.prog 101 #[.int .i64 enc] w fun e w'=>e=.returned (Qci enc)/\w=w':=by
 rcases h with rfl|rfl|rfl|rfl
 all_goals
  go_enter Tryz.func101,Tryz.ntmps101
  go_wp2_with fail
  go_ret
  exact⟨rfl,rfl⟩
def Qa8 (enc:Int)(l:List Int):Int:=if enc=1 then QcH l else if enc=2 then Qbc 0 l else if enc=3 then Qbc 1 l else Qma l
def QB (enc:Int)(l:List Int):Int:=if enc=1 then Qbj l else if enc=2 then Qaf 0 l else if enc=3 then Qaf 1 l else 1
theorem QoM (w : World) : (nilAhead 399 209 (.agg #[]) "copyist/codec.first").run Tryz.prog w = .ok (some false) w := by kernel_rfl
theorem Qgl (o : Int)(w : World) : (nilAhead 399 211 (.agg #[.int .i64 o]) "copyist/codec.first").run Tryz.prog w = .ok (some false) w := by kernel_rfl
theorem QoB (w : World) : (nilAhead 399 212 (.agg #[]) "copyist/codec.first").run Tryz.prog w = .ok (some false) w := by kernel_rfl
theorem QpX (w : World) : (method 399 209 (.agg #[]) "copyist/codec.first").run Tryz.prog w = .ok (226, .agg #[]) w := by kernel_rfl
theorem Qgc (o : Int)(w : World) : (method 399 211 (.agg #[.int .i64 o]) "copyist/codec.first").run Tryz.prog w = .ok (233, .agg #[.int .i64 o]) w := by kernel_rfl
theorem Qp0 (w : World) : (method 399 212 (.agg #[]) "copyist/codec.first").run Tryz.prog w = .ok (242, .agg #[]) w := by kernel_rfl
theorem QcP (enc:Int)(D:Nat->Prop)(A:Option Addr)(n c p:Nat)(l:List Int)(w:World)(m:enc=1\/enc=2\/enc=3\/enc=4)(i:Bts w D A n l)(d:Byt l)(hn:n<=2147483648)(j:n<=c)(hp:p<n) :
  Calls Tryz.prog 117 #[.int .i64 enc,.slice A n c,.int .i64 (p:Int)] w fun e w'=>e=.returned (.tuple #[.int .i64 (Qa8 enc (l.drop p)),.int .i64 (QB enc (l.drop p))])/\ZB w w':=by
 obtain⟨k,rfl,q,_⟩:=i.at_ hp
 have g:Bts w D (some (k.add p)) (n-p) (l.drop p):=by
  have:=Reads.cut i (Nat.le_of_lt hp) (Nat.le_succ n)
  rw[if_neg (by omega)] at this
  simpa[Bts] using this
 have t : ¬c=p:=by omega
 have s:(0:Int)<=(p:Int):=by omega
 have r:(p:Int)<=(n:Int):=by omega
 have o:(p:Int)<=(c:Int):=by omega
 have b:Bts w.drew D (some (k.add p)) (n-p) (l.drop p):=g
 rcases m with rfl|rfl|rfl|rfl
 ·go_enter Tryz.func117,Tryz.ntmps117
  go_wp2_with fail
  refine(QcJ _ _ (by omega)).mono ?_
  rintro e w1 ⟨rfl,rfl⟩
  simp only[Qci,if_true,Int.reduceEq,if_false]
  go_wp2_with fail
  have h:=QoM
  have f:=QpX
  go_region_with (go_at_call 226;refine(Qlt D _ (n-p) (c-p) (l.drop p) _ b (d.drop p) (by omega) (by omega) (by omega)).mono ?_;rintro e w3 ⟨rfl,a⟩)
  go_wp2_with fail
  go_ret2
  exact⟨rfl,QD a⟩
 ·go_enter Tryz.func117,Tryz.ntmps117
  go_wp2_with fail
  refine(QcJ _ _ (by omega)).mono ?_
  rintro e w1 ⟨rfl,rfl⟩
  simp only[Qci,if_true,Int.reduceEq,if_false]
  go_wp2_with fail
  have h:=Qgl 0
  have f:=Qgc 0
  go_region_with (go_at_call 233;refine(Qfz 0 D _ (n-p) (c-p) (l.drop p) _ (.inl rfl) b (d.drop p) (by omega) (by omega) (by omega)).mono ?_;rintro e w3 ⟨rfl,a⟩)
  go_wp2_with fail
  go_ret2
  exact⟨rfl,QD a⟩
 ·go_enter Tryz.func117,Tryz.ntmps117
  go_wp2_with fail
  refine(QcJ _ _ (by omega)).mono ?_
  rintro e w1 ⟨rfl,rfl⟩
  simp only[Qci,if_true,Int.reduceEq,if_false]
  go_wp2_with fail
  have h:=Qgl 1
  have f:=Qgc 1
  go_region_with (go_at_call 233;refine(Qfz 1 D _ (n-p) (c-p) (l.drop p) _ (.inr rfl) b (d.drop p) (by omega) (by omega) (by omega)).mono ?_;rintro e w3 ⟨rfl,a⟩)
  go_wp2_with fail
  go_ret2
  exact⟨rfl,QD a⟩
 ·go_enter Tryz.func117,Tryz.ntmps117
  go_wp2_with fail
  refine(QcJ _ _ (by omega)).mono ?_
  rintro e w1 ⟨rfl,rfl⟩
  simp only[Qci,if_true,Int.reduceEq,if_false]
  go_wp2_with fail
  have h:=QoB
  have f:=Qp0
  go_region_with (go_at_call 242;refine(Qlf D _ (n-p) (c-p) (l.drop p) _ b (d.drop p) (by omega)).mono ?_;rintro e w3 ⟨rfl,a⟩)
  go_wp2_with fail
  go_ret2
  exact⟨rfl,QD a⟩
theorem Qa {w w1:World}{o:Obj}(h:ZB w w1):ZB w (w1.alloc o):=h.alloc h.size o
structure Sums where
 atoms:Int
 bytes:Int
 breaks:Int
 lf:Bool
 cr:Bool
def Sums.cells (s:Sums):Array Value := #[.int .i64 s.atoms,.int .i64 s.bytes,.int .i64 s.breaks,.bool s.lf,.bool s.cr]
def Sums.ok (s:Sums):Prop:=0<=s.atoms/\s.atoms<=2147483648/\0<=s.bytes/\s.bytes<=2147483648/\0<=s.breaks/\s.breaks<=2147483648
def QM (s o:Sums):Sums:=
 if s.atoms=0 then o else if o.atoms=0 then s else
 { atoms:=s.atoms+o.atoms,bytes:=s.bytes+o.bytes,breaks:=if (s.cr && o.lf)=true then s.breaks+o.breaks-1 else s.breaks+o.breaks,lf:=s.lf,cr:=o.cr }
theorem Qrf (s o:Sums)(w:World)(c:s.ok)(a:o.ok) :
  Calls Tryz.prog 118 #[.agg s.cells,.agg o.cells] w fun e w'=>e=.returned (.agg (QM s o).cells)/\ZB w w':=by
 obtain⟨p,m,g,h,r,i⟩:=c
 obtain⟨f,k,d,n,l,j⟩:=a
 obtain⟨sa,sb,sk,sl,sc⟩:=s
 obtain⟨oa,ob,ok,ol,oc⟩:=o
 simp only[Sums.cells] at *
 by_cases h1:sa=0
 ·have e:QM ⟨sa,sb,sk,sl,sc⟩ ⟨oa,ob,ok,ol,oc⟩=⟨oa,ob,ok,ol,oc⟩:=by unfold QM;rw[if_pos h1]
  rw[e]
  have q:(sa==0)=true:=by rw[beq_iff_eq];exact h1
  clear h1 e
  go_enter Tryz.func118,Tryz.ntmps118
  go_wp2
  refine bodyPost_ret (v:=.agg #[.int .i64 oa,.int .i64 ob,.int .i64 ok,.bool ol,.bool oc]) (by simp[results,Tryz.results118,go_sem]) rfl ⟨rfl,?_⟩
  repeat (first|exact Below.refl _ _|apply Qa)
 by_cases h2:oa=0
 ·have e:QM ⟨sa,sb,sk,sl,sc⟩ ⟨oa,ob,ok,ol,oc⟩=⟨sa,sb,sk,sl,sc⟩:=by unfold QM;rw[if_neg h1,if_pos h2]
  rw[e]
  have q:(sa==0)=false:=by rw[beq_eq_false_iff_ne];exact h1
  have b:(oa==0)=true:=by rw[beq_iff_eq];exact h2
  clear h1 h2 e
  go_enter Tryz.func118,Tryz.ntmps118
  go_wp2
  refine bodyPost_ret (v:=.agg #[.int .i64 sa,.int .i64 sb,.int .i64 sk,.bool sl,.bool sc]) (by simp[results,Tryz.results118,go_sem]) rfl ⟨rfl,?_⟩
  repeat (first|exact Below.refl _ _|apply Qa)
 have q:(sa==0)=false:=by rw[beq_eq_false_iff_ne];exact h1
 have b:(oa==0)=false:=by rw[beq_eq_false_iff_ne];exact h2
 cases sc<;>cases ol
 case true.true=>
  have e:QM ⟨sa,sb,sk,sl,true⟩ ⟨oa,ob,ok,true,oc⟩=⟨sa+oa,sb+ob,sk+ok-1,sl,oc⟩:=by unfold QM;rw[if_neg h1,if_neg h2];rfl
  rw[e]
  clear h1 h2 e
  go_enter Tryz.func118,Tryz.ntmps118
  go_wp2
  refine bodyPost_ret (v:=.agg #[.int .i64 (sa+oa),.int .i64 (sb+ob),.int .i64 (sk+ok-1),.bool sl,.bool oc]) (by simp[results,Tryz.results118,go_sem]) rfl ⟨rfl,?_⟩
  repeat (first|exact Below.refl _ _|apply Qa)
 case true.false=>
  have e:QM ⟨sa,sb,sk,sl,true⟩ ⟨oa,ob,ok,false,oc⟩=⟨sa+oa,sb+ob,sk+ok,sl,oc⟩:=by unfold QM;rw[if_neg h1,if_neg h2];rfl
  rw[e]
  clear h1 h2 e
  go_enter Tryz.func118,Tryz.ntmps118
  go_wp2
  refine bodyPost_ret (v:=.agg #[.int .i64 (sa+oa),.int .i64 (sb+ob),.int .i64 (sk+ok),.bool sl,.bool oc]) (by simp[results,Tryz.results118,go_sem]) rfl ⟨rfl,?_⟩
  repeat (first|exact Below.refl _ _|apply Qa)
 case false.true=>
  have e:QM ⟨sa,sb,sk,sl,false⟩ ⟨oa,ob,ok,true,oc⟩=⟨sa+oa,sb+ob,sk+ok,sl,oc⟩:=by unfold QM;rw[if_neg h1,if_neg h2];rfl
  rw[e]
  clear h1 h2 e
  go_enter Tryz.func118,Tryz.ntmps118
  go_wp2
  refine bodyPost_ret (v:=.agg #[.int .i64 (sa+oa),.int .i64 (sb+ob),.int .i64 (sk+ok),.bool sl,.bool oc]) (by simp[results,Tryz.results118,go_sem]) rfl ⟨rfl,?_⟩
  repeat (first|exact Below.refl _ _|apply Qa)
 case false.false=>
  have e:QM ⟨sa,sb,sk,sl,false⟩ ⟨oa,ob,ok,false,oc⟩=⟨sa+oa,sb+ob,sk+ok,sl,oc⟩:=by unfold QM;rw[if_neg h1,if_neg h2];rfl
  rw[e]
  clear h1 h2 e
  go_enter Tryz.func118,Tryz.ntmps118
  go_wp2
  refine bodyPost_ret (v:=.agg #[.int .i64 (sa+oa),.int .i64 (sb+ob),.int .i64 (sk+ok),.bool sl,.bool oc]) (by simp[results,Tryz.results118,go_sem]) rfl ⟨rfl,?_⟩
  repeat (first|exact Below.refl _ _|apply Qa)
end Go.Proofs.YtgiihhikdoikgaaGreat
