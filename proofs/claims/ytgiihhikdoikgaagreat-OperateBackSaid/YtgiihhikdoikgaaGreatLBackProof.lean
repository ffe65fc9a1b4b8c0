/-
  OperateBack answers true at every input, and writes nothing that was there. Conditions: none.
-/
import Derived.Test.YtgiihhikdoikgaaGreatLBack
import Derived.ProofKit
import Derived.OpenShut
import Derived.ShutString
set_option linter.unusedSimpArgs false
set_option linter.unusedVariables false
set_option maxRecDepth 100000
set_option maxHeartbeats 32000000
namespace Go.Proofs.YtgiihhikdoikgaaGreat.operateBack
open Go.ChangeShapes Go.WideShapes Go.ChangeAt Go.RowKit
open Go.ChangeMaps (open_string shut_string)
theorem own:ownKnob Tryz.prog.godebug=none:=by kernel_rfl
theorem QmJ:laidOutB Tryz.prog=true:=by kernel_rfl
def Qsc (k:IntKind)(w:World)(a:Option Addr)(len cap:Nat)(zs:List Int):Prop:=
 (a=none/\len=0/\cap=0/\zs=[]) \/
 ∃x,a=some x/\len<=cap/\cap<=maxLen/\zs.length=cap/\(∀i,i<zs.length->w.cell? (x.add i)=some (.int k (zs.getD i 0)))/\∀n ∈ zs,(Lit.int k n).wf=true
theorem Qcr {n:Int}(h:(Lit.int .i64 n).wf=true):Qb4 n:=by
 have a:IntKind.i64.min = -9223372036854775808:=by decide
 have b:IntKind.i64.max=9223372036854775807:=by decide
 unfold Lit.wf at h
 dsimp only at h
 rw[a,b,Bool.and_eq_true,decide_eq_true_eq,decide_eq_true_eq] at h
 exact h
theorem QsY (n:Int)(q:Option Addr)(a f:Nat)(t:List Int)(k m l b c e d:Int)(w:World)(w1:Qsc .u8 w q a f t)(h2:Qb4 k)(z:Qb4 m)(v:Qb4 l)(p:Qb4 b)(r:Qb4 c)(s:Qb4 d) :
  Calls Tryz.prog 4 #[.agg #[.int .i64 n,.slice q a f,.int .i64 k,.int .i64 m,.int .i64 l],.agg #[.int .i64 b,.int .i64 c,.int .i64 e],.int .i64 d] w fun e w'=>e=.returned (.bool true)/\ZB w w':=by
 rcases w1 with ⟨rfl,rfl,rfl,rfl⟩|⟨x,rfl,F,hm,G,g,o⟩
 ·exact Qgf ⟨n,k,m,l,[]⟩ b c e d none 0 0 w ⟨rfl,fun h=>absurd h (by omega)⟩ (fun x B=>by cases B) h2 z v p r s
 ·refine Qgf ⟨n,k,m,l,t.take a⟩ b c e d (some x) a f w ⟨by simp;omega,fun _=>⟨x,rfl,trivial,fun j u i=>?_⟩⟩ (fun y A=>?_) h2 z v p r s
  ·rw[List.getElem?_map,List.getElem?_take] at i
   split at i
   ·rename_i E
    rw[List.getElem?_eq_getElem (by omega)] at i
    have:=g j (by omega)
    rw[List.getD_eq_getElem?_getD,List.getElem?_eq_getElem (by omega)] at this
    rw[this]
    exact i
   ·cases i
  ·have:=o y (List.mem_of_mem_take A)
   have C:IntKind.u8.min=0:=by decide
   have D:IntKind.u8.max=255:=by decide
   unfold Lit.wf at this
   dsimp only at this
   rw[C,D,Bool.and_eq_true,decide_eq_true_eq,decide_eq_true_eq] at this
   omega
theorem Qp4:Tryz.prog.cellsOf 3=1:=by kernel_rfl
theorem Qsi:Tryz.prog.cellsOf 47=1:=by kernel_rfl
theorem Qr2:Tryz.prog.cellsOf 49=5:=by kernel_rfl
theorem Qln {H:Type}{enc:TypeId × Value->H}{W:World}{o:Array Value}{d:DataW H}{p:List MemPlace}(t:o.size=5)(h:DataW.Trod enc Tryz.prog W 0 (fun _=>true) true 49 (.agg o) d p) :
  ∃(K:Int) (B:Option Addr) (b e:Nat) (N:List Int) (z I F:Int),o = #[.int .i64 K,.slice B b e,.int .i64 z,.int .i64 I,.int .i64 F]/\Qsc .u8 W B b e N/\Qb4 z/\Qb4 I/\Qb4 F:=by
 obtain⟨fuel,M⟩:=h
 obtain⟨xs,n,_,O,C,s,a⟩:=DataW.trod_struct Tryz.underlying49 M
 rcases o with ⟨l⟩
 match l,t with
 | [c0,c1,c2,c3,c4],_=>
  have q:=a 0 _ rfl
  have u:=a 1 _ rfl
  have v:=a 2 _ rfl
  have r:=a 3 _ rfl
  have y:=a 4 _ rfl
  simp[Value.cells,Qp4,Qsi] at q u v r y
  have E:xs.length=5:=s
  rw[List.getElem?_eq_getElem (by omega)] at q u v r y
  obtain⟨A,k,_,w0⟩:=DataW.trod_int Tryz.underlying3 q
  obtain⟨n2,m,_,D⟩:=DataW.trod_int Tryz.underlying3 v
  obtain⟨G,i,_,w3⟩:=DataW.trod_int Tryz.underlying3 r
  obtain⟨J,j,_,w4⟩:=DataW.trod_int Tryz.underlying3 y
  injection k with k
  injection m with m
  injection i with i
  injection j with j
  rcases open_ints Tryz.underlying47 Tryz.underlying5 (by kernel_rfl) u with ⟨g,_⟩|⟨x,l,c,zs,g,_,C,hm,L,_,f,w⟩
  ·injection g with g
   exact⟨A,none,0,0,[],n2,G,J,by rw[k,g,m,i,j],.inl ⟨rfl,rfl,rfl,rfl⟩,Qcr D,Qcr w3,Qcr w4⟩
  ·injection g with g
   exact⟨A,some x,l,c,zs,n2,G,J,by rw[k,g,m,i,j],.inr ⟨_,rfl,C,hm,by simpa using L,f,w⟩,Qcr D,Qcr w3,Qcr w4⟩
theorem QrO:Tryz.prog.cellsOf 29=3:=by kernel_rfl
theorem Qn9 {H:Type}{enc:TypeId × Value->H}{W:World}{f:Array Value}{d:DataW H}{p:List MemPlace}(o:f.size=3)(h:DataW.Trod enc Tryz.prog W 0 (fun _=>true) true 29 (.agg f) d p) :
  ∃a b c:Int,f = #[.int .i64 a,.int .i64 b,.int .i64 c]/\Qb4 a/\Qb4 b:=by
 obtain⟨fuel,u⟩:=h
 obtain⟨xs,n,_,w,v,i,e⟩:=DataW.trod_struct Tryz.underlying29 u
 rcases f with ⟨l⟩
 match l,o with
 | [c0,c1,c2],_=>
  have g:=e 0 _ rfl
  have q:=e 1 _ rfl
  have r:=e 2 _ rfl
  simp[Value.cells,Qp4] at g q r
  have s:xs.length=3:=i
  rw[List.getElem?_eq_getElem (by omega)] at g q r
  obtain⟨t,j,_,w0⟩:=DataW.trod_int Tryz.underlying3 g
  obtain⟨n1,k,_,w1⟩:=DataW.trod_int Tryz.underlying3 q
  obtain⟨n2,m,_,x⟩:=DataW.trod_int Tryz.underlying3 r
  injection j with j
  injection k with k
  injection m with m
  exact⟨t,n1,n2,by rw[j,k,m],Qcr w0,Qcr w1⟩
theorem QrU (os:Os)(started:os.Started)(H:Type)(enc:TypeId × Value->H) :
  ReturnsInHanded {} Tryz.checked os 4 .any (Rows.operateBackSpec.pre6 enc Tryz.prog Tryz.f4 Rows.operateBackRow.domain false) (Rows.operateBackSpec.post enc Tryz.prog Tryz.f4 false true false false):=by
 refine returnsInHanded_of_change (C:=Tryz.checked) own started (by kernel_rfl) Tryz.func4
  (ChangeSpec.witness6 (enc:=enc) (C:=Tryz.checked) false ⟨#[],#[.agg #[.int .i64 0,.slice none 0 0,.int .i64 0,.int .i64 0,.int .i64 0],.agg #[.int .i64 0,.int .i64 0,.int .i64 0],.int .i64 0],[]⟩ 8 (by kernel_rfl) (by kernel_rfl) (by kernel_rfl) (by kernel_rfl)) ?_
 intro W base args ds gs before f G D _
 have a : ∀(j:Nat) t v,Tryz.f4.params[j]? = some t->args[j]? = some v->Value.okWide Tryz.prog W .any base t v:=f
 have u:=G
 obtain⟨p,q,n,hV,rfl,P,V⟩:=G
 have E:DataW.TrodAll enc Tryz.prog W 0 (fun _=>true) true Tryz.f4.params.toList args.toList ds p:=n
 rw[Tryz.params4] at E a
 obtain⟨F,a5,d0,a9,X,q0,w,rfl,rfl,B,M⟩:=trodAll_cons E
 obtain⟨A,a6,d1,a8,U,q1,rfl,rfl,rfl,h1,N⟩:=trodAll_cons M
 obtain⟨z,O,d2,K,p2,q2,rfl,rfl,rfl,h2,S⟩:=trodAll_cons N
 obtain⟨rfl,rfl,rfl⟩:=trodAll_nil S
 obtain rfl:args = #[F,A,z]:=by cases args;simp_all
 obtain⟨rfl,rfl⟩:=trodVars_none hV
 obtain⟨cs,rfl,o⟩:=okWide_struct Tryz.underlying49 (a 0 49 F rfl rfl)
 rw[Qr2] at o
 have I:=B
 have s : ∀x ∈ X,x.block<W.heap.size:=by obtain⟨m,hm⟩:=I;exact DataW.trod_lt m _ _ _ hm
 obtain⟨Q,L,k,l,z1,R,T,Z,rfl,i,J,Y,f4⟩:=Qln o B
 obtain⟨a7,rfl,g⟩:=okWide_struct Tryz.underlying29 (a 1 29 A rfl rfl)
 rw[QrO] at g
 have y:=h1
 have r : ∀x ∈ U,x.block<W.heap.size:=by obtain⟨m,hm⟩:=y;exact DataW.trod_lt m _ _ _ hm
 obtain⟨b,c,e0,rfl,fb,fc⟩:=Qn9 g h1
 obtain⟨d,rfl,rfl,rfl,wd⟩:=open_int Tryz.underlying3 (a 2 3 z rfl rfl) h2
 clear n f
 refine(QsY Q L k l z1 R T Z b c e0 d W i J Y f4 fb fc (Qcr wd)).mono fun e W' ⟨he,bel⟩=>?_
 subst he
 exact⟨_,rfl,_,_,_,[],_,[],u,trodAll_mk1 (shut_bool Tryz.underlying4 _),(trodAll_cons_mk (Below.trod QmJ (by kernel_rfl) (of_decide_eq_true (by kernel_rfl)) I bel s) (trodAll_cons_mk (Below.trod QmJ (by kernel_rfl) (of_decide_eq_true (by kernel_rfl)) y bel r) (trodAll_cons_mk (shut_int Tryz.underlying3 wd) trodAll_mk0))),rfl,bel.frame _,fun h=>by cases h⟩
theorem Qta:Rows.operateBackRow.holds Tryz.pinned (OpenSpec.ofChange Rows.operateBackSpec):=
 OpenClaim.holds_of_wide 4 Tryz.f4 rfl rfl rfl rfl rfl rfl rfl ⟨rfl,rfl,rfl,rfl,rfl⟩ rfl rfl rfl rfl rfl (by kernel_rfl) Tryz.func4 (by kernel_rfl)
  (of_decide_eq_true (by kernel_rfl)) (by unfold Func.isWrapper;first|(rw[if_pos (by decide +kernel)];kernel_rfl)|(rw[if_neg (by decide +kernel)];exact⟨rfl,rfl⟩))
  (fun os started H enc _=>QrU os started H enc)
theorem proved:Rows.OperateBackSaid:=Qta
end Go.Proofs.YtgiihhikdoikgaaGreat.operateBack
