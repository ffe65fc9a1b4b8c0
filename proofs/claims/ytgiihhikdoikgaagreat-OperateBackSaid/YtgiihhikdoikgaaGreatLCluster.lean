/-
  The walks of package cluster, first part: one scan (note, apart, hangul, takes, begin), as plain functions on a record of four integers.
-/
import Derived.Test.YtgiihhikdoikgaaGreatLHeavy
import Derived.Deep.CutBlock
set_option linter.unusedSimpArgs false
set_option linter.unusedVariables false
set_option maxRecDepth 100000
set_option maxHeartbeats 32000000
namespace Go.Proofs.YtgiihhikdoikgaaGreat
open Go.RowKit
def QqN (c:Int):Int:=if 57<c then c-65+10 else c-48
def Qip:List UInt8->Int->Int
 | [],n=>n
 |c::r,n=>Qip r (n*16+QqN c.toNat)
theorem QpW (l r:List UInt8)(n:Int):Qip (l++r) n=Qip r (Qip l n):=by
 induction l generalizing n with
 |nil=>rfl
 |cons c l ih=>simp[Qip,ih]
def Asc (s:ByteArray):Prop:=∀i (h:i<s.size),(s[i]'h).toNat<128
theorem QmQ (s:ByteArray)(k:Nat)(h:k<s.size):Qip (s.data.toList.take (k+1)) 0=Qip (s.data.toList.take k) 0*16+QqN (s[k].toNat):=by
 rw[List.take_succ_eq_append_getElem (by simpa using h),QpW];rfl
theorem Qra (l:List UInt8) : ∀(n B:Int),0<=B -> -B<=n->n<=B -> - ((B+16)*16 ^ l.length)<=Qip l n/\Qip l n<=(B+16)*16 ^ l.length:=by
 induction l with
 |nil=>intro n B a h1 h2;simp[Qip];omega
 |cons c l ih=>
  intro n B a h1 h2
  have d:(c.toNat:Int)<256:=by have:=c.toNat_lt;omega
  have b : -48<=QqN c.toNat/\QqN c.toNat<=200:=by unfold QqN;split<;>omega
  have:=ih (n*16+QqN c.toNat) (B*16+200) (by omega) (by omega) (by omega)
  simp only[Qip,List.length_cons,Int.pow_succ]
  have e:(B*16+200+16)<=(B+16)*16:=by omega
  have hp:(0:Int)<=16 ^ l.length:=Int.pow_nonneg (by omega)
  have:=Int.mul_le_mul_of_nonneg_right e hp
  have f:(B+16)*(16 ^ l.length*16)=(B+16)*16*16 ^ l.length:=by rw[Int.mul_comm (16 ^ l.length) 16,Int.mul_assoc]
  omega
theorem QpY (l:List UInt8)(h:l.length<=8) : -68719476736<=Qip l 0/\Qip l 0<=68719476736:=by
 have:=Qra l 0 0 (by omega) (by omega) (by omega)
 have h2:(16:Nat) ^ l.length<=16 ^ 8:=Nat.pow_le_pow_right (by omega) h
 have e:(16:Nat) ^ 8=4294967296:=by decide
 have a:((16:Int) ^ l.length)=((16 ^ l.length:Nat):Int):=by simp
 omega
theorem Qk7 (s:ByteArray)(w:World)(c:s.size<=8)(a:Asc s) :
  Calls Tryz.prog 168 #[.string s] w fun e w'=>e=.returned (.int .i64 (Qip s.data.toList 0))/\ZB w w':=by
 go_enter Tryz.func168,Tryz.ntmps168
 go_wp2
 go_loopw [3] (fun n w'=>∃(pos:Nat),pos<=s.size/\w'=w.iter s pos/\n=.int .i64 (Qip (s.data.toList.take pos) 0)) (fun _ w'=>s.size-w'.iterPos w.heap.size)
 case atStart=>exact⟨0,by omega,rfl,rfl⟩
 case round=>
  obtain⟨pos,hp,rfl,rfl⟩:=hrel
  by_cases hlt:pos<s.size
  ·have hn:=fun ty=>run_next_ascii (P:=Tryz.prog) w s pos ty hlt (a pos hlt)
   have d:=a pos hlt
   obtain⟨f,b⟩:=QpY (s.data.toList.take pos) (by simp;omega)
   go_wp2
   all_goals go_roundw
   all_goals first
    |(refine⟨pos+1,by omega,rfl,?_⟩;rw[QmQ s pos hlt];unfold QqN;first|rw[if_pos (by assumption)]|rw[if_neg (by omega)])
    |(simp;omega)
  ·have hn:=fun ty=>run_next_end (P:=Tryz.prog) w s pos ty hlt
   go_wp2
   go_ret
   have:pos=s.size:=by omega
   subst this
   refine⟨?_,(Below.refl _ _).alloc (by simp) _⟩
   show Ending.returned (.int .i64 _)=_
   rw[List.take_of_length_le (by simp)]
def Qcs (a:Int):Bool:=decide (0<=a/\a<0xD800\/0xDFFF<a/\a<=0x10FFFF)
theorem Qc8 (a:Int)(w:World) :
  Calls Tryz.prog 151 #[.int .i64 a] w fun e w'=>e=.returned (.bool (Qcs a))/\w=w':=by
 go_enter Tryz.func151,Tryz.ntmps151
 go_wp2
 all_goals
  go_ret
  refine⟨congrArg (fun b=>Ending.returned (.bool b)) ?_,rfl⟩
  unfold Qcs
  rw[Bool.eq_iff_iff]
  simp
  omega
def Qrn (s:ByteArray)(m i j:Nat):Int:=Qip ((s.data.toList.drop (m*11+i)).take (j-i)) 0
def Qcz (s:ByteArray)(a:Int):Nat->Nat->Nat->Int
 | 0,_,_=>0
 |f+1,lo,hi=>
  if lo<hi then
   if a<Qrn s ((lo+hi) / 2) 0 5 then Qcz s a f lo ((lo+hi) / 2)
   else if Qrn s ((lo+hi) / 2) 5 10<a then Qcz s a f ((lo+hi) / 2+1) hi
   else Qrn s ((lo+hi) / 2) 10 11
  else 0
def Qcv (s:ByteArray)(a:Int):Int:=Qcz s a (s.size / 11) 0 (s.size / 11)
theorem Qi8 (s:ByteArray)(a:Int)(f lo b:Nat)(h : ¬lo<b):Qcz s a f lo b=0:=by
 cases f<;>simp[Qcz,h]
theorem Qe6 (s:ByteArray)(a b:Nat)(h:Asc s):Asc (s.extract a b):=by
 intro i c
 simp only[ByteArray.size_extract] at c
 rw[ByteArray.getElem_extract]
 exact h _ _
theorem QoF (s:ByteArray)(m i j:Nat)(b:j<=11)(a:i<=j) :
  Qrn s m i j=Qip ((s.extract (m*11) ((m+1)*11)).extract i j).data.toList 0:=by
 unfold Qrn
 congr 1
 simp only[ByteArray.data_extract,Array.toList_extract,List.extract_eq_take_drop]
 rw[List.drop_take,List.take_take,List.drop_drop]
 congr 1
 omega
theorem Qk0 (s:ByteArray)(m i j:Nat)(w:World)(b:Asc s)(_h:(m+1)*11<=s.size)(c:j<=11)(a:i<=j)(d:j<=i+8) :
  Calls Tryz.prog 168 #[.string ((s.extract (m*11) ((m+1)*11)).extract i j)] w fun e w'=>e=.returned (.int .i64 (Qrn s m i j))/\ZB w w':=by
 rw[QoF s m i j c a]
 exact Qk7 _ w (by simp only[ByteArray.size_extract];omega) (Qe6 _ _ _ (Qe6 _ _ _ b))
theorem Qek (s:ByteArray)(a:Int)(w:World)(n:s.size<=100000)(j:Asc s) :
  Calls Tryz.prog 152 #[.string s,.int .i64 a] w fun e w'=>e=.returned (.int .i64 (Qcv s a))/\ZB w w':=by
 go_enter Tryz.func152,Tryz.ntmps152
 go_wp2
 go_loopw [5,6] (fun l h wr=>∃(f lo b:Nat),b<=s.size / 11/\b<=lo+f/\l=.int .i64 lo/\h=.int .i64 b/\Qcv s a=Qcz s a f lo b/\ZB w wr) (fun l h _=>(intOf h-intOf l).toNat)
 case atStart=>exact⟨s.size / 11,0,s.size / 11,by omega,by omega,rfl,rfl,rfl,Below.refl _ _⟩
 case round=>
  obtain⟨f,lo,b,m,k,rfl,rfl,g,c⟩:=hrel
  have d:=Zh g
  clear g
  have hm:lo<b->((lo+b) / 2+1)*11<=s.size:=by intro h;omega
  go_wp2_with (go_at_call 168;refine(Qk0 s ((lo+b) / 2) _ _ _ j (hm (by assumption)) (by omega) (by omega) (by omega)).mono ?_;rintro e w1 ⟨rfl,i⟩)
  ·refine⟨?_,by simp[intOf];omega⟩
   cases f with
   |zero=>omega
   |succ f=>
    refine⟨f,lo,(lo+b) / 2,by omega,by omega,rfl,by go_num,?_,Qf c ‹_›⟩
    rw[d.out,Qcz,if_pos (by assumption),if_pos (by assumption)]
  ·refine⟨?_,by simp[intOf];omega⟩
   cases f with
   |zero=>omega
   |succ f=>
    refine⟨f,(lo+b) / 2+1,b,by omega,by omega,by go_num,rfl,?_,Qf (Qf c ‹_›) ‹_›⟩
    rw[d.out,Qcz,if_pos (by assumption),if_neg (by omega),if_pos (by assumption)]
  ·cases f with
   |zero=>omega
   |succ f=>
    go_ret
    refine⟨?_,Qf (Qf (Qf c ‹_›) ‹_›) ‹_›⟩
    rw[d.out,Qcz,if_pos (by assumption),if_neg (by omega),if_neg (by omega)]
    show Ending.returned (.int .i64 (Qrn s _ _ _))=_
    rw[show ((lo+b) / 2+1)*11-(lo+b) / 2*11=11 by omega]
  ·go_ret
   refine⟨?_,c⟩
   rw[d.out,Qi8 _ _ _ _ _ (by assumption)]
   rfl
def QsB (o:Oper):Option ByteArray:=
 match o.op with
 | .call c=>c.args.findSome? fun | .const (.string s)=>some s|_=>none
 |_=>none
def Qeq:Code->Option ByteArray
 | .seq a b=>(Qeq a).or (Qeq b)
 | .cond _ a b=>(Qeq a).or (Qeq b)
 | .block _ a=>Qeq a
 | .region _ ops _=>ops.findSome? QsB
 |_=>none
def QjG (f:Func):ByteArray:=(f.body.bind Qeq).getD ByteArray.empty
def QrF (s:ByteArray):Bool:=s.data.toList.all fun c=>c.toNat<128
theorem Qnc {s:ByteArray}(h:QrF s=true):Asc s:=by
 intro i a
 unfold QrF at h
 rw[List.all_eq_true] at h
 have:=h (s[i]) (by rw[ByteArray.getElem_eq_getElem_data];simp)
 simpa using this
noncomputable def Qcn:ByteArray:=QjG Tryz.f130
noncomputable def Qdh:ByteArray:=QjG Tryz.f149
noncomputable def QcB:ByteArray:=QjG Tryz.f196
theorem Qj2:QrF Qcn=true/\decide (Qcn.size<=100000)=true:=by constructor<;>kernel_rfl
theorem Ql7:QrF Qdh=true/\decide (Qdh.size<=100000)=true:=by constructor<;>kernel_rfl
theorem QnV:QrF QcB=true/\decide (QcB.size<=100000)=true:=by constructor<;>kernel_rfl
theorem QhI (a:Int)(w:World):Calls Tryz.prog 152 #[.string Qcn,.int .i64 a] w fun e w'=>e=.returned (.int .i64 (Qcv Qcn a))/\ZB w w':=
 Qek Qcn a w (of_decide_eq_true Qj2.2) (Qnc Qj2.1)
theorem Qjl (a:Int)(w:World):Calls Tryz.prog 152 #[.string Qdh,.int .i64 a] w fun e w'=>e=.returned (.int .i64 (Qcv Qdh a))/\ZB w w':=
 Qek Qdh a w (of_decide_eq_true Ql7.2) (Qnc Ql7.1)
theorem QjI (a:Int)(w:World):Calls Tryz.prog 152 #[.string QcB,.int .i64 a] w fun e w'=>e=.returned (.int .i64 (Qcv QcB a))/\ZB w w':=
 Qek QcB a w (of_decide_eq_true QnV.2) (Qnc QnV.1)
noncomputable def Qaa (a:Int):Int:=
 if Qcs a=false then 3
 else if 0<=a-44032/\a-44032<11172 then (if (a-44032) % 28=0 then 12 else 13)
 else Qcv Qcn a
theorem QdQ (a:Int)(w:World) :
  Calls Tryz.prog 130 #[.int .i64 a] w fun e w'=>e=.returned (.int .i64 (Qaa a))/\ZB w w':=by
 by_cases hs:Qcs a=false
 ·go_enter Tryz.func130,Tryz.ntmps130
  go_wp2_with (go_at_call 151;refine(Qc8 _ _).mono ?_;rintro e w1 ⟨rfl,rfl⟩)
  go_ret
  exact⟨by rw[Qaa,if_pos hs];rfl,Below.refl _ _⟩
 ·have d:0<=a/\a<=0x10FFFF:=by
   have:Qcs a=true:=by simpa using hs
   unfold Qcs at this
   simp at this
   omega
  have b:Qcs a=true:=by simpa using hs
  go_enter Tryz.func130,Tryz.ntmps130
  go_wp2_with (first|(go_at_call 151;refine(Qc8 _ _).mono ?_;rintro e w1 ⟨rfl,rfl⟩)|(go_at_call 152;refine(QhI _ _).mono ?_;rintro e w1 ⟨rfl,c⟩))
  all_goals
   go_ret
   refine⟨QaB ?_,by first|exact Below.refl _ _|assumption⟩
   show _=Qaa a
   rw[Qaa,if_neg hs]
  all_goals
   (try simp only[beq_iff_eq,beq_eq_false_iff_ne,ne_eq] at *)
   (repeat' split)<;>first|rfl|omega
noncomputable def QiY (a:Int):Int:=
 if a=0x94D\/a=0x9CD\/a=0xACD\/a=0xB4D\/a=0xC4D\/a=0xD4D then 3
 else if a=0x200C then 0
 else if Qaa a=4\/Qaa a=5 then 2
 else if Qaa a=0/\Qcs a=true then Qcv Qdh a
 else 0
theorem QeG (a:Int)(w:World) :
  Calls Tryz.prog 149 #[.int .i64 a] w fun e w'=>e=.returned (.int .i64 (QiY a))/\ZB w w':=by
 go_enter Tryz.func149,Tryz.ntmps149
 go_wp2_with (first|(go_at_call 151;refine(Qc8 _ _).mono ?_;rintro e w1 ⟨rfl,rfl⟩)|(go_at_call 152;refine(Qjl _ _).mono ?_;rintro e w1 ⟨rfl,b⟩)|(go_at_call 130;refine(QdQ _ _).mono ?_;rintro e w1 ⟨rfl,b⟩))
 all_goals
  go_ret
  refine⟨QaB ?_,by first|exact Below.refl _ _|assumption|exact Qf ‹_› ‹_›⟩
  show _=QiY a
  unfold QiY
  (try simp only[beq_iff_eq,beq_eq_false_iff_ne,ne_eq] at *)
  (repeat' split)<;>first|rfl|omega|simp_all
noncomputable def QiX (a:Int):Int:=
 if Qcs a=false then 1 else if Qcv QcB a=2 then 2 else if Qcv QcB a=1 then 0 else 1
theorem Qpb (a:Int)(w:World) :
  Calls Tryz.prog 196 #[.int .i64 a] w fun e w'=>e=.returned (.int .i64 (QiX a))/\ZB w w':=by
 go_enter Tryz.func196,Tryz.ntmps196
 go_wp2_with (first|(go_at_call 151;refine(Qc8 _ _).mono ?_;rintro e w1 ⟨rfl,rfl⟩)|(go_at_call 152;refine(QjI _ _).mono ?_;rintro e w1 ⟨rfl,b⟩))
 all_goals
  go_ret
  refine⟨QaB ?_,by first|exact Below.refl _ _|assumption|exact Qf ‹_› ‹_›⟩
  show _=QiX a
  unfold QiX
  (try simp only[beq_iff_eq,beq_eq_false_iff_ne,ne_eq] at *)
  (repeat' split)<;>first|rfl|omega|simp_all
structure Scan where
 last:Int
 flags:Int
 pict:Int
 conj:Int
def Scan.cells (s:Scan):Array Value := #[.int .i64 s.last,.int .i64 s.flags,.int .i64 s.pict,.int .i64 s.conj]
def QfP (s:Scan)(c p:Int):Scan where
 last:=c
 flags:=if c=6 then s.flags+1 else 0
 pict:=if c=14 then 1 else if s.pict=1/\c=5 then 2 else if s.pict=1/\c=4 then s.pict else 0
 conj:=if p=1 then 1 else if 0<s.conj/\p=3 then 2 else if 0<s.conj/\p=2 then s.conj else 0
def QgM (s:Scan)(c:Int):Scan:={ s with last:=c,flags:=if c=6 then s.flags+1 else 0 }
def QiH (s:Scan)(c:Int):Scan:={ QgM s c with pict:=if c=14 then 1 else if s.pict=1/\c=5 then 2 else if s.pict=1/\c=4 then s.pict else 0 }
def ScanAt (w0 w:World)(g:Nat)(s:Scan):Prop:=Blk w g 200 s.cells/\Fr (· = g) w0 w
theorem ScanAt.facts {w0 w:World}{g:Nat}{s:Scan}(h:ScanAt w0 w g s) :
  w.cell? ⟨g,0,none⟩=some (.int .i64 s.last)/\w.cell? ⟨g,1,none⟩=some (.int .i64 s.flags)/\w.cell? ⟨g,2,none⟩=some (.int .i64 s.pict)/\w.cell? ⟨g,3,none⟩=some (.int .i64 s.conj) /\
  w.frozen? ⟨g,0,none⟩=false/\w.frozen? ⟨g,1,none⟩=false/\w.frozen? ⟨g,2,none⟩=false/\w.frozen? ⟨g,3,none⟩=false:=
 ⟨h.1.cell 0,h.1.cell 1,h.1.cell 2,h.1.cell 3,h.1.frozen 0,h.1.frozen 1,h.1.frozen 2,h.1.frozen 3⟩
theorem ScanAt.set0 {w0 w:World}{g:Nat}{s:Scan}(h:ScanAt w0 w g s)(v:Int):ScanAt w0 (w.setCell ⟨g,0,none⟩ (.int .i64 v)) g { s with last:=v }:=⟨h.1.set_ 0 _,h.2.set1 0 _⟩
theorem ScanAt.set1 {w0 w:World}{g:Nat}{s:Scan}(h:ScanAt w0 w g s)(v:Int):ScanAt w0 (w.setCell ⟨g,1,none⟩ (.int .i64 v)) g { s with flags:=v }:=⟨h.1.set_ 1 _,h.2.set1 1 _⟩
theorem ScanAt.set2 {w0 w:World}{g:Nat}{s:Scan}(h:ScanAt w0 w g s)(v:Int):ScanAt w0 (w.setCell ⟨g,2,none⟩ (.int .i64 v)) g { s with pict:=v }:=⟨h.1.set_ 2 _,h.2.set1 2 _⟩
theorem ScanAt.set3 {w0 w:World}{g:Nat}{s:Scan}(h:ScanAt w0 w g s)(v:Int):ScanAt w0 (w.setCell ⟨g,3,none⟩ (.int .i64 v)) g { s with conj:=v }:=⟨h.1.set_ 3 _,h.2.set1 3 _⟩
theorem ScanAt.eq {w0 w:World}{g:Nat}{s s':Scan}(h:ScanAt w0 w g s)(e:s=s'):ScanAt w0 w g s':=e▸h
theorem QjN (g:Nat)(s:Scan)(c p:Int)(w:World)(h:Blk w g 200 s.cells)(m:0<=s.flags/\s.flags<=4611686018427387904) :
  Calls Tryz.prog 148 #[.pointer (some ⟨g,0,none⟩),.int .i64 c,.int .i64 p] w fun e w'=>
   e=.returned (.tuple #[])/\ScanAt w w' g (QfP s c p):=by
 have k:ScanAt w w g s:=⟨h,Fr.refl _ _⟩
 obtain⟨c0,c1,c2,b,i,j,d,f⟩:=k.facts
 obtain⟨l,n⟩:=m
 go_enter Tryz.func148,Tryz.ntmps148
 go_upto_if 11 with fail
 go_cut [] (fun wx=>ScanAt w wx g (QgM s c))
 case first=>
  go_wp2
  all_goals
   go_light
   go_meet
   simp only[beq_iff_eq,beq_eq_false_iff_ne,ne_eq] at *
   exact((k.set0 _).set1 _).eq (by simp only[QfP,QiH,QgM,Scan.mk.injEq];refine⟨?_,?_,?_,?_⟩<;>(repeat' split)<;>first|trivial|omega)
 case rest=>
  have a:=hcut
  clear c0 c1 c2 b i j d f hcut k
  obtain⟨c0,c1,c2,b,i,j,d,f⟩:=a.facts
  simp only[QgM] at c0 c1 c2 b
  go_upto_block 0 with fail
  go_cut [] (fun wx=>ScanAt w wx g (QiH s c))
  case first=>
   go_wp2
   all_goals
    go_light
    go_meet
    simp only[beq_iff_eq,beq_eq_false_iff_ne,ne_eq] at *
    first
     |exact(a.set2 _).eq (by simp only[QfP,QiH,QgM,Scan.mk.injEq];refine⟨?_,?_,?_,?_⟩<;>(repeat' split)<;>first|trivial|omega)
     |exact a.eq (by simp only[QfP,QiH,QgM,Scan.mk.injEq];refine⟨?_,?_,?_,?_⟩<;>(repeat' split)<;>first|trivial|omega)
  case rest=>
   clear c0 c1 c2 b i j d f a
   have a:=hcut
   clear hcut
   obtain⟨c0,c1,c2,b,i,j,d,f⟩:=a.facts
   simp only[QgM,QiH] at c0 c1 c2 b
   go_wp2
   all_goals
    go_light
    go_end0
    refine⟨rfl,?_⟩
    simp only[beq_iff_eq,beq_eq_false_iff_ne,ne_eq] at *
    first
     |exact(a.set3 _).eq (by simp only[QfP,QiH,QgM,Scan.mk.injEq];refine⟨?_,?_,?_,?_⟩<;>(repeat' split)<;>first|trivial|omega)
     |exact a.eq (by simp only[QfP,QiH,QgM,Scan.mk.injEq];refine⟨?_,?_,?_,?_⟩<;>(repeat' split)<;>first|trivial|omega)
def QdL (c:Int):Bool:=decide (c=1\/c=2\/c=3)
theorem Qhs (c:Int)(w:World):Calls Tryz.prog 131 #[.int .i64 c] w fun e w'=>e=.returned (.bool (QdL c))/\w=w':=by
 go_enter Tryz.func131,Tryz.ntmps131
 go_wp2
 all_goals
  go_light
  go_ret
  refine⟨Qb3 ?_,rfl⟩
  show _=QdL c
  (try simp only[beq_iff_eq,beq_eq_false_iff_ne,ne_eq] at *)
  unfold QdL
  rw[Bool.eq_iff_iff]
  simp
  omega
def QgF (l r:Int):Bool:=
 decide (((r=9\/r=12\/r=13)/\l=9)\/(r=10/\(l=9\/l=12\/l=10))\/(r=11/\(l=12\/l=10\/l=13\/l=11)))
theorem Qld (l r:Int)(w:World):Calls Tryz.prog 150 #[.int .i64 l,.int .i64 r] w fun e w'=>e=.returned (.bool (QgF l r))/\w=w':=by
 go_enter Tryz.func150,Tryz.ntmps150
 go_wp2
 all_goals
  go_light
  go_ret
  refine⟨Qb3 ?_,rfl⟩
  show _=QgF l r
  (try simp only[beq_iff_eq,beq_eq_false_iff_ne,ne_eq] at *)
  unfold QgF
  rw[Bool.eq_iff_iff]
  simp
  omega
end Go.Proofs.YtgiihhikdoikgaaGreat
