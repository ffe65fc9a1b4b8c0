/-
  The walks of package codec: an atom's size, its bytes put behind others.
-/
import Derived.Test.YtgiihhikdoikgaaGreatLSized
import Derived.Test.YtgiihhikdoikgaaGreatLSums
import Derived.Test.YtgiihhikdoikgaaGreatLHeavy
import Derived.OwnWalk
import Derived.StillTailTactics
import Derived.Maps.AppendAt
set_option linter.unusedSimpArgs false
set_option linter.unusedVariables false
set_option maxRecDepth 100000
set_option maxHeartbeats 32000000
namespace Go.Proofs.YtgiihhikdoikgaaGreat
open Go.RowKit
theorem u8_and63 (x:Int)(a:0<=x)(h1:x<256):bits .and .u8 x 63=x % 64:=by
 have h : ∀i:Fin 256,bits .and .u8 (i.val:Int) 63=(i.val:Int) % 64:=by decide +kernel
 have:=h ⟨x.toNat,by omega⟩
 simpa[Int.toNat_of_nonneg a] using this
theorem Qdd (x:Int)(a:0<=x)(h1:x<64):bits .or .u8 128 x=128+x:=by
 have h : ∀i:Fin 64,bits .or .u8 128 (i.val:Int)=128+(i.val:Int):=by decide +kernel
 have:=h ⟨x.toNat,by omega⟩
 simpa[Int.toNat_of_nonneg a] using this
theorem QpL (x:Int)(a:0<=x)(h1:x<32):bits .or .u8 192 x=192+x:=by
 have h : ∀i:Fin 32,bits .or .u8 192 (i.val:Int)=192+(i.val:Int):=by decide +kernel
 have:=h ⟨x.toNat,by omega⟩
 simpa[Int.toNat_of_nonneg a] using this
theorem QpQ (x:Int)(a:0<=x)(h1:x<16):bits .or .u8 224 x=224+x:=by
 have h : ∀i:Fin 16,bits .or .u8 224 (i.val:Int)=224+(i.val:Int):=by decide +kernel
 have:=h ⟨x.toNat,by omega⟩
 simpa[Int.toNat_of_nonneg a] using this
theorem Qol (x:Int)(a:0<=x)(h1:x<8):bits .or .u8 240 x=240+x:=by
 have h : ∀i:Fin 8,bits .or .u8 240 (i.val:Int)=240+(i.val:Int):=by decide +kernel
 have:=h ⟨x.toNat,by omega⟩
 simpa[Int.toNat_of_nonneg a] using this
theorem Blk.newAt {w:World}{t:TypeId}{a:Array Value}{H:Nat}(h:w.heap.size=H):Blk (w.alloc (.cells a t)) H t a:=h▸Blk.new w t a
theorem Qch:(Tryz.prog.info? 5).map (fun i=>(i.zero,i.size,i.bytes))=some (some (.int .u8 0),1,1):=by kernel_rfl
theorem QaY (x:Int):IntKind.u8.wrap x=x % 256:=by simp[IntKind.wrap,IntKind.bits,IntKind.signed]
def OwnB (v:Value):Nat->Prop:=fun b=>v.ownBlock=some b
def Qed (v:Value)(base:Nat)(xs bs:List Int)(w:World)(e:Ending)(w':World):Prop:=
 ∃v',e=.returned v'/\w'.ownsRow base 5 1 v' (xs.length+bs.length) ((xs++bs).map (Value.int .u8))/\Fr (OwnB v) w w'/\∀b,v'.ownBlock=some b->v.ownBlock=some b\/w.heap.size<=b
theorem QeT {v d:Value}{base H:Nat}{xs bs:List Int}{w w0 w1:World}(e:ZB w w0)(h:w1.ownsRow base 5 1 d (xs.length+bs.length) (xs.map (Value.int .u8)++bs.map (Value.int .u8)))(f:w0.grownBy w1 v.ownBlock)(a:d.ownBlock=v.ownBlock\/d.ownBlock=some H)(i:w0.heap.size=H:=by simp):Qed v base xs bs w (.returned d) w1:=by
 refine⟨d,rfl,by rw[List.map_append];exact h,(Fr.of_below e).grown f (fun k g _=>g),fun b c=>?_⟩
 rcases a with a|a
 ·exact .inl (by rw[<-a];exact c)
 ·rw[a] at c
  injection c with c
  have:=e.size
  exact .inr (by omega)
theorem QpR (base:Nat)(v:Value)(xs:List Int)(a:Int)(w:World)(m:w.ownsRow base 5 1 v xs.length (xs.map (Value.int .u8)))(o:base<=w.heap.size)(r:xs.length<=1073741824)(k:0<szL a) :
  Calls Tryz.prog 245 #[.agg #[],v,.int .i64 a] w fun e w'=>Qed v base xs [a] w e w':=by
 have q:0<=a/\a<=255:=by unfold szL at k;split at k<;>omega
 have s:IntKind.u8.wrap a=a:=by rw[QaY];omega
 obtain⟨ib,i,d,f,c⟩:=info_parts Qch
 clear k
 go_enter Tryz.func245,Tryz.ntmps245
 go_wp2_with (at_builtin;refine wpList_append_own_at _ rfl (.tmp 7) (.tmp 10) 47 rfl base 5 ib (.int .u8 0) 1 1 Tryz.underlying47 i d f c rfl (by decide) v xs.length _ rfl ((m.alloc _).alloc _) ⟨w.heap.size+1,0,none⟩ 1 1 [.int .u8 a] rfl rfl ?c1 (by simp[Value.oneCell']) (by unfold maxLen;omega) (by omega) (by simp;omega) ?_)
 case c1=>
  intro j u l
  have:=cell_one_new (w.alloc (.cells #[] 212)) (.int .u8 a) 5 j u l
  simpa using this
 intro p w1 b h _ g
 have n:=Zh (QeT (Qa (Qa (Below.refl _ _))) b h g (bs:=[a]))
 clear b h g i d f c
 go_wp2_with fail
 go_ret
 exact n.out
theorem Qjh (a:Int)(w:World):Calls Tryz.prog 230 #[.agg #[],.int .i64 a] w fun e w'=>e=.returned (.int .i64 (sz8 a))/\ZB w w':=by
 go_enter Tryz.func230,Tryz.ntmps230
 go_wp2
 all_goals
  go_light
  go_ret
  refine⟨QaB ?_,Qa (Below.refl _ _)⟩
  unfold sz8
  (try simp only[beq_iff_eq,beq_eq_false_iff_ne,ne_eq] at *)
  (repeat' split)<;>first|rfl|omega
theorem Qe4 (o a:Int)(w:World):Calls Tryz.prog 237 #[.agg #[.int .i64 o],.int .i64 a] w fun e w'=>e=.returned (.int .i64 (Qfb a))/\ZB w w':=by
 go_enter Tryz.func237,Tryz.ntmps237
 go_wp2
 all_goals
  go_light
  go_ret
  refine⟨QaB ?_,Qa (Below.refl _ _)⟩
  unfold Qfb
  (try simp only[beq_iff_eq,beq_eq_false_iff_ne,ne_eq] at *)
  (repeat' split)<;>first|rfl|omega
theorem Ql6 (a:Int)(w:World):Calls Tryz.prog 246 #[.agg #[],.int .i64 a] w fun e w'=>e=.returned (.int .i64 (szL a))/\ZB w w':=by
 go_enter Tryz.func246,Tryz.ntmps246
 go_wp2
 all_goals
  go_light
  go_ret
  refine⟨QaB ?_,Qa (Below.refl _ _)⟩
  unfold szL
  (try simp only[beq_iff_eq,beq_eq_false_iff_ne,ne_eq] at *)
  (repeat' split)<;>first|rfl|omega
structure HalfS (w:World) (base:Nat) (o:Int) (v:Value) (xs:List Int) (x y:Int) (w':World):Prop where
 box:Blk w' w.heap.size 211 #[.int .i64 o]
 arr:Blk w' (w.heap.size+1) 297 #[.int .u8 x,.int .u8 y]
 own:w'.ownsRow base 5 1 v xs.length (xs.map (Value.int .u8))
 bel:ZB w w'
theorem Qt {w:World}{B e size n g i:Nat}{T:TypeId}{f:Array Value}{v u:Value}{xs:List Value}(h:w.ownsRow B e size v n xs)(a:Blk w g T f)(c:e≠T):(w.setCell ⟨g,i,none⟩ u).ownsRow B e size v n xs:=by
 refine⟨h.1,?_⟩
 rcases h.2 with b|⟨r,cap,cur,rfl,h1,h2,d⟩
 ·exact .inl b
 ·refine .inr ⟨r,cap,cur,rfl,h1,?_,d⟩
  rw[Below.heap_setCell w _ u r (fun e=>Blk.ne_ h2 a c (by simpa using e))]
  exact h2
theorem HalfS.drew {w w':World}{base:Nat}{o x y:Int}{v:Value}{xs:List Int}(h:HalfS w base o v xs x y w'):HalfS w base o v xs x y w'.drew:=⟨h.box,h.arr,h.own,h.bel.drew⟩
theorem HalfS.set0 {w w':World}{base:Nat}{o x y:Int}{v:Value}{xs:List Int}(h:HalfS w base o v xs x y w')(a:base<=w.heap.size)(u:Int):HalfS w base o v xs u y (w'.setCell ⟨w.heap.size+1,0,none⟩ (.int .u8 u)):=
 ⟨h.box.far (by simp) _,h.arr.set_ 0 _,Qt h.own h.arr (by decide),h.bel.setCell (by simp) _⟩
theorem HalfS.set1 {w w':World}{base:Nat}{o x y:Int}{v:Value}{xs:List Int}(h:HalfS w base o v xs x y w')(a:base<=w.heap.size)(u:Int):HalfS w base o v xs x u (w'.setCell ⟨w.heap.size+1,1,none⟩ (.int .u8 u)):=
 ⟨h.box.far (by simp) _,h.arr.set_ 1 _,Qt h.own h.arr (by decide),h.bel.setCell (by simp) _⟩
theorem HalfS.facts {w w':World}{base:Nat}{o x y:Int}{v:Value}{xs:List Int}(h:HalfS w base o v xs x y w') :
  w'.cell? ⟨w.heap.size,0,none⟩=some (.int .i64 o)/\w'.cell? ⟨w.heap.size+1,0,none⟩=some (.int .u8 x)/\w'.cell? ⟨w.heap.size+1,1,none⟩=some (.int .u8 y)/\w'.frozen? ⟨w.heap.size+1,0,none⟩=false/\w'.frozen? ⟨w.heap.size+1,1,none⟩=false:=
 ⟨h.box.cell 0,h.arr.cell 0,h.arr.cell 1,h.arr.frozen 0,h.arr.frozen 1⟩
theorem Qko (base:Nat)(o:Int)(v:Value)(xs:List Int)(u:Int)(w:World)(K:o=0\/o=1)(s:w.ownsRow base 5 1 v xs.length (xs.map (Value.int .u8)))(A:base<=w.heap.size)(Q:xs.length<=1073741824)(P:0<=u/\u<65536) :
  Calls Tryz.prog 241 #[.agg #[.int .i64 o],v,.int .i64 u] w fun e w'=>Qed v base xs (QaH o u) w e w':=by
 obtain⟨ib,p,m,n,l⟩:=info_parts Qch
 have O:IntKind.u8.wrap u=u % 256:=QaY u
 have N:IntKind.u8.wrap (u / 256)=u / 256 % 256:=QaY _
 obtain⟨W,q⟩:=ZN ((w.alloc (.cells #[.int .i64 o] 211)).alloc (.cells #[.int .u8 0,.int .u8 0] 297))
 have H:HalfS w base o v xs 0 0 W:=by
  rw[<-q]
  exact⟨(Blk.new w _ _).alloc _,Blk.newAt (by simp),(s.alloc _).alloc _,Qa (Qa (Below.refl _ _))⟩
 have x:=Zh q
 have HS:=Zh H.drew
 have I:IntKind.i64.wrap 1=1:=by decide
 have M:IntKind.i64.wrap 0=0:=by decide
 clear q s H
 rcases K with rfl|rfl
 ·go_enter Tryz.func241,Tryz.ntmps241
  go_wp2_with fail
  rw[x.out]
  refine Qg (fun w'=>w'.cell? ⟨w.heap.size,0,none⟩=some (.int .i64 0)) (HalfS w base 0 v xs 0 0) (fun k=>k==11 || k==13) (fun _=>false) (fun _=>false) (by kernel_rfl) (by kernel_rfl) (HS.out) (fun _ h=>h.facts.1) ?_
  repeat ((first
   |(refine Qc (v:=?_) (by rfl) (by rfl) (fun w6 hSw=>?_) ?_;rotate_left;(·(have r:=hSw;go_simp;try with_reducible rfl)))
   |(refine Qd (v:=?_) (by rfl) (fun w6=>?_) ?_;rotate_left;(·(go_simp;try with_reducible rfl)))
   |refine Qe (by rfl) ?_);(try simp only[Act.put,pA,pB,pC]))
  refine Ql (fun _ d=>HalfS w base 0 v xs (u % 256) (0) d) (by rfl) (by rfl) (fun w6 hSw=>?_) (.inr (fun v6 w6 hT6=>?_)) (fun v6 hv6=>?_)
  ·(obtain⟨r,C,F,B,E⟩:=hSw.facts;go_simp;exact hSw.set0 A _)
  ·(exact hT6.facts.1)
  skip
  (try simp only[Act.put,pA,pB,pC])
  repeat ((first
   |(refine Qc (v:=?_) (by rfl) (by rfl) (fun w6 hSw=>?_) ?_;rotate_left;(·(have r:=hSw;go_simp;try with_reducible rfl)))
   |(refine Qd (v:=?_) (by rfl) (fun w6=>?_) ?_;rotate_left;(·(go_simp;try with_reducible rfl)))
   |refine Qe (by rfl) ?_);(try simp only[Act.put,pA,pB,pC]))
  refine Ql (fun _ d=>HalfS w base 0 v xs (u % 256) (u / 256 % 256) d) (by rfl) (by rfl) (fun w6 hSw=>?_) (.inr (fun v6 w6 hT6=>?_)) (fun v6 hv6=>?_)
  ·(obtain⟨r,C,F,B,E⟩:=hSw.facts;go_simp;exact hSw.set1 A _)
  ·(exact hT6.facts.1)
  skip
  (try simp only[Act.put,pA,pB,pC])
  refine Qu ?_
  intro L a
  have s:=a.own
  obtain⟨_,z,y,_,_⟩:=a.facts
  have D:=a.bel.size
  have f:=a.bel
  clear a hv6
  go_wp2_with (at_builtin;refine wpList_append_own_at _ rfl (.tmp 20) (.tmp 21) 47 rfl base 5 ib (.int .u8 0) 1 1 Tryz.underlying47 p m n l rfl (by decide) v xs.length _ rfl s ⟨w.heap.size+1,0,none⟩ 2 2 [.int .u8 (u % 256),.int .u8 (u / 256 % 256)] rfl rfl ?c1 (by simp[Value.oneCell']) (by unfold maxLen;omega) (by omega) (by omega) ?_)
  case c1=>
   intro j t c
   match j,c with
   | 0,c=>simp at c;subst c;simpa[Addr.add] using z
   | 1,c=>simp at c;subst c;simpa[Addr.add] using y
  intro J w1 b i _ g
  have G:=Zh (QeT f b i g (bs:=[u % 256,u / 256 % 256]))
  clear b i g p m n l z y
  go_wp2_with fail
  go_ret
  exact G.out
 ·go_enter Tryz.func241,Tryz.ntmps241
  go_wp2_with fail
  rw[x.out]
  refine Qg (fun w'=>w'.cell? ⟨w.heap.size,0,none⟩=some (.int .i64 1)) (HalfS w base 1 v xs 0 0) (fun k=>k==11 || k==13) (fun _=>false) (fun _=>false) (by kernel_rfl) (by kernel_rfl) (HS.out) (fun _ h=>h.facts.1) ?_
  repeat ((first
   |(refine Qc (v:=?_) (by rfl) (by rfl) (fun w6 hSw=>?_) ?_;rotate_left;(·(have r:=hSw;go_simp;try with_reducible rfl)))
   |(refine Qd (v:=?_) (by rfl) (fun w6=>?_) ?_;rotate_left;(·(go_simp;try with_reducible rfl)))
   |refine Qe (by rfl) ?_);(try simp only[Act.put,pA,pB,pC]))
  refine Ql (fun _ d=>HalfS w base 1 v xs (0) (u % 256) d) (by rfl) (by rfl) (fun w6 hSw=>?_) (.inr (fun v6 w6 hT6=>?_)) (fun v6 hv6=>?_)
  ·(obtain⟨r,C,F,B,E⟩:=hSw.facts;go_simp;exact hSw.set1 A _)
  ·(exact hT6.facts.1)
  skip
  (try simp only[Act.put,pA,pB,pC])
  repeat ((first
   |(refine Qc (v:=?_) (by rfl) (by rfl) (fun w6 hSw=>?_) ?_;rotate_left;(·(have r:=hSw;go_simp;try with_reducible rfl)))
   |(refine Qd (v:=?_) (by rfl) (fun w6=>?_) ?_;rotate_left;(·(go_simp;try with_reducible rfl)))
   |refine Qe (by rfl) ?_);(try simp only[Act.put,pA,pB,pC]))
  refine Ql (fun _ d=>HalfS w base 1 v xs (u / 256 % 256) (u % 256) d) (by rfl) (by rfl) (fun w6 hSw=>?_) (.inr (fun v6 w6 hT6=>?_)) (fun v6 hv6=>?_)
  ·(obtain⟨r,C,F,B,E⟩:=hSw.facts;go_simp;exact hSw.set0 A _)
  ·(exact hT6.facts.1)
  skip
  (try simp only[Act.put,pA,pB,pC])
  refine Qu ?_
  intro L a
  have s:=a.own
  obtain⟨_,z,y,_,_⟩:=a.facts
  have D:=a.bel.size
  have f:=a.bel
  clear a hv6
  go_wp2_with (at_builtin;refine wpList_append_own_at _ rfl (.tmp 20) (.tmp 21) 47 rfl base 5 ib (.int .u8 0) 1 1 Tryz.underlying47 p m n l rfl (by decide) v xs.length _ rfl s ⟨w.heap.size+1,0,none⟩ 2 2 [.int .u8 (u / 256 % 256),.int .u8 (u % 256)] rfl rfl ?c1 (by simp[Value.oneCell']) (by unfold maxLen;omega) (by omega) (by omega) ?_)
  case c1=>
   intro j t c
   match j,c with
   | 0,c=>simp at c;subst c;simpa[Addr.add] using z
   | 1,c=>simp at c;subst c;simpa[Addr.add] using y
  intro J w1 b i _ g
  have G:=Zh (QeT f b i g (bs:=[u / 256 % 256,u % 256]))
  clear b i g p m n l z y
  go_wp2_with fail
  go_ret
  exact G.out
theorem Qht (k x:Int)(d:0<=k/\k<64)(c:0<=x)(h1:x<1024):bits .or .i64 (k*1024) x=k*1024+x:=
 bits_join .i64 31 (by decide) (fun n a b=>by rw[IntKind.wrap_i64];omega) 10 (k*1024) x (by omega) (by omega) (by omega) c (by omega) (by omega)
structure Put2S (w W:World) (base:Nat) (v:Value) (o:Int) (ys:List Int) (v1:Value) (w1:World):Prop where
 own:w1.ownsRow base 5 1 v1 ys.length (ys.map (Value.int .u8))
 box:Blk w1 w.heap.size 211 #[.int .i64 o]
 fr:Fr (OwnB v) W w1
 blk : ∀b,v1.ownBlock=some b->v.ownBlock=some b\/W.heap.size<=b
theorem Put2S.start {w W:World}{base:Nat}{v:Value}{o:Int}{xs:List Int}(a:Blk W w.heap.size 211 #[.int .i64 o])(b:W.ownsRow base 5 1 v xs.length (xs.map (Value.int .u8))):Put2S w W base v o xs v W.drew:=
 ⟨b,a,(Fr.refl _ _).drew,fun _ h=>.inl h⟩
theorem Put2S.step {w W w6:World}{base:Nat}{v v6:Value}{o u:Int}{ys:List Int}(k:o=0\/o=1)(g:base<=W.heap.size)(l:ys.length<=1073741824)(p:0<=u/\u<65536)(a:Put2S w W base v o ys v6 w6) :
  Calls Tryz.prog 241 #[.agg #[.int .i64 o],v6,.int .i64 u] w6 fun e w'=>∃d,e=.returned d/\Put2S w W base v o (ys++QaH o u) d w':=by
 refine(Qko base o v6 ys u w6 k a.own (Nat.le_trans g a.fr.size) l p).mono ?_
 rintro e s ⟨r,rfl,n,f,j⟩
 refine⟨_,rfl,by rw[List.length_append];exact n,a.box.fr f (Qk a.own a.box (by decide)),a.fr.call f (fun i q m=>?_),fun b c=>?_⟩
 ·rcases a.blk i m with h|h
  ·exact h
  ·omega
 ·rcases j b c with h|h
  ·exact a.blk b h
  ·exact .inr (Nat.le_trans a.fr.size h)
theorem Qh9 (base:Nat)(o:Int)(v:Value)(xs:List Int)(a:Int)(w:World)(F:o=0\/o=1)(N:w.ownsRow base 5 1 v xs.length (xs.map (Value.int .u8)))(m:base<=w.heap.size)(hx:xs.length<=1073741820)(J:0<Qfb a) :
  Calls Tryz.prog 236 #[.agg #[.int .i64 o],v,.int .i64 a] w fun e w'=>Qed v base xs (Qdr o a) w e w':=by
 have hr : -256<=a/\a<=1114111:=by unfold Qfb at J;split at J<;>omega
 clear J
 have c:=Blk.new w 211 #[.int .i64 o]
 have B:ZB w (w.alloc (.cells #[.int .i64 o] 211)):=Qa (Below.refl _ _)
 have g:=N.alloc (.cells #[.int .i64 o] 211)
 clear N
 by_cases h1:a<0
 ·have hp:Qdr o a=[-1-a]:=by unfold Qdr;rw[if_pos h1]
  have hk:IntKind.u8.wrap (-1-a) = -1-a:=by rw[QaY];omega
  have H:IntKind.i64.wrap (-1-a) = -1-a:=IntWalk.i64_in _ (by omega)
  rw[hp]
  obtain⟨ib,A,p,y,n⟩:=info_parts Qch
  obtain⟨b,z⟩:=ZN (-1-a)
  rw[z] at hk H ⊢
  have T:=Zh z
  clear hp c
  go_enter Tryz.func236,Tryz.ntmps236
  go_wp2_with (at_builtin;refine wpList_append_own_at _ rfl (.tmp 10) (.tmp 14) 47 rfl base 5 ib (.int .u8 0) 1 1 Tryz.underlying47 A p y n rfl (by decide) v xs.length _ rfl (g.alloc _) ⟨w.heap.size+1,0,none⟩ 1 1 [.int .u8 b] rfl rfl ?c1 (by simp[Value.oneCell']) (by unfold maxLen;omega) (by omega) (by simp;omega) ?_)
  case c1=>
   intro j u V
   have:=cell_one_new (w.alloc (.cells #[.int .i64 o] 211)) (.int .u8 b) 5 j u V
   simpa using this
  intro L w1 d t _ r
  have HP:=Zh (QeT (Qa B) d t r (bs:=[b]))
  clear d t r A p y n
  go_wp2_with fail
  go_ret
  exact HP.out
 ·by_cases h2:a<65536
  ·have hp:Qdr o a=QaH o a:=by unfold Qdr;rw[if_neg h1,if_pos h2]
   rw[hp]
   have P:=Qko base o v xs a _ F g (by simp;omega) (by omega) ⟨by omega,h2⟩
   have c0:=c.cell 0
   simp at c0
   have Z:=Zh P
   clear P hp c
   go_enter Tryz.func236,Tryz.ntmps236
   go_wp2_with fail
   refine(Z.out).mono ?_
   rintro e w1 ⟨L,rfl,K,Y,O⟩
   have U:=Zh K
   have S:=Zh O
   clear K O
   go_wp2_with fail
   go_ret
   exact⟨L,rfl,U.out,(Fr.of_below B).call Y (fun _ _ h=>h),fun b m=>(S.out b m).imp id (fun h=>by have:=B.size;omega)⟩
  ·have hp:Qdr o a=QaH o (55296+(a-65536) / 1024)++QaH o (56320+a % 1024):=by unfold Qdr;rw[if_neg h1,if_neg h2]
   rw[hp]
   have e1:IntKind.i64.wrap (a-65536)=a-65536:=IntWalk.i64_in _ (by omega)
   have e2:bits .or .i64 55296 ((a-65536) / 1024)=55296+(a-65536) / 1024:=Qht 54 ((a-65536) / 1024) (by omega) (by omega) (by omega)
   have e3:bits .and .i64 a 1023=a % 1024:=QfK 10 (by omega) a (by omega) (by omega)
   have Q:bits .or .i64 56320 (a % 1024)=56320+a % 1024:=Qht 55 (a % 1024) (by omega) (by omega) (by omega)
   obtain⟨u1,C⟩:∃u,55296+(a-65536) / 1024=u:=⟨_,rfl⟩
   obtain⟨u2,q⟩:∃u,56320+a % 1024=u:=⟨_,rfl⟩
   rw[C] at e2 ⊢
   rw[q] at Q ⊢
   have X:0<=u1/\u1<65536:=by omega
   have R:0<=u2/\u2<65536:=by omega
   have q1:(a<0)=False:=by simp;omega
   have q2:(a<65536)=False:=by simp;omega
   have D:=Zh c
   have E:=Zh g
   have s:=Zh B
   obtain⟨W,l⟩:=ZN (w.alloc (.cells #[.int .i64 o] 211))
   rw[l] at D E s
   have G:=Zh l
   clear l c g B hp C q h1 h2
   go_enter Tryz.func236,Tryz.ntmps236
   go_wp2_with fail
   rw[G.out]
   refine Qg (fun w'=>w'.cell? ⟨w.heap.size,0,none⟩=some (.int .i64 o)) (Put2S w W base v o xs v) (fun k=>k==7 || k==11) (fun _=>false) (fun _=>false) (by kernel_rfl) (by kernel_rfl) (Put2S.start D.out E.out) (fun _ h=>h.box.cell 0) ?_
   repeat ((first
    |(refine Qc (v:=?_) (by rfl) (by rfl) (fun w6 hSw=>?_) ?_;rotate_left;(·(have M:=hSw;go_simp;try with_reducible rfl)))
    |(refine Qd (v:=?_) (by rfl) (fun w6=>?_) ?_;rotate_left;(·(go_simp;try with_reducible rfl)))
    |refine Qe (by rfl) ?_);(try simp only[Act.put,pA,pB,pC]))
   refine Qn (f:=?_) (args:=?_) (Put2S w W base v o (xs++QaH o u1)) (by rfl) (by rfl) (fun w6 hSw=>?_) (fun w6 hSw=>?_) (.inr (fun v6 w6 hT6=>?_)) (fun v6 hv6=>?_)
   rotate_left 2
   ·(skip;go_simp;first|done|(constructor<;>with_reducible rfl)|with_reducible rfl)
   ·(exact hSw.step F (Nat.le_trans m s.out.size) (by omega) X)
   ·(exact hT6.box.cell 0)
   obtain⟨v7,I⟩:∃x,x=v6:=⟨_,rfl⟩;subst I
   (try simp only[Act.put,pA,pB,pC])
   repeat ((first
    |(refine Qc (v:=?_) (by rfl) (by rfl) (fun w6 hSw=>?_) ?_;rotate_left;(·(have M:=hSw;go_simp;try with_reducible rfl)))
    |(refine Qd (v:=?_) (by rfl) (fun w6=>?_) ?_;rotate_left;(·(go_simp;try with_reducible rfl)))
    |refine Qe (by rfl) ?_);(try simp only[Act.put,pA,pB,pC]))
   refine Qn (f:=?_) (args:=?_) (Put2S w W base v o (xs++QaH o u1++QaH o u2)) (by rfl) (by rfl) (fun w6 hSw=>?_) (fun w6 hSw=>?_) (.inr (fun v6 w6 hT6=>?_)) (fun v6 hv6=>?_)
   rotate_left 2
   ·(skip;go_simp;first|done|(constructor<;>with_reducible rfl)|with_reducible rfl)
   ·(exact hSw.step F (Nat.le_trans m s.out.size) (by rw[List.length_append,(Qbe o u1).1];omega) R)
   ·(exact hT6.box.cell 0)
   skip
   (try simp only[Act.put,pA,pB,pC])
   repeat ((first
    |(refine Qc (v:=?_) (by rfl) (by rfl) (fun w6 hSw=>?_) ?_;rotate_left;(·(have M:=hSw;go_simp;try with_reducible rfl)))
    |(refine Qd (v:=?_) (by rfl) (fun w6=>?_) ?_;rotate_left;(·(go_simp;try with_reducible rfl)))
    |refine Qe (by rfl) ?_);(try simp only[Act.put,pA,pB,pC]))
   refine Qu ?_
   intro w3 i
   go_wp2_with fail
   go_ret
   refine⟨v6,rfl,?_,?_,?_⟩
   ·have:=i.own
    rw[List.append_assoc,List.length_append] at this
    exact this
   ·exact(Fr.of_below s.out).call i.fr (fun _ _ h=>h)
   ·exact fun b m=>(i.blk b m).imp id (fun h=>by have:=s.out.size;omega)
theorem QN {w w':World}{B e size n:Nat}{v:Value}{xs:List Value}(h:w.ownsRow B e size v n xs)(b:ZB w w'):w'.ownsRow B e size v n xs:=by
 refine⟨h.1,?_⟩
 rcases h.2 with hn|⟨g,cap,cur,rfl,c,a,rest⟩
 ·exact .inl hn
 ·exact .inr ⟨g,cap,cur,rfl,c,(b.block g (Array.getElem?_eq_some_iff.1 a).1).trans a,rest⟩
structure AppS (w:World) (base:Nat) (v:Value) (ys:List Int) (n:Nat) (v1:Value) (w1:World):Prop where
 own:w1.ownsRow base 5 1 v1 n (ys.map (Value.int .u8))
 fr:Fr (OwnB v) w w1
 blk : ∀b,v1.ownBlock=some b->v.ownBlock=some b\/w.heap.size<=b
theorem AppS.start {w w1:World}{base:Nat}{v:Value}{ys:List Int}{n:Nat}(h:w1.ownsRow base 5 1 v n (ys.map (Value.int .u8)))(a:ZB w w1):AppS w base v ys n v w1:=⟨h,Fr.of_below a,fun _ h=>.inl h⟩
theorem AppS.below {w w1 c:World}{base:Nat}{v b:Value}{ys:List Int}{n:Nat}(h:AppS w base v ys n b w1)(a:ZB w1 c):AppS w base v ys n b c:=⟨QN h.own a,h.fr.bel a,h.blk⟩
theorem AppS.drew {w w1:World}{base:Nat}{v a:Value}{ys:List Int}{n:Nat}(h:AppS w base v ys n a w1):AppS w base v ys n a w1.drew:=⟨h.own,h.fr.drew,h.blk⟩
theorem AppS.step {w w1 f:World}{base n H:Nat}{v e d:Value}{ys:List Int}{b:Int}{o:Obj}(h:AppS w base v ys n e w1){zs:List Value}(j:f.ownsRow base 5 1 d (n+1) zs)(g:(w1.alloc o).grownBy f e.ownBlock)(a:d.ownBlock=e.ownBlock\/d.ownBlock=some H)(p:H=w1.heap.size+1)(l:zs=(ys++[b]).map (Value.int .u8)):AppS w base v (ys++[b]) (n+1) d f:=by
 refine⟨l▸j,(h.fr.alloc o).grown g (fun k i m=>(h.blk k i).resolve_right (by omega)),fun b c=>?_⟩
 rcases a with a|a
 ·exact h.blk b (by rw[<-a];exact c)
 ·rw[a] at c
  injection c with c
  have:=h.fr.size
  exact .inr (by omega)
theorem AppS.out {w w1:World}{base n:Nat}{v a:Value}{xs bs:List Int}(h:AppS w base v (xs++bs) n a w1)(hn:n=xs.length+bs.length):Qed v base xs bs w (.returned a) w1:=⟨a,rfl,hn▸h.own,h.fr,h.blk⟩
def LeadS (w:World)(base:Nat)(v:Value)(ys:List Int)(n lb:Nat)(a:Value)(w1:World):Prop:=AppS w base v ys n a w1/\Blk w1 lb 294 #[.int .u8 0,.int .u8 0,.int .u8 192,.int .u8 224,.int .u8 240]
theorem LeadS.drew {w w1:World}{base n lb:Nat}{v a:Value}{ys:List Int}(h:LeadS w base v ys n lb a w1):LeadS w base v ys n lb a w1.drew:=⟨h.1.drew,h.2⟩
theorem LeadS.step {w w1 d:World}{base n H lb:Nat}{v c a:Value}{ys:List Int}{b:Int}{o:Obj}{zs:List Value}(h:LeadS w base v ys n lb c w1)(i:d.ownsRow base 5 1 a (n+1) zs)(g:(w1.alloc o).grownBy d c.ownBlock)(f:a.ownBlock=c.ownBlock\/a.ownBlock=some H)(k:H=w1.heap.size+1)(j:zs=(ys++[b]).map (Value.int .u8)):LeadS w base v (ys++[b]) (n+1) lb a d:=
 ⟨h.1.step i g f k j,(h.2.alloc o).grown g (fun e=>Qk h.1.own h.2 (by decide) e.symm)⟩
theorem Qo6 (base:Nat)(v:Value)(xs:List Int)(a:Int)(w:World)(Z:w.ownsRow base 5 1 v xs.length (xs.map (Value.int .u8)))(hb:base<=w.heap.size)(hx:xs.length<=1073741820)(B:0<sz8 a) :
  Calls Tryz.prog 229 #[.agg #[],v,.int .i64 a] w fun e w'=>Qed v base xs (Qhk a) w e w':=by
 have hW:ZB w (w.alloc (.cells #[] 209)):=Qa (Below.refl _ _)
 have Q:=Z.alloc (.cells #[] 209)
 have ksz:=Qjh a (w.alloc (.cells #[] 209))
 obtain⟨ib,r,m,q,l⟩:=info_parts Qch
 have S : -256<=a/\a<=1114111:=by unfold sz8 at B;split at B<;>omega
 have hS:=AppS.start Q hW
 have HS:=Zh hS
 clear Z Q hS
 by_cases h1:a<0
 ·skip
  have D:sz8 a=1:=by
   unfold sz8 at B ⊢
   split at B
   ·omega
   ·rename_i h
    rw[if_neg h,if_pos (by omega)]
  have hp:Qhk a=[-1-a]:=by unfold Qhk;rw[if_pos h1]
  rw[hp]
  rw[D] at ksz
  obtain⟨b,R⟩:=ZN (-1-a)
  have hk:IntKind.u8.wrap b=b:=by rw[QaY];omega
  have a1:IntKind.i64.wrap b=b:=IntWalk.i64_in _ (by omega)
  have W : -1-a=b:=R
  rw[R]
  have U:(a<0)=True:=by simp;omega
  have KS:=Zh ksz
  clear hp ksz D B S h1
  go_enter Tryz.func229,Tryz.ntmps229
  go_wp2_with fail
  refine(KS.out).mono ?_
  rintro e w1 ⟨rfl,g⟩
  have i:=HS.out.below g
  have s:=i.fr.size
  go_wp2_with (at_builtin;refine wpList_append_own_at _ rfl (.tmp 15) (.tmp 19) 47 rfl base 5 ib (.int .u8 0) 1 1 Tryz.underlying47 r m q l rfl (by decide) v xs.length _ rfl (i.own.alloc _) ⟨w1.heap.size,0,none⟩ 1 1 [.int .u8 (b)] rfl rfl (cell_one_new _ _ _) (by simp[Value.oneCell']) (by unfold maxLen;omega) (by omega) (by simp;omega) ?_)
  intro N O c f _ d
  have H:=Zh ((i.step (b:=b) c f d (by simp) (by simp)).out rfl)
  clear c f d r m q l i g
  go_wp2_with fail
  go_ret
  exact H.out
 ·by_cases h2:a<128
  ·skip
   have D:sz8 a=1:=by
    unfold sz8 at B ⊢
    split at B
    ·omega
    ·rename_i h
     rw[if_neg h,if_pos h2]
   have hp:Qhk a=[a]:=by unfold Qhk;rw[if_neg h1,if_pos h2]
   rw[hp]
   rw[D] at ksz
   have hk:IntKind.u8.wrap a=a:=by rw[QaY];omega
   have U:(a<0)=False:=by simp;omega
   have KS:=Zh ksz
   clear hp ksz D B S h1 h2
   go_enter Tryz.func229,Tryz.ntmps229
   go_wp2_with fail
   refine(KS.out).mono ?_
   rintro e w1 ⟨rfl,g⟩
   have i:=HS.out.below g
   have s:=i.fr.size
   go_wp2_with (at_builtin;refine wpList_append_own_at _ rfl (.tmp 23) (.tmp 26) 47 rfl base 5 ib (.int .u8 0) 1 1 Tryz.underlying47 r m q l rfl (by decide) v xs.length _ rfl (i.own.alloc _) ⟨w1.heap.size,0,none⟩ 1 1 [.int .u8 (a)] rfl rfl (cell_one_new _ _ _) (by simp[Value.oneCell']) (by unfold maxLen;omega) (by omega) (by simp;omega) ?_)
   intro N O c f _ d
   have H:=Zh ((i.step (b:=a) c f d (by simp) (by simp)).out rfl)
   clear c f d r m q l i g
   go_wp2_with fail
   go_ret
   exact H.out
  ·by_cases h3:a<2048
   ·skip
    have D:sz8 a=2:=by
     unfold sz8 at B ⊢
     split at B
     ·omega
     ·rename_i h
      rw[if_neg h,if_neg h2,if_pos h3]
    have hp:Qhk a=[192+a / 64,128+a % 64]:=by unfold Qhk;rw[if_neg h1,if_neg h2,if_pos h3]
    rw[hp]
    rw[D] at ksz
    have e1:IntKind.u8.wrap (a / 64)=a / 64:=by rw[QaY];omega
    have e2:bits .or .u8 192 (a / 64)=192+a / 64:=QpL _ (by omega) (by omega)
    have X:IntKind.u8.wrap a=a % 256:=QaY a
    have V:bits .and .u8 (a % 256) 63=a % 64:=by rw[u8_and63 _ (by omega) (by omega)];omega
    have e5:bits .or .u8 128 (a % 64)=128+a % 64:=Qdd _ (by omega) (by omega)
    have U:(a<0)=False:=by simp;omega
    have KS:=Zh ksz
    clear hp ksz D B S h1 h2
    go_enter Tryz.func229,Tryz.ntmps229
    go_wp2_with fail
    refine(KS.out).mono ?_
    rintro e w1 ⟨rfl,g⟩
    have i:=(HS.out.below g).below (Qa (Below.refl _ w1) (o:=.cells #[.int .u8 0,.int .u8 0,.int .u8 192,.int .u8 224,.int .u8 240] 294))
    have s:=i.fr.size
    clear g
    go_wp2_with fail
    have t:LeadS w base v xs xs.length w1.heap.size v (w1.alloc (.cells #[.int .u8 0,.int .u8 0,.int .u8 192,.int .u8 224,.int .u8 240] 294)):=⟨i,Blk.new w1 _ _⟩
    obtain⟨L,C⟩:=ZN (w1.alloc (.cells #[.int .u8 0,.int .u8 0,.int .u8 192,.int .u8 224,.int .u8 240] 294))
    rw[C] at s t ⊢
    clear C HS i
    have kwa:IntKind.i64.wrap 1=1:=by decide
    have kwb:IntKind.i64.wrap (6*1)=6:=by decide
    have kwc:IntKind.i64.wrap 6=6:=by decide
    refine Qg (fun w'=>w'.cell? ⟨w1.heap.size,2,none⟩=some (.int .u8 192)) (LeadS w base v xs xs.length w1.heap.size v) (fun k=>k==11 || k==12) (fun _=>false) (fun _=>false) (by kernel_rfl) (by kernel_rfl) (t.drew) (fun _ h=>h.2.cell 2) ?_
    repeat ((first
     |(refine Qc (v:=?_) (by rfl) (by rfl) (fun w6 hSw=>?_) ?_;rotate_left;(·(have J:=hSw;go_simp;try with_reducible rfl)))
     |(refine Qd (v:=?_) (by rfl) (fun w6=>?_) ?_;rotate_left;(·(go_simp;try with_reducible rfl)))
     |refine Qe (by rfl) ?_);(try simp only[Act.put,pA,pB,pC]))
    refine Ql (fun u w'=>∃w0,LeadS w base v xs xs.length w1.heap.size v w0/\u=.slice (some ⟨w0.heap.size,0,none⟩) 1 1/\w'=w0.alloc (.cells #[.int .u8 (192+a / 64)] 5)) (by rfl) (by rfl) (fun w6 hSw=>?_) (.inr (fun v6 w6 hT6=>?_)) (fun v6 hv6=>?_)
    ·(go_simp;exact⟨w6,hSw,rfl,rfl⟩)
    ·(obtain⟨w0,z,-,rfl⟩:=hT6;exact(z.2.alloc _).cell 2)
    skip
    (try simp only[Act.put,pA,pB,pC])
    repeat ((first
     |(refine Qc (v:=?_) (by rfl) (by rfl) (fun w6 hSw=>?_) ?_;rotate_left;(·(have J:=hSw;go_simp;try with_reducible rfl)))
     |(refine Qd (v:=?_) (by rfl) (fun w6=>?_) ?_;rotate_left;(·(go_simp;try with_reducible rfl)))
     |refine Qe (by rfl) ?_);(try simp only[Act.put,pA,pB,pC]))
    refine Ql (fun u w'=>LeadS w base v (xs++[192+a / 64]) (xs.length+1) w1.heap.size u w') (by rfl) (by rfl) (fun w6 hSw=>?_) (.inr (fun v6 w6 hT6=>?_)) (fun v6 hv6=>?_)
    ·(obtain⟨w0,z,rfl,rfl⟩:=hSw;exact Q5 47 rfl base 5 ib (.int .u8 0) 1 1 Tryz.underlying47 r m q l rfl (by decide) v xs.length _ rfl (z.1.own.alloc _) ⟨w0.heap.size,0,none⟩ 1 1 [.int .u8 (192+a / 64)] rfl rfl (cell_one_new _ _ _) (by simp[Value.oneCell']) (by unfold maxLen;omega) (by omega) (by have:=z.1.fr.size;simp;omega) (fun v' w' F E _ y=>z.step (b:=192+a / 64) F E y (by simp) (by simp)))
    ·(exact hT6.2.cell 2)
    skip
    (try simp only[Act.put,pA,pB,pC])
    repeat ((first
     |(refine Qc (v:=?_) (by rfl) (by rfl) (fun w6 hSw=>?_) ?_;rotate_left;(·(have J:=hSw;go_simp;try with_reducible rfl)))
     |(refine Qd (v:=?_) (by rfl) (fun w6=>?_) ?_;rotate_left;(·(go_simp;try with_reducible rfl)))
     |refine Qe (by rfl) ?_);(try simp only[Act.put,pA,pB,pC]))
    refine Qu ?_
    rintro O ⟨j,-⟩
    obtain⟨N,G⟩:∃x,x=v6:=⟨_,rfl⟩
    subst G
    have I:=j.fr.size
    clear t
    go_wp2_with fail
    refine wp_loop_rounds 2 ?_
    rw[rounds_succ]
    go_wp2_with (at_builtin;refine wpList_append_own_at _ rfl (.tmp 48) (.tmp 56) 47 rfl base 5 ib (.int .u8 0) 1 1 Tryz.underlying47 r m q l rfl (by decide) N (xs.length+1) _ rfl (j.own.alloc _) ⟨O.heap.size,0,none⟩ 1 1 [.int .u8 (128+a % 64)] rfl rfl (cell_one_new _ _ _) (by simp[Value.oneCell']) (by unfold maxLen;omega) (by omega) (by simp;omega) ?_)
    intro T w3 c f _ d
    have p:=j.step (b:=128+a % 64) c f d (by simp) (by simp)
    have K:=p.fr.size
    clear c f d j
    go_wp2_with fail
    rw[rounds_succ]
    have H:=Zh (p)
    clear p
    go_wp2_with fail
    go_ret
    refine AppS.out (n:=xs.length+1+1) (bs:=[192+a / 64,128+a % 64]) ?_ rfl
    have:=H.out
    simp only[List.append_assoc,List.cons_append,List.nil_append] at this ⊢
    exact this
   ·by_cases h4:a<65536
    ·skip
     have D:sz8 a=3:=by
      unfold sz8 at B ⊢
      split at B
      ·omega
      ·rename_i h
       rw[if_neg h,if_neg h2,if_neg h3,if_pos h4]
     have hp:Qhk a=[224+a / 4096,128+a / 64 % 64,128+a % 64]:=by unfold Qhk;rw[if_neg h1,if_neg h2,if_neg h3,if_pos h4]
     rw[hp]
     rw[D] at ksz
     have e1:IntKind.u8.wrap (a / 4096)=a / 4096:=by rw[QaY];omega
     have e2:bits .or .u8 224 (a / 4096)=224+a / 4096:=QpQ _ (by omega) (by omega)
     have e6:IntKind.u8.wrap (a / 64)=a / 64 % 256:=QaY _
     have e7:bits .and .u8 (a / 64 % 256) 63=a / 64 % 64:=by rw[u8_and63 _ (by omega) (by omega)];omega
     have e8:bits .or .u8 128 (a / 64 % 64)=128+a / 64 % 64:=Qdd _ (by omega) (by omega)
     have X:IntKind.u8.wrap a=a % 256:=QaY a
     have V:bits .and .u8 (a % 256) 63=a % 64:=by rw[u8_and63 _ (by omega) (by omega)];omega
     have e5:bits .or .u8 128 (a % 64)=128+a % 64:=Qdd _ (by omega) (by omega)
     have U:(a<0)=False:=by simp;omega
     have KS:=Zh ksz
     clear hp ksz D B S h1 h2
     go_enter Tryz.func229,Tryz.ntmps229
     go_wp2_with fail
     refine(KS.out).mono ?_
     rintro e w1 ⟨rfl,g⟩
     have i:=(HS.out.below g).below (Qa (Below.refl _ w1) (o:=.cells #[.int .u8 0,.int .u8 0,.int .u8 192,.int .u8 224,.int .u8 240] 294))
     have s:=i.fr.size
     clear g
     go_wp2_with fail
     have t:LeadS w base v xs xs.length w1.heap.size v (w1.alloc (.cells #[.int .u8 0,.int .u8 0,.int .u8 192,.int .u8 224,.int .u8 240] 294)):=⟨i,Blk.new w1 _ _⟩
     obtain⟨L,C⟩:=ZN (w1.alloc (.cells #[.int .u8 0,.int .u8 0,.int .u8 192,.int .u8 224,.int .u8 240] 294))
     rw[C] at s t ⊢
     clear C HS i
     have kwa:IntKind.i64.wrap 2=2:=by decide
     have kwb:IntKind.i64.wrap (6*2)=12:=by decide
     have kwc:IntKind.i64.wrap 12=12:=by decide
     refine Qg (fun w'=>w'.cell? ⟨w1.heap.size,3,none⟩=some (.int .u8 224)) (LeadS w base v xs xs.length w1.heap.size v) (fun k=>k==11 || k==12) (fun _=>false) (fun _=>false) (by kernel_rfl) (by kernel_rfl) (t.drew) (fun _ h=>h.2.cell 3) ?_
     repeat ((first
      |(refine Qc (v:=?_) (by rfl) (by rfl) (fun w6 hSw=>?_) ?_;rotate_left;(·(have J:=hSw;go_simp;try with_reducible rfl)))
      |(refine Qd (v:=?_) (by rfl) (fun w6=>?_) ?_;rotate_left;(·(go_simp;try with_reducible rfl)))
      |refine Qe (by rfl) ?_);(try simp only[Act.put,pA,pB,pC]))
     refine Ql (fun u w'=>∃w0,LeadS w base v xs xs.length w1.heap.size v w0/\u=.slice (some ⟨w0.heap.size,0,none⟩) 1 1/\w'=w0.alloc (.cells #[.int .u8 (224+a / 4096)] 5)) (by rfl) (by rfl) (fun w6 hSw=>?_) (.inr (fun v6 w6 hT6=>?_)) (fun v6 hv6=>?_)
     ·(go_simp;exact⟨w6,hSw,rfl,rfl⟩)
     ·(obtain⟨w0,z,-,rfl⟩:=hT6;exact(z.2.alloc _).cell 3)
     skip
     (try simp only[Act.put,pA,pB,pC])
     repeat ((first
      |(refine Qc (v:=?_) (by rfl) (by rfl) (fun w6 hSw=>?_) ?_;rotate_left;(·(have J:=hSw;go_simp;try with_reducible rfl)))
      |(refine Qd (v:=?_) (by rfl) (fun w6=>?_) ?_;rotate_left;(·(go_simp;try with_reducible rfl)))
      |refine Qe (by rfl) ?_);(try simp only[Act.put,pA,pB,pC]))
     refine Ql (fun u w'=>LeadS w base v (xs++[224+a / 4096]) (xs.length+1) w1.heap.size u w') (by rfl) (by rfl) (fun w6 hSw=>?_) (.inr (fun v6 w6 hT6=>?_)) (fun v6 hv6=>?_)
     ·(obtain⟨w0,z,rfl,rfl⟩:=hSw;exact Q5 47 rfl base 5 ib (.int .u8 0) 1 1 Tryz.underlying47 r m q l rfl (by decide) v xs.length _ rfl (z.1.own.alloc _) ⟨w0.heap.size,0,none⟩ 1 1 [.int .u8 (224+a / 4096)] rfl rfl (cell_one_new _ _ _) (by simp[Value.oneCell']) (by unfold maxLen;omega) (by omega) (by have:=z.1.fr.size;simp;omega) (fun v' w' F E _ y=>z.step (b:=224+a / 4096) F E y (by simp) (by simp)))
     ·(exact hT6.2.cell 3)
     skip
     (try simp only[Act.put,pA,pB,pC])
     repeat ((first
      |(refine Qc (v:=?_) (by rfl) (by rfl) (fun w6 hSw=>?_) ?_;rotate_left;(·(have J:=hSw;go_simp;try with_reducible rfl)))
      |(refine Qd (v:=?_) (by rfl) (fun w6=>?_) ?_;rotate_left;(·(go_simp;try with_reducible rfl)))
      |refine Qe (by rfl) ?_);(try simp only[Act.put,pA,pB,pC]))
     refine Qu ?_
     rintro O ⟨j,-⟩
     obtain⟨N,G⟩:∃x,x=v6:=⟨_,rfl⟩
     subst G
     have I:=j.fr.size
     clear t
     go_wp2_with fail
     refine wp_loop_rounds 3 ?_
     rw[rounds_succ]
     go_wp2_with (at_builtin;refine wpList_append_own_at _ rfl (.tmp 48) (.tmp 56) 47 rfl base 5 ib (.int .u8 0) 1 1 Tryz.underlying47 r m q l rfl (by decide) N (xs.length+1) _ rfl (j.own.alloc _) ⟨O.heap.size,0,none⟩ 1 1 [.int .u8 (128+a / 64 % 64)] rfl rfl (cell_one_new _ _ _) (by simp[Value.oneCell']) (by unfold maxLen;omega) (by omega) (by simp;omega) ?_)
     intro T w3 c f _ d
     have p:=j.step (b:=128+a / 64 % 64) c f d (by simp) (by simp)
     have K:=p.fr.size
     clear c f d j
     go_wp2_with fail
     rw[rounds_succ]
     go_wp2_with (at_builtin;refine wpList_append_own_at _ rfl (.tmp 48) (.tmp 56) 47 rfl base 5 ib (.int .u8 0) 1 1 Tryz.underlying47 r m q l rfl (by decide) T (xs.length+1+1) _ rfl (p.own.alloc _) ⟨w3.heap.size,0,none⟩ 1 1 [.int .u8 (128+a % 64)] rfl rfl (cell_one_new _ _ _) (by simp[Value.oneCell']) (by unfold maxLen;omega) (by omega) (by simp;omega) ?_)
     intro Y w4 c f _ d
     have A:=p.step (b:=128+a % 64) c f d (by simp) (by simp)
     have P:=A.fr.size
     clear c f d p
     go_wp2_with fail
     rw[rounds_succ]
     have H:=Zh (A)
     clear A
     go_wp2_with fail
     go_ret
     refine AppS.out (n:=xs.length+1+1+1) (bs:=[224+a / 4096,128+a / 64 % 64,128+a % 64]) ?_ rfl
     have:=H.out
     simp only[List.append_assoc,List.cons_append,List.nil_append] at this ⊢
     exact this
    ·skip
     have D:sz8 a=4:=by
      unfold sz8 at B ⊢
      split at B
      ·omega
      ·rename_i h
       rw[if_neg h,if_neg h2,if_neg h3,if_neg h4]
     have hp:Qhk a=[240+a / 262144,128+a / 4096 % 64,128+a / 64 % 64,128+a % 64]:=by unfold Qhk;rw[if_neg h1,if_neg h2,if_neg h3,if_neg h4]
     rw[hp]
     rw[D] at ksz
     have e1:IntKind.u8.wrap (a / 262144)=a / 262144:=by rw[QaY];omega
     have e2:bits .or .u8 240 (a / 262144)=240+a / 262144:=Qol _ (by omega) (by omega)
     have e9:IntKind.u8.wrap (a / 4096)=a / 4096 % 256:=QaY _
     have a2:bits .and .u8 (a / 4096 % 256) 63=a / 4096 % 64:=by rw[u8_and63 _ (by omega) (by omega)];omega
     have a3:bits .or .u8 128 (a / 4096 % 64)=128+a / 4096 % 64:=Qdd _ (by omega) (by omega)
     have e6:IntKind.u8.wrap (a / 64)=a / 64 % 256:=QaY _
     have e7:bits .and .u8 (a / 64 % 256) 63=a / 64 % 64:=by rw[u8_and63 _ (by omega) (by omega)];omega
     have e8:bits .or .u8 128 (a / 64 % 64)=128+a / 64 % 64:=Qdd _ (by omega) (by omega)
     have X:IntKind.u8.wrap a=a % 256:=QaY a
     have V:bits .and .u8 (a % 256) 63=a % 64:=by rw[u8_and63 _ (by omega) (by omega)];omega
     have e5:bits .or .u8 128 (a % 64)=128+a % 64:=Qdd _ (by omega) (by omega)
     have U:(a<0)=False:=by simp;omega
     have KS:=Zh ksz
     clear hp ksz D B S h1 h2
     go_enter Tryz.func229,Tryz.ntmps229
     go_wp2_with fail
     refine(KS.out).mono ?_
     rintro e w1 ⟨rfl,g⟩
     have i:=(HS.out.below g).below (Qa (Below.refl _ w1) (o:=.cells #[.int .u8 0,.int .u8 0,.int .u8 192,.int .u8 224,.int .u8 240] 294))
     have s:=i.fr.size
     clear g
     go_wp2_with fail
     have t:LeadS w base v xs xs.length w1.heap.size v (w1.alloc (.cells #[.int .u8 0,.int .u8 0,.int .u8 192,.int .u8 224,.int .u8 240] 294)):=⟨i,Blk.new w1 _ _⟩
     obtain⟨L,C⟩:=ZN (w1.alloc (.cells #[.int .u8 0,.int .u8 0,.int .u8 192,.int .u8 224,.int .u8 240] 294))
     rw[C] at s t ⊢
     clear C HS i
     have kwa:IntKind.i64.wrap 3=3:=by decide
     have kwb:IntKind.i64.wrap (6*3)=18:=by decide
     have kwc:IntKind.i64.wrap 18=18:=by decide
     refine Qg (fun w'=>w'.cell? ⟨w1.heap.size,4,none⟩=some (.int .u8 240)) (LeadS w base v xs xs.length w1.heap.size v) (fun k=>k==11 || k==12) (fun _=>false) (fun _=>false) (by kernel_rfl) (by kernel_rfl) (t.drew) (fun _ h=>h.2.cell 4) ?_
     repeat ((first
      |(refine Qc (v:=?_) (by rfl) (by rfl) (fun w6 hSw=>?_) ?_;rotate_left;(·(have J:=hSw;go_simp;try with_reducible rfl)))
      |(refine Qd (v:=?_) (by rfl) (fun w6=>?_) ?_;rotate_left;(·(go_simp;try with_reducible rfl)))
      |refine Qe (by rfl) ?_);(try simp only[Act.put,pA,pB,pC]))
     refine Ql (fun u w'=>∃w0,LeadS w base v xs xs.length w1.heap.size v w0/\u=.slice (some ⟨w0.heap.size,0,none⟩) 1 1/\w'=w0.alloc (.cells #[.int .u8 (240+a / 262144)] 5)) (by rfl) (by rfl) (fun w6 hSw=>?_) (.inr (fun v6 w6 hT6=>?_)) (fun v6 hv6=>?_)
     ·(go_simp;exact⟨w6,hSw,rfl,rfl⟩)
     ·(obtain⟨w0,z,-,rfl⟩:=hT6;exact(z.2.alloc _).cell 4)
     skip
     (try simp only[Act.put,pA,pB,pC])
     repeat ((first
      |(refine Qc (v:=?_) (by rfl) (by rfl) (fun w6 hSw=>?_) ?_;rotate_left;(·(have J:=hSw;go_simp;try with_reducible rfl)))
      |(refine Qd (v:=?_) (by rfl) (fun w6=>?_) ?_;rotate_left;(·(go_simp;try with_reducible rfl)))
      |refine Qe (by rfl) ?_);(try simp only[Act.put,pA,pB,pC]))
     refine Ql (fun u w'=>LeadS w base v (xs++[240+a / 262144]) (xs.length+1) w1.heap.size u w') (by rfl) (by rfl) (fun w6 hSw=>?_) (.inr (fun v6 w6 hT6=>?_)) (fun v6 hv6=>?_)
     ·(obtain⟨w0,z,rfl,rfl⟩:=hSw;exact Q5 47 rfl base 5 ib (.int .u8 0) 1 1 Tryz.underlying47 r m q l rfl (by decide) v xs.length _ rfl (z.1.own.alloc _) ⟨w0.heap.size,0,none⟩ 1 1 [.int .u8 (240+a / 262144)] rfl rfl (cell_one_new _ _ _) (by simp[Value.oneCell']) (by unfold maxLen;omega) (by omega) (by have:=z.1.fr.size;simp;omega) (fun v' w' F E _ y=>z.step (b:=240+a / 262144) F E y (by simp) (by simp)))
     ·(exact hT6.2.cell 4)
     skip
     (try simp only[Act.put,pA,pB,pC])
     repeat ((first
      |(refine Qc (v:=?_) (by rfl) (by rfl) (fun w6 hSw=>?_) ?_;rotate_left;(·(have J:=hSw;go_simp;try with_reducible rfl)))
      |(refine Qd (v:=?_) (by rfl) (fun w6=>?_) ?_;rotate_left;(·(go_simp;try with_reducible rfl)))
      |refine Qe (by rfl) ?_);(try simp only[Act.put,pA,pB,pC]))
     refine Qu ?_
     rintro O ⟨j,-⟩
     obtain⟨N,G⟩:∃x,x=v6:=⟨_,rfl⟩
     subst G
     have I:=j.fr.size
     clear t
     go_wp2_with fail
     refine wp_loop_rounds 4 ?_
     rw[rounds_succ]
     go_wp2_with (at_builtin;refine wpList_append_own_at _ rfl (.tmp 48) (.tmp 56) 47 rfl base 5 ib (.int .u8 0) 1 1 Tryz.underlying47 r m q l rfl (by decide) N (xs.length+1) _ rfl (j.own.alloc _) ⟨O.heap.size,0,none⟩ 1 1 [.int .u8 (128+a / 4096 % 64)] rfl rfl (cell_one_new _ _ _) (by simp[Value.oneCell']) (by unfold maxLen;omega) (by omega) (by simp;omega) ?_)
     intro T w3 c f _ d
     have p:=j.step (b:=128+a / 4096 % 64) c f d (by simp) (by simp)
     have K:=p.fr.size
     clear c f d j
     go_wp2_with fail
     rw[rounds_succ]
     go_wp2_with (at_builtin;refine wpList_append_own_at _ rfl (.tmp 48) (.tmp 56) 47 rfl base 5 ib (.int .u8 0) 1 1 Tryz.underlying47 r m q l rfl (by decide) T (xs.length+1+1) _ rfl (p.own.alloc _) ⟨w3.heap.size,0,none⟩ 1 1 [.int .u8 (128+a / 64 % 64)] rfl rfl (cell_one_new _ _ _) (by simp[Value.oneCell']) (by unfold maxLen;omega) (by omega) (by simp;omega) ?_)
     intro Y w4 c f _ d
     have A:=p.step (b:=128+a / 64 % 64) c f d (by simp) (by simp)
     have P:=A.fr.size
     clear c f d p
     go_wp2_with fail
     rw[rounds_succ]
     go_wp2_with (at_builtin;refine wpList_append_own_at _ rfl (.tmp 48) (.tmp 56) 47 rfl base 5 ib (.int .u8 0) 1 1 Tryz.underlying47 r m q l rfl (by decide) Y (xs.length+1+1+1) _ rfl (A.own.alloc _) ⟨w4.heap.size,0,none⟩ 1 1 [.int .u8 (128+a % 64)] rfl rfl (cell_one_new _ _ _) (by simp[Value.oneCell']) (by unfold maxLen;omega) (by omega) (by simp;omega) ?_)
     intro v4 w5 c f _ d
     have M:=A.step (b:=128+a % 64) c f d (by simp) (by simp)
     have a0:=M.fr.size
     clear c f d A
     go_wp2_with fail
     rw[rounds_succ]
     have H:=Zh (M)
     clear M
     go_wp2_with fail
     go_ret
     refine AppS.out (n:=xs.length+1+1+1+1) (bs:=[240+a / 262144,128+a / 4096 % 64,128+a / 64 % 64,128+a % 64]) ?_ rfl
     have:=H.out
     simp only[List.append_assoc,List.cons_append,List.nil_append] at this ⊢
     exact this
end Go.Proofs.YtgiihhikdoikgaaGreat
