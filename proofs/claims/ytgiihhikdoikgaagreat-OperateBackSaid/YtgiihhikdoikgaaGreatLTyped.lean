/-
  What is typed, where no line end is typed (lines.Typed).
-/
import Derived.Test.YtgiihhikdoikgaaGreatLMapIs
import Derived.Recover
import Derived.Test.YtgiihhikdoikgaaGreatLBoth
import Derived.Test.YtgiihhikdoikgaaGreatLUndoLaw
import Derived.Test.YtgiihhikdoikgaaGreatLSame
import Derived.Test.YtgiihhikdoikgaaGreatLEnd2
import Derived.Test.YtgiihhikdoikgaaGreatLRow4
set_option linter.unusedSimpArgs false
set_option linter.unusedVariables false
set_option maxRecDepth 100000
set_option maxHeartbeats 32000000
namespace Go.Proofs.YtgiihhikdoikgaaGreat
open Go.RowKit
theorem QnA (f a g:Nat)(i b:Array Value)(w:World)(d:Blk w f 42 i)(h1:i[0]? = some (.pointer (some ⟨a,0,none⟩)))(c:Blk w a 97 b)(h:b[0]? = some (.pointer (some ⟨g,0,none⟩))) :
  Calls Tryz.prog 34 #[.pointer (some ⟨f,0,none⟩)] w fun e w'=>e=.returned (.pointer (some ⟨g,0,none⟩))/\w=w':=by
 have j:=Zh (QcO w a g b c h)
 have c0:=d.cell 0
 rw[h1] at c0
 clear c h d h1
 go_enter Tryz.func34,Tryz.ntmps34
 go_wp2_with fail
 refine(j.out).mono ?_
 rintro e w1 ⟨rfl,rfl⟩
 go_wp2_with fail
 go_ret
 exact⟨rfl,rfl⟩
theorem Qb9 (w:World):Calls Tryz.prog 28 #[.int .i64 0] w fun e w'=>e=.returned (.tuple #[])/\w=w':=by
 go_enter Tryz.func28,Tryz.ntmps28
 go_wp2_with fail
 show bodyPost _ _ _ _ _ _
 refine bodyPost_end (results_none rfl _ _ _) rfl ?_
 exact⟨rfl,rfl⟩
theorem Qgk (c:Nat)(f:Array Value)(b:Int)(w:World)(a:Blk w c 42 f)(d:f[9]? = some (.int .i64 b))(g:1<=b/\b<=3) :
  Calls Tryz.prog 81 #[.pointer (some ⟨c,0,none⟩)] w fun e w'=>e=.returned (.int .i64 b)/\w=w':=by
 have c0:=a.cell 9
 rw[d] at c0
 have i:(b<1)=False:=by simp;omega
 have h:(3<b)=False:=by simp;omega
 clear a d
 go_enter Tryz.func81,Tryz.ntmps81
 go_wp2_with fail
 go_ret
 exact⟨rfl,rfl⟩
theorem Qi4 (r:Nat)(w:World) :
  CallsD Tryz.prog 76 #[.pointer (some ⟨r,0,none⟩)] .returning w fun e b w'=>b=.returning/\e=.returned (.tuple #[])/\w'=w:=by
 refine callsD_of_wpS Tryz.func76 rfl fun c₀ c a=>?_
 apply wpS_seq
 apply wpS_region
 simp[wpOpsS,go_sem,recoverD,a,Tryz.ntmps76,Exit.thenS]
 refine wpS_of_wp ?_
 go_wp2_with fail
 simp[bodyPostS,results,Tryz.results76,go_sem]
 cases c₀
 simp at a
 subst a
 rfl
theorem Qtd (x:Int):bits .and .i64 x 3=x % 4:=by
 show IntKind.i64.wrap ((BitVec.ofInt 64 x &&& BitVec.ofInt 64 3).toNat:Int)=_
 have e:(BitVec.ofInt 64 3).toNat=2 ^ 2-1:=by decide
 rw[BitVec.toNat_and,BitVec.toNat_ofInt,e,Nat.and_two_pow_sub_one_eq_mod,IntKind.wrap_i64]
 omega
def QQ (x n:Int):Int:=(if x<0 then -(x+1) else x) % (n+1)
theorem QX (x n:Int)(h:0<=n):0<=QQ x n/\QQ x n<=n:=by
 unfold QQ
 generalize (if x<0 then -(x+1) else x)=y
 have h1:=Int.emod_nonneg y (show n+1≠0 by omega)
 have h2:=Int.emod_lt_of_pos y (show 0<n+1 by omega)
 omega
theorem Qbh (x n:Int)(w:World)(m : -9223372036854775808<=x/\x<=9223372036854775807)(d:0<=n)(h1:n<=1073741824) :
  Calls Tryz.prog 5 #[.int .i64 x,.int .i64 n] w fun e w'=>e=.returned (.int .i64 (QQ x n))/\w=w':=by
 have key : ∀y:Int,0<=y->y.tmod (n+1)=y % (n+1):=fun y f=>Int.tmod_eq_emod_of_nonneg f
 have o:IntKind.i64.wrap (n+1)=n+1:=IntWalk.i64_in _ (by omega)
 have l:(n+1=0)=False:=by simp;omega
 have g:(n+1==0)=false:=by rw[beq_eq_false_iff_ne];omega
 have k:(n+1 = -1)=False:=by simp;omega
 have i:(n+1 == -1)=false:=by rw[beq_eq_false_iff_ne];omega
 have c:=QX x n d
 by_cases h:x<0
 ·have p:IntKind.i64.wrap (x+1)=x+1:=IntWalk.i64_in _ (by omega)
  have q:IntKind.i64.wrap (-(x+1)) = -(x+1):=IntWalk.i64_in _ (by omega)
  have b:QQ x n=(-(x+1)).tmod (n+1):=by rw[key _ (by omega)];unfold QQ;rw[if_pos h]
  have a:IntKind.i64.wrap ((-(x+1)).tmod (n+1))=QQ x n:=by rw[<-b];exact IntWalk.i64_in _ (by omega)
  have j:=Zh a
  clear b a c
  go_enter Tryz.func5,Tryz.ntmps5
  go_wp2
  go_ret
  exact⟨QaB (by rw[<-Int.neg_tmod,key _ (by omega)];unfold QQ;rw[if_pos h]),rfl⟩
 ·have b:QQ x n=x.tmod (n+1):=by rw[key _ (by omega)];unfold QQ;rw[if_neg h]
  have a:IntKind.i64.wrap (x.tmod (n+1))=QQ x n:=by rw[<-b];exact IntWalk.i64_in _ (by omega)
  have j:=Zh a
  clear b a c
  go_enter Tryz.func5,Tryz.ntmps5
  go_wp2
  go_ret
  exact⟨QaB (by unfold QQ;rw[if_neg (by omega)]),rfl⟩
structure Start where
 enc:Int
 native:Int
 depth:Int
 room:Int
 data:List Int
def Start.E (s:Start):Int:=1+s.enc % 4
def Start.l (s:Start):List Int:=s.data.take 4096
def Start.lim (s:Start):Int:=s.l.length+QQ s.room 4096
def Start.nat (s:Start):Int:=1+QQ s.native 2
def Start.dep (s:Start):Int:=1+QQ s.depth 199
theorem Start.ok (s:Start):QeB s.E s.lim s.nat s.dep s.l.length=0:=by
 have h1:=QX s.room 4096 (by omega)
 have h2:=QX s.native 2 (by omega)
 have a:=QX s.depth 199 (by omega)
 have b:s.l.length<=4096:=by unfold Start.l;rw[List.length_take];omega
 unfold QeB QbO Qeb Start.E Start.lim Start.nat Start.dep
 rw[if_neg (by omega),if_neg (by omega),if_neg (by omega),if_neg (by omega),if_neg (by omega)]
def QsG (l:List Int)(w0:World)(k:Nat)(a b:Value)(wr:World):Prop:=
 ∃i:Nat,b=.int .i64 (i:Int)/\i<=l.length/\i<=4096/\4096-i<=k/\Hid (wr.ownsRow w0.heap.size 5 1 a i ((l.take i).map (Value.int .u8)))/\ZB w0 wr
structure Begun (B:Nat) (s:Start) (w':World) (gd gb gt m gk mk gd' gb' gt' gk':Nat) (ld:Value):Prop where
 D:NewDesk B s.E s.lim s.nat s.dep s.l w' gd gb gt m gk mk
 R:RNewDesk B s.E s.lim s.nat s.dep s.l w' gd' gb' gt' gk' ld
def QhW (s:Start)(w:World)(e:Ending)(w':World):Prop:=
 ∃f g h m i mk a b c d ld,e=.returned (.tuple #[.agg #[.pointer (some ⟨f,0,none⟩),.pointer (some ⟨a,0,none⟩)],.bool true])/\Begun w.heap.size s w' f g h m i mk a b c d ld/\ZB w w'
def Qb4 (x:Int):Prop := -9223372036854775808<=x/\x<=9223372036854775807
theorem Qqf {w:World}{g:Nat}{T:TypeId}{a e d b c:Value}(h:Blk w g T #[a,e,d,b,c]) :
  w.cell? ⟨g,0,none⟩=some a/\w.cell? ⟨g,1,none⟩=some e/\w.cell? ⟨g,2,none⟩=some d/\w.cell? ⟨g,3,none⟩=some b/\w.cell? ⟨g,4,none⟩=some c:=⟨h.cell 0,h.cell 1,h.cell 2,h.cell 3,h.cell 4⟩
theorem NewDesk.base {B f:Nat}{enc lim native depth:Int}{l:List Int}{w:World}{c d e m a mk:Nat}(h:NewDesk B enc lim native depth l w c d e m a mk)(i:f<=B):NewDesk f enc lim native depth l w c d e m a mk:=
 ⟨h.desk,h.book,h.text.more (fun b g _=>Nat.le_trans i g),h.bank,by have:=h.ge;omega⟩
theorem RNewDesk.base {B f:Nat}{enc lim native depth:Int}{l:List Int}{w:World}{c d e b:Nat}{ld:Value}(h:RNewDesk B enc lim native depth l w c d e b ld)(a:f<=B):RNewDesk f enc lim native depth l w c d e b ld:=by
 obtain⟨va,vt,h1,h2,g⟩:=h.text
 exact⟨h.desk,h.book,Qan h.loaded a,⟨va,vt,h1,Qan h2 a,Qan g a⟩,by have:=h.ge;omega⟩
theorem NewDesk.other {B k:Nat}{enc lim native depth:Int}{l:List Int}{w w':World}{d f g m c mk:Nat}{T:TypeId}{i:Array Value}(h:NewDesk B enc lim native depth l w d f g m c mk)(b:Fr (· = k) w w')(a:Blk w k T i)(h1:T≠42)(h2:T≠97)(q:T≠125)(p:T≠104)(j:T≠147)(o:NoU8 i)(n:T≠5:=by decide):NewDesk B enc lim native depth l w' d f g m c mk:=
 ⟨Blk.fr h.desk b (fun e=>Blk.ne_ a h.desk h1 e.symm),⟨h.book.1.fr b (fun e=>Blk.ne_ a h.book.1 h2 e.symm),h.book.2.fr b (fun e=>h.book.2.ne_blk a e)⟩,h.text.other b a p j o n,⟨h.bank.1.fr b (fun e=>Blk.ne_ a h.bank.1 q e.symm),h.bank.2.fr b (fun e=>h.bank.2.ne_blk a e)⟩,h.ge⟩
theorem Qft {w w':World}{B e size n k:Nat}{T:TypeId}{i:Array Value}{v:Value}{xs:List Value}(h:w.ownsRow B e size v n xs)(d:Fr (· = k) w w')(a:Blk w k T i)(c:T≠e):w'.ownsRow B e size v n xs:=by
 refine⟨h.1,?_⟩
 rcases h.2 with b|⟨g,cap,cur,rfl,h1,h2,f⟩
 ·exact .inl b
 ·refine .inr ⟨g,cap,cur,rfl,h1,?_,f⟩
  rw[d.block g (Array.getElem?_eq_some_iff.1 h2).1 (fun e=>?_)]
  ·exact h2
  ·subst e
   unfold Blk at a
   rw[a] at h2
   injection h2 with h2
   injection h2 with _ h2
   exact c h2
theorem RNewDesk.other {B k:Nat}{enc lim native depth:Int}{l:List Int}{w w':World}{f i j c:Nat}{ld:Value}{T:TypeId}{q:Array Value}(h:RNewDesk B enc lim native depth l w f i j c ld)(b:Fr (· = k) w w')(a:Blk w k T q)(h1:T≠163)(h2:T≠174)(p:T≠166)(g:T≠3)(m:T≠5):RNewDesk B enc lim native depth l w' f i j c ld:=by
 obtain⟨va,vt,d,o,n⟩:=h.text
 exact⟨Blk.fr h.desk b (fun e=>Blk.ne_ a h.desk h1 e.symm),h.book.fr b (fun e=>Blk.ne_ a h.book h2 e.symm),Qft h.loaded b a m,⟨va,vt,Blk.fr d b (fun e=>Blk.ne_ a d p e.symm),Qft o b a g,Qft n b a g⟩,h.ge⟩
theorem Qir (s:Start)(A:Option Addr)(n c:Nat)(w:World)(hl:Bts w Any A n s.data)(hB:Byt s.data)(h1:Qb4 s.native)(h2:Qb4 s.depth)(h3:Qb4 s.room) :
  Calls Tryz.prog 14 #[.agg #[.int .i64 s.enc,.slice A n c,.int .i64 s.native,.int .i64 s.depth,.int .i64 s.room]] w fun e w'=>QhW s w e w':=by
 have g6:=hl.len
 have a6:=s.ok
 have j:s.E=1+s.enc % 4:=rfl
 have g:s.lim=s.l.length+QQ s.room 4096:=rfl
 have u:s.nat=1+QQ s.native 2:=rfl
 have q:s.dep=1+QQ s.depth 199:=rfl
 have a4:s.l=s.data.take 4096:=rfl
 have e7:Byt s.l:=hB.take _
 have h0:s.l.length<=4096:=by rw[a4,List.length_take];omega
 have b1:=QX s.room 4096 (by omega)
 have b2:=QX s.native 2 (by omega)
 have b3:=QX s.depth 199 (by omega)
 have T:=fun w'=>Qbh s.room 4096 w' h3 (by omega) (by omega)
 have k2:=fun w'=>Qbh s.native 2 w' h1 (by omega) (by omega)
 have k3:=fun w'=>Qbh s.depth 199 w' h2 (by omega) (by omega)
 obtain⟨x1,d4⟩:∃x,QQ s.room 4096=x:=⟨_,rfl⟩
 obtain⟨x2,b7⟩:∃x,QQ s.native 2=x:=⟨_,rfl⟩
 obtain⟨x3,c5⟩:∃x,QQ s.depth 199=x:=⟨_,rfl⟩
 rw[d4] at b1 g T
 rw[b7] at b2 u k2
 rw[c5] at b3 q k3
 obtain⟨se,a8⟩:∃x,s.enc=x:=⟨_,rfl⟩
 obtain⟨sn,a9⟩:∃x,s.native=x:=⟨_,rfl⟩
 obtain⟨sd,c6⟩:∃x,s.depth=x:=⟨_,rfl⟩
 obtain⟨sr,e8⟩:∃x,s.room=x:=⟨_,rfl⟩
 rw[a8] at j ⊢
 rw[a9] at k2 ⊢
 rw[c6] at k3 ⊢
 rw[e8] at T ⊢
 have F:=Qtd se
 have m1:=Int.emod_nonneg se (show (4:Int)≠0 by omega)
 have m2:=Int.emod_lt_of_pos se (show (0:Int)<4 by omega)
 obtain⟨sm,b0⟩:∃x,se % 4=x:=⟨_,rfl⟩
 rw[b0] at j F m1 m2
 have n1:=fun(w':World) (o:Option Addr) (m c':Nat) (d:Bts w' Any o m s.l) (L:m<=c')=>Qls s.E s.lim s.nat s.dep Any o m c' s.l w' d e7 L (by rw[<-d.len];exact a6)
 have n2:=fun(w':World) (o:Option Addr) (m c':Nat) (d:Bts w' Any o m s.l) (L:m<=c')=>QoS s.E s.lim s.nat s.dep Any o m c' s.l w' d e7 L (by rw[<-d.len];exact a6)
 have d2 : ∀(w':World) (o:Option Addr) (m c':Nat) (d:Bts w' Any o m s.l) (L:m<=c'),Calls Tryz.prog 58 #[.int .i64 (1+sm),.slice o m c',.int .i64 ((m:Int)+x1),.int .i64 (1+x2),.int .i64 (1+x3)] w' fun e B=>Qkw s.E s.lim s.nat s.dep s.l w' e B:=by
  intro w' o m c' d L
  have:=n1 w' o m c' d L
  rw[j,g,u,q,d.len] at this
  rw[j,g,u,q,d.len]
  exact this
 have d5 : ∀(w':World) (o:Option Addr) (m c':Nat) (d:Bts w' Any o m s.l) (L:m<=c'),Calls Tryz.prog 24 #[.int .i64 (1+sm),.slice o m c',.int .i64 ((m:Int)+x1),.int .i64 (1+x2),.int .i64 (1+x3)] w' fun e B=>QmE s.E s.lim s.nat s.dep s.l w' e B:=by
  intro w' o m c' d L
  have:=n2 w' o m c' d L
  rw[j,g,u,q,d.len] at this
  rw[j,g,u,q,d.len]
  exact this
 obtain⟨ib,d8,a7,S,M⟩:=info_parts Qfw
 have K1:=Zh T
 have K2:=Zh k2
 have K3:=Zh k3
 have N1:=Zh d2
 have N2:=Zh d5
 have f2:=Zh a4
 have f5:=Zh F
 clear T k2 k3 n1 n2 d2 d5 a4 a6 j g u q d4 b7 c5 a8 a9 c6 e8 h1 h2 h3 b0 F
 have a5:=(Blk.new w 49 #[.int .i64 se,.slice A n c,.int .i64 sn,.int .i64 sd,.int .i64 sr]).alloc (.cells #[.pointer none,.pointer none] 52)
 have b6:Blk ((w.alloc (.cells #[.int .i64 se,.slice A n c,.int .i64 sn,.int .i64 sd,.int .i64 sr] 49)).alloc (.cells #[.pointer none,.pointer none] 52)) (w.heap.size+1) 52 #[.pointer none,.pointer none]:=Blk.new' (by simp)
 have W:ZB w ((w.alloc (.cells #[.int .i64 se,.slice A n c,.int .i64 sn,.int .i64 sd,.int .i64 sr] 49)).alloc (.cells #[.pointer none,.pointer none] 52)):=Qa (Qa (Below.refl _ _))
 have X:((w.alloc (.cells #[.int .i64 se,.slice A n c,.int .i64 sn,.int .i64 sd,.int .i64 sr] 49)).alloc (.cells #[.pointer none,.pointer none] 52)).heap.size=w.heap.size+2:=by simp
 go_enter Tryz.func14,Tryz.ntmps14
 go_wp2_with fail
 obtain⟨w0,U⟩:∃x,(w.alloc (.cells #[.int .i64 se,.slice A n c,.int .i64 sn,.int .i64 sd,.int .i64 sr] 49)).alloc (.cells #[.pointer none,.pointer none] 52)=x:=⟨_,rfl⟩
 rw[U] at a5 b6 W X
 rw[U]
 clear U
 have fs:=fun(w':World) (y:ZB w0 w')=>Qqf (a5.below y)
 have FS:=Zh fs
 have g4:=Zh X
 clear fs a5 X
 go_loopg [4,5] 4096 (fun k q4 q5 wr=>QsG s.data w0 k q4 q5 wr)
 case atStart=>exact⟨0,rfl,Nat.zero_le _,Nat.zero_le _,Nat.le_refl _,Zh (World.ownsRow_nil _ _ _ _),Below.refl _ _⟩
 case round=>
  obtain⟨i,rfl,hi,g7,hk,p,y⟩:=hrel
  obtain⟨c0,c1,c2,c3,c4⟩:=FS.out _ y
  have g9:=y.size
  by_cases hgo:i<n/\i<4096
  ·obtain⟨f4,g8⟩:=hgo
   obtain⟨ad,rfl,_,cx⟩:=Bts.at_ (Reads.below (Reads.below hl W) y) f4
   have bx:=hB.at_ i
   obtain⟨x,J⟩:=ZN (s.data.getD i 0)
   rw[J] at cx bx
   have HX:=Zh J
   clear J
   go_wp2_with (at_builtin;refine wpList_append_own_at _ rfl (.tmp 26) (.tmp 32) 47 rfl w0.heap.size 5 ib (.int .u8 0) 1 1 Tryz.underlying47 d8 a7 S M rfl (by decide) u4 i _ rfl (p.out.alloc _) ⟨wr.heap.size,0,none⟩ 1 1 [.int .u8 x] rfl rfl (cell_one_new _ _ _) (by simp[Value.oneCell']) (by unfold maxLen;omega) (by omega) (by simp;omega) ?_)
   intro v1 w1 G c8 _ _
   have r:ZB w0 w1:=Qy (Qa y) c8 (fun k hk=>QaV p.out hk)
   have HO:=Zh G
   clear G c8 d8 a7 S M c0 c1 c2 c3 c4 cx
   go_wp2_with fail
   go_roundg (4096-(i+1))
   case measure=>omega
   case rel=>
    refine⟨i+1,by go_num,by omega,by omega,by omega,Zh ?_,r⟩
    have J:=HX.out
    rw[List.getD_eq_getElem?_getD,List.getElem?_eq_getElem (by omega)] at J
    simp at J
    rw[List.take_succ_eq_append_getElem (by omega),List.map_append,J,List.map_take]
    exact HO.out
  ·have a0:s.data.take i=s.l:=by
    rw[f2.out]
    rcases Nat.lt_or_ge i 4096 with h|h
    ·rw[List.take_of_length_le (by omega),List.take_of_length_le (by omega)]
    ·rw[show i=4096 by omega]
   have g:s.l.length=i:=by rw[<-a0,List.length_take];omega
   have ho:=p.out
   rw[a0] at ho
   obtain⟨A4,k4,rfl,b5⟩:=Qj ho
   have d:Bts wr Any A4 i s.l:=Reads.more (Reads.of_own ho) (fun _ _ _=>trivial) (by decide)
   have HI:=Zh d
   have f7:((i:Int)<(n:Int))=False\/(((i:Int)<(n:Int))=True/\((i:Int)<4096)=False):=by simp;omega
   have F:=f5.out
   have e4:=Qf W y
   clear a0 g ho p d hgo
   rcases f7 with J|⟨f1,J⟩
   all_goals
    go_wp2_with fail
    refine(K1.out _).mono ?_
    rintro e w1 ⟨rfl,rfl⟩
    go_wp2_with fail
    refine(K2.out _).mono ?_
    rintro e w1 ⟨rfl,rfl⟩
    go_wp2_with fail
    refine(K3.out _).mono ?_
    rintro e w1 ⟨rfl,rfl⟩
    go_wp2_with fail
    refine(N1.out _ _ _ _ HI.out b5).mono ?_
    rintro e w1 ⟨a,a1,Z,Y,ld,rfl,hR,r⟩
    go_wp2_with fail
    refine(N2.out _ _ _ _ (Reads.below HI.out r) b5).mono ?_
    rintro e z ⟨t,gb,gt,m,gk,mk,rfl,hD,K⟩
    clear c0 c1 c2 c3 c4 J F
    try clear f1
    have e5:=hR.below K
    have b8:=Qf e4 r
    have P:=Qf b8 K
    have z1:=e4.size
    have z2:=b8.size
    have z3:=P.size
    have g5:w.heap.size+2<=wr.heap.size:=by have:=g4.out;omega
    have Q:=((b6.below y).below r).below K
    obtain⟨d0,d1,-⟩:=QiF (show Blk z t _ _ from hD.desk)
    have d3:=hD.book.1
    have d7:=hD.base z2
    have d9:=e5.base z1
    have HD:=Zh d7
    have HR:=Zh d9
    have f8:=Zh d3
    have f9:=Zh Q
    clear hD hR e5 d7 d9 d3 Q
    go_wp2_with fail
    refine(QcO z gb gt _ f8.out rfl).mono ?_
    rintro e w3 ⟨rfl,rfl⟩
    go_wp2_with fail
    have H:=Blk.new z 52 #[.pointer (some ⟨t,0,none⟩),.pointer (some ⟨a,0,none⟩)]
    have C:ZB z (z.alloc (.cells #[.pointer (some ⟨t,0,none⟩),.pointer (some ⟨a,0,none⟩)] 52)):=Qa (Below.refl _ _)
    obtain⟨w3,V⟩:∃x,z.alloc (.cells #[.pointer (some ⟨t,0,none⟩),.pointer (some ⟨a,0,none⟩)] 52)=x:=⟨_,rfl⟩
    rw[V] at H C
    rw[V]
    clear V d0 d1
    have hN:BothNew w.heap.size s.E s.lim s.nat s.dep s.l w3 z.heap.size t gb gt m gk mk a a1 Z Y ld:=⟨H,HD.out.below C,HR.out.below C⟩
    have N:=f9.out.below C
    have e6:=fun(w':World) (y:ZB w3 w')=>Qnp w.heap.size s.E s.lim s.nat s.dep s.l w' z.heap.size t gb gt m gk mk a a1 Z Y ld (hN.below y)
    have f0:=fun(w':World) (y:ZB w3 w')=>Qcl (H.below y)
    have g0:=Zh e6
    have b4:=Zh f0
    have f6:=Zh H
    have HN:=Zh hN
    have O:=Zh N
    have b9:w.heap.size+1≠z.heap.size:=by have:=r.size;have:=K.size;omega
    have d6:=Qf P C
    clear e6 f0 hN N H
    refine Qg (fun w'=>w'.cell? ⟨z.heap.size,0,none⟩=some (.pointer (some ⟨t,0,none⟩))/\w'.cell? ⟨z.heap.size,1,none⟩=some (.pointer (some ⟨a,0,none⟩))) (fun w'=>ZB w3 w') (fun k=>k==1 || k==2) (fun _=>false) (fun _=>false) (by kernel_rfl) (by kernel_rfl) (Below.drew (Below.refl _ _)) (fun _ h=>b4.out _ h) ?_
    repeat ((first
     |(refine Qc (v:=?_) (by rfl) (by rfl) (fun w6 hSw=>?_) ?_;rotate_left;(·(obtain⟨y0,y1⟩:=hSw;go_simp;try with_reducible rfl)))
     |(refine Qd (v:=?_) (by rfl) (fun w6=>?_) ?_;rotate_left;(·(go_simp;try with_reducible rfl)))
     |refine Qe (by rfl) ?_);(try simp only[Act.put,pA,pB,pC]))
    refine QW (f:=?_) (args:=?_) (v:=.bool true) (by rfl) (by rfl) (fun w6 hSw=>?_) (fun _ h=>b4.out _ h) (fun w6 hSw=>?_) ?_
    rotate_left 2
    ·(skip;go_simp;first|done|(constructor<;>with_reducible rfl)|with_reducible rfl)
    ·(refine(g0.out _ hSw).mono ?_;rintro e w5 ⟨rfl,g2⟩;exact⟨rfl,Qf hSw g2⟩)
    (try simp only[Act.put,pA,pB,pC])
    repeat ((first
     |(refine Qc (v:=?_) (by rfl) (by rfl) (fun w6 hSw=>?_) ?_;rotate_left;(·(obtain⟨y0,y1⟩:=hSw;go_simp;try with_reducible rfl)))
     |(refine Qd (v:=?_) (by rfl) (fun w6=>?_) ?_;rotate_left;(·(go_simp;try with_reducible rfl)))
     |refine Qe (by rfl) ?_);(try simp only[Act.put,pA,pB,pC]))
    refine Ql (fun _ B=>∃w',ZB w3 w'/\B=(w'.setCell ⟨w.heap.size+1,0,none⟩ (.pointer (some ⟨t,0,none⟩))).setCell ⟨w.heap.size+1,1,none⟩ (.pointer (some ⟨a,0,none⟩))) (by rfl) (by rfl) (fun w6 hSw=>?_) (.inr (fun v6 w6 hT6=>?_)) (fun v6 hv6=>?_)
    ·(have b:=O.out.below hSw;have e0:=b.cell 0;have e1:=b.cell 1;have e2:=b.frozen 0;have e3:=b.frozen 1;simp at e0 e1;go_simp;exact⟨w6,hSw,rfl⟩)
    ·(obtain⟨w',I,rfl⟩:=hT6;exact Qcl ((Blk.far (f6.out.below I) b9.symm _).far b9.symm _))
    skip
    (try simp only[Act.put,pA,pB,pC])
    repeat ((first
     |(refine Qc (v:=?_) (by rfl) (by rfl) (fun w6 hSw=>?_) ?_;rotate_left;(·(skip;go_simp;try with_reducible rfl)))
     |(refine Qd (v:=?_) (by rfl) (fun w6=>?_) ?_;rotate_left;(·(go_simp;try with_reducible rfl)))
     |refine Qe (by rfl) ?_);(try simp only[Act.put,pA,pB,pC]))
    refine Qu ?_
    rintro w4 ⟨w',I,rfl⟩
    have hn:=HN.out.below I
    have b:=O.out.below I
    have a2:=(b.set_ 0 (.pointer (some ⟨t,0,none⟩))).set_ 1 (.pointer (some ⟨a,0,none⟩))
    have a3:Fr (· = w.heap.size+1) w' ((w'.setCell ⟨w.heap.size+1,0,none⟩ (.pointer (some ⟨t,0,none⟩))).setCell ⟨w.heap.size+1,1,none⟩ (.pointer (some ⟨a,0,none⟩))):=((Fr.refl _ _).set1 0 _).set1 1 _
    have c9:=hn.D.other a3 b (by decide) (by decide) (by decide) (by decide) (by decide) rfl
    have c7:=hn.R.other a3 b (by decide) (by decide) (by decide) (by decide) (by decide)
    have e9:ZB w ((w'.setCell ⟨w.heap.size+1,0,none⟩ (.pointer (some ⟨t,0,none⟩))).setCell ⟨w.heap.size+1,1,none⟩ (.pointer (some ⟨a,0,none⟩))):=((Qf d6 I).setCell (by simp) _).setCell (by simp) _
    have k0:=a2.cell 0
    have T:=a2.cell 1
    simp at k0 T
    have g1:=Zh c9
    have f3:=Zh c7
    have g3:=Zh e9
    clear c9 c7 e9 a3 a2 b hn
    go_wp2_with fail
    refine bodyPost_ret (v:=.tuple #[.agg #[.pointer (some ⟨t,0,none⟩),.pointer (some ⟨a,0,none⟩)],.bool true]) (by simp[results,Tryz.results14,go_sem,k0,T]) rfl ⟨t,gb,gt,m,gk,mk,a,a1,Z,Y,ld,rfl,⟨g1.out,f3.out⟩,g3.out⟩
instance (T:TypeId):Decidable (Qd1 T):=by unfold Qd1;exact inferInstance
def DFr (B:Nat)(X:Nat->Prop)(w w':World):Prop:=Fr (fun b=>(B<=b/\∃T a,Blk w b T a/\Qd1 T)\/X b) w w'
theorem DFr.of_below {B:Nat}{X:Nat->Prop}{w w':World}(h:ZB w w'):DFr B X w w':=Fr.of_below h
theorem DFr.of_bk {B:Nat}{X:Nat->Prop}{w w':World}(h:BkFr B w w'):DFr B X w w':=h.more (fun _ _ a=>.inl a)
theorem DFr.of_x {B:Nat}{X:Nat->Prop}{w w':World}(h:Fr X w w'):DFr B X w w':=h.more (fun _ _ a=>.inr a)
theorem DFr.wide {B a : Nat}{X X' : Nat -> Prop}{w w' : World}(h : DFr B X w w')(d : a <= B)(f : ∀ b, b < w.heap.size -> X b -> X' b) : DFr a X' w w' := h.more (fun b c e=>by
 rcases e with ⟨h1,h2⟩|h1
 ·exact .inl ⟨Nat.le_trans d h1,h2⟩
 ·exact .inr (f b c h1))
theorem DFr.trans {B:Nat}{X:Nat->Prop}{w w' a:World}(h:DFr B X w w')(k:DFr B X w' a):DFr B X w a:=by
 refine⟨k.os.trans h.os,k.tape.trans h.tape,k.output.trans h.output,Nat.le_trans h.size k.size,fun i c hn=>?_⟩
 have h1:=h.block i c hn
 refine(k.block i (Nat.lt_of_lt_of_le c h.size) (fun b=>?_)).trans h1
 rcases b with ⟨e,T,f,d,j⟩|b
 ·exact hn (.inl ⟨e,T,f,h1.symm.trans d,j⟩)
 ·exact hn (.inr b)
theorem DFr.call' {B:Nat}{X X':Nat->Prop}{w w' a:World}(h:ZB w w')(k:DFr B X' w' a)(j : ∀b,b<w.heap.size->X' b->X b):DFr B X w a:=
 ⟨k.os.trans h.os,k.tape.trans h.tape,k.output.trans h.output,Nat.le_trans h.size k.size,fun i c hn=>by
  have h1:=h.block i c
  refine(k.block i (Nat.lt_of_lt_of_le c h.size) (fun d=>?_)).trans h1
  rcases d with ⟨l,T,m,e,f⟩|d
  ·exact hn (.inl ⟨l,T,m,h1.symm.trans e,f⟩)
  ·exact hn (.inr (j i c d))⟩
theorem DFr.blk {B : Nat}{X : Nat -> Prop}{w w' : World}{b : Nat}{T : TypeId}{f : Array Value}(h : DFr B X w w')(c : Blk w b T f)(l : ¬ Qd1 T)(k : ¬ X b) : Blk w' b T f := c.fr h (fun e=>by
 rcases e with ⟨-,j,i,a,d⟩|e
 ·have:T=j:=by
   unfold Blk at c a
   rw[c] at a
   injection a with a
   injection a with _ a
  exact l (this▸d)
 ·exact k e)
theorem Qlo {w:World}{b o:Nat}{T:TypeId}{a:Array Value}{v:Value}(h:Blk w b T a)(f:a[o]? = some v):w.setCell ⟨b,o,none⟩ v=w:=by
 have d:w.heap[b]? = some (.cells a T (0,0)):=h
 rw[setCell_eq_setRow w b o a T (0,0) v d]
 have e:a.setIfInBounds o v=a:=by
  apply Array.ext
  ·simp
  ·intro i h1 h2
   rw[Array.getElem_setIfInBounds]
   split
   ·rename_i c
    subst c
    rw[Array.getElem?_eq_getElem h2] at f
    exact(Option.some.inj f).symm
   ·rfl
 rw[e]
 have m:b<w.heap.size:=(Array.getElem?_eq_some_iff.1 d).1
 have j:w.heap[b]=.cells a T (0,0):=(Array.getElem?_eq_some_iff.1 d).2
 unfold World.setRow
 cases w with
 |mk heap tape drawn os output=>
  simp only[World.mk.injEq,and_true]
  apply Array.ext
  ·simp
  ·intro k h1 h2
   simp only[Array.getElem_modify]
   split
   ·rename_i l
    subst l
    dsimp only at j
    rw[j]
   ·rfl
def QfN (T:TypeId):Prop:=(T≠104/\T≠147/\T≠5)/\(T≠182/\T≠226/\T≠184/\T≠207)/\T≠97/\T≠196/\T≠177
instance (T:TypeId):Decidable (QfN T):=by unfold QfN;exact inferInstance
theorem BkAt.alien2 {w w':World}{N B gb g n m:Nat}{enc lim:Int}{add vu vr:Value}{st:BkS}{t:Tr}{a:Option Addr}{xs:List Value}{now:Option Addr}{S:Nat->Prop}(h:BkAt w N B gb g enc lim n add st t a xs m vu vr now)(q:Fr S w w')
  (E : ∀k,k<w.heap.size->S k->(∃T u,Blk w k T u/\QfN T)\/(k=st.mb/\∃es y,w.heap[k]? = some (.map es y))):BkAt w' N B gb g enc lim n add st t a xs m vu vr now:=by
 have l : ∀{T:TypeId} {u:Array Value} {b:Nat},Blk w b T u->¬QfN T->¬S b:=fun d hn j=>by
  rcases E _ d.lt j with ⟨L,I,c,i⟩|⟨_,es,y,c⟩
  ·unfold Blk at d c
   rw[d] at c
   injection c with c
   injection c with _ c
   exact hn (c▸i)
  ·unfold Blk at d
   rw[d] at c
   injection c with c
   cases c
 have z : ∀M k,k<w.heap.size->S k->Far2 w M k:=fun M k D j=>by
  rcases E k D j with ⟨T,u,d,i⟩|⟨_,es,y,c⟩
  ·exact Far2.blk d ⟨i.1,i.2.1⟩
  ·refine⟨.inr ⟨_,c,fun u T f e=>by cases e⟩,fun T u d=>?_⟩
   unfold Blk at d
   rw[d] at c
   injection c with c
   cases c
 have C : ∀M,GKeep M add add n n enc w w':=fun M=>GKeep.far q (z M)
 have v : ∀ {r : Nat}, MapE w st.mb r -> MapE w' st.mb r := fun {r} hr => hr.fr q (fun j=>by
  rcases E r hr.lt j with ⟨T,u,d,i⟩|⟨e,_⟩
  ·exact hr.ne_blk d rfl
  ·exact hr.2.1 e)
 have x : ∀v' F ys,w.ownsRow B 177 1 v' F ys->w'.ownsRow B 177 1 v' F ys:=fun v' F ys A=>QaD A q (fun b u j d=>l d (fun i=>i.2.2.2.2 rfl) j)
 refine⟨h.blk.fr q (l h.blk (fun i=>i.2.2.1 rfl)),h.text.far q (fun k D j=>(z N k D j).1),h.ats,h.sz,h.lim0,v h.map,h.undo.keep (C N) (Nat.le_refl _) (x _),h.redo.keep (C N) (Nat.le_refl _) (x _),h.sep,?_,Nat.le_trans h.nle q.size,h.nums,h.low⟩
 have A:=h.open_
 cases hn:st.now with
 |none=>rw[hn] at A;exact A
 |some o=>
  rw[hn] at A
  obtain⟨p,e,s,m2,vm,vs,h1,h2,K,J,G,H⟩:=A
  exact⟨p,e,s,m2,vm,vs,h1.fr q (l h1 (fun i=>i.2.2.2.1 rfl)),v h2,K.keep (C N),QaD J q (fun b u j d=>l d (fun i=>i.2.1.2.2.1 rfl) j),(G.keep (C w.heap.size).mvs).mono q.size,H⟩
theorem BkAt.alien {w w':World}{N B gb g n m:Nat}{enc lim:Int}{add vu vr:Value}{st:BkS}{t:Tr}{a:Option Addr}{xs:List Value}{now:Option Addr}{S:Nat->Prop}(h:BkAt w N B gb g enc lim n add st t a xs m vu vr now)(b:Fr S w w')
  (c : ∀k,k<w.heap.size->S k->∃T d,Blk w k T d/\QfN T):BkAt w' N B gb g enc lim n add st t a xs m vu vr now:=h.alien2 b (fun k h1 h2=>.inl (c k h1 h2))
structure DeskIs (w:World) (B gd gb g:Nat) (enc lim:Int) (n:Nat) (st:BkS) (dc:Array Value):Prop where
 desk:Blk w gd 42 dc
 c0:dc[0]? = some (.pointer (some ⟨gb,0,none⟩))
 low:B<=gd
 book:∃N add t a xs m vu vr now n',n'<=n/\BkAt w N B gb g enc lim n' add st t a xs m vu vr now
section
variable {w w':World} {B gd gb g n:Nat} {enc lim:Int} {st:BkS} {dc:Array Value}
theorem DeskIs.below (h:DeskIs w B gd gb g enc lim n st dc)(b:ZB w w'):DeskIs w' B gd gb g enc lim n st dc:=by
 obtain⟨N,add,t,a,xs,m,vu,vr,now,c,hn,d⟩:=h.book
 exact⟨h.desk.below b,h.c0,h.low,N,add,t,a,xs,m,vu,vr,now,c,hn,d.below b⟩
theorem DeskIs.blkB (h:DeskIs w B gd gb g enc lim n st dc):∃b,Blk w gb 97 b/\b[0]? = some (.pointer (some ⟨g,0,none⟩)):=by
 obtain⟨N,add,t,a,xs,m,vu,vr,now,d,hn,c⟩:=h.book
 exact⟨_,c.blk,rfl⟩
theorem DeskIs.enc4 (h:DeskIs w B gd gb g enc lim n st dc):enc=1\/enc=2\/enc=3\/enc=4:=by
 obtain⟨N,add,t,a,xs,m,vu,vr,now,c,hn,b⟩:=h.book
 exact b.text.enc4
theorem DeskIs.tags (h:DeskIs w B gd gb g enc lim n st dc):TextTag w Any g enc st.ats:=by
 obtain⟨N,add,t,a,xs,m,vu,vr,now,c,hn,b⟩:=h.book
 exact⟨lim,t,a,add,b.text.text,b.ats⟩
theorem DeskIs.at_ (h:DeskIs w B gd gb g enc lim n st dc):TextAt w Any g enc (Qb enc st.ats):=by
 obtain⟨N,add,t,a,xs,m,vu,vr,now,c,hn,b⟩:=h.book
 refine⟨lim,t,a,add,b.text.text,?_⟩
 rw[QfM b.text.enc4 b.text.tree.pcs.ok,b.ats]
theorem DeskIs.sz (h:DeskIs w B gd gb g enc lim n st dc):szS (Qb enc st.ats)<=65536/\lim<=65536/\st.last<=1073741824:=by
 obtain⟨N,add,t,a,xs,m,vu,vr,now,c,hn,b⟩:=h.book
 have:=b.sz
 rw[QfM b.text.enc4 b.text.tree.pcs.ok,b.ats] at this
 exact⟨this,b.lim0,b.nums.2.1⟩
theorem Qr (enc:Int)(ats:List (Int × Int)):(Qb enc ats).length=ats.length:=by simp[Qb,Qat]
theorem Qaq (enc:Int)(ats:List (Int × Int)):(Qb enc ats).map Prod.fst=ats.map Prod.fst:=by
 unfold Qb Qat
 rw[List.map_map]
 exact List.map_id' _
theorem Qrp {a:List (Int × Int)}(h:PosD a):(a.length:Int)<=szS a:=by
 induction a with
 |nil=>exact Int.le_refl _
 |cons p ps ih=>
  have h1:=ih (h.drop 1)
  have h2:=Qgz [p] ps
  have c:=Qe2 h 0 1 (by omega)
  have e:0<p.2:=h p List.mem_cons_self
  have b:szS [p]=p.2:=by simp[szS]
  rw[List.length_cons]
  have d:szS (p::ps)=szS [p]+szS ps:=h2
  omega
theorem DeskIs.pos (h:DeskIs w B gd gb g enc lim n st dc):PosD (Qb enc st.ats):=h.at_.pos
theorem DeskIs.len (h:DeskIs w B gd gb g enc lim n st dc):st.ats.length<=65536:=by
 have h1:=Qrp h.pos
 have h2:=h.sz.1
 rw[Qr] at h1
 omega
theorem DeskIs.set (h:DeskIs w B gd gb g enc lim n st dc){i:Nat}(d:i≠0)(u:Value):DeskIs (w.setCell ⟨gd,i,none⟩ u) B gd gb g enc lim n st (dc.setIfInBounds i u):=by
 obtain⟨N,add,t,a,xs,m,vu,vr,now,c,hn,b⟩:=h.book
 refine⟨h.desk.set_ i u,by rw[Array.getElem?_setIfInBounds_ne d];exact h.c0,h.low,N,add,t,a,xs,m,vu,vr,now,c,hn,?_⟩
 exact b.alien (show Fr (· = gd) w _ from (Fr.refl _ _).set1 i u) (fun k _ b=>⟨_,_,b▸h.desk,by decide⟩)
theorem DeskIs.alien {S:Nat->Prop}(h:DeskIs w B gd gb g enc lim n st dc)(b:Fr S w w')(c : ∀k,k<w.heap.size->S k->k≠gd/\∃T f,Blk w k T f/\QfN T):DeskIs w' B gd gb g enc lim n st dc:=by
 obtain⟨N,add,t,a,xs,m,vu,vr,now,e,hn,d⟩:=h.book
 exact⟨h.desk.fr b (fun i=>(c _ h.desk.lt i).1 rfl),h.c0,h.low,N,add,t,a,xs,m,vu,vr,now,e,hn,d.alien b (fun k h1 h2=>(c k h1 h2).2)⟩
theorem DeskIs.alien2 {S:Nat->Prop}(h:DeskIs w B gd gb g enc lim n st dc)(b:Fr S w w')(c : ∀k,k<w.heap.size->S k->k≠gd/\((∃T f,Blk w k T f/\QfN T)\/(k=st.mb/\∃es y,w.heap[k]? = some (.map es y)))):DeskIs w' B gd gb g enc lim n st dc:=by
 obtain⟨N,add,t,a,xs,m,vu,vr,now,e,hn,d⟩:=h.book
 exact⟨h.desk.fr b (fun i=>(c _ h.desk.lt i).1 rfl),h.c0,h.low,N,add,t,a,xs,m,vu,vr,now,e,hn,d.alien2 b (fun k h1 h2=>(c k h1 h2).2)⟩
theorem DeskIs.bk {b:BkS}{c:Nat}(h:DeskIs w B gd gb g enc lim n st dc)(e:BkFr B w w')(d:∃N add t a xs m vu vr now n1,n1<=c/\BkAt w' N B gb g enc lim n1 add b t a xs m vu vr now):DeskIs w' B gd gb g enc lim c b dc:=
 ⟨e.blk h.desk (by decide),h.c0,h.low,d⟩
end
section
variable {B gd gb g n:Nat} {enc lim:Int} {st:BkS} {dc:Array Value} {w:World}
theorem Qlh (h:DeskIs w B gd gb g enc lim n st dc)(hn:st.now=none){x:Int}(k:0<=x/\x<=(st.ats.length:Int)) :
  Calls Tryz.prog 90 #[.pointer (some ⟨gb,0,none⟩),.int .i64 x] w fun e w'=>e=.returned (.int .i64 0)/\DeskIs w' B gd gb g enc lim n { st with now:=some ⟨st.ats,x,[],st.state,false⟩ } dc/\BkFr B w w':=by
 obtain⟨N,add,t,a,xs,m,vu,vr,now,j,f,c⟩:=h.book
 refine(Qly N B gb g enc lim j add st t a xs m vu vr now x w c hn k).mono ?_
 rintro e w' ⟨rfl,b,d,l⟩
 have i:BkFr B w w':=BkFr.book c.blk c.low.1 l
 exact⟨rfl,h.bk i ⟨_,add,t,a,xs,m,vu,vr,b,j,f,d⟩,i⟩
def Qst (st:BkS)(o:OpS)(x:Int):BkS:=
 if o.changed=true then { st with now:=none,undo:=st.undo++[⟨o.before,st.ats,o.bgn,x,o.moves,o.old,st.last+1⟩],redo:=[],state:=st.last+1,last:=st.last+1 } else { st with now:=none }
end
def Ql4 (B gd gb g:Nat)(enc lim:Int)(st:BkS)(dc:Array Value)(X:Nat->Prop)(Act:Int->List (Int × Int)->OpS->Nat->Prop)(w1:World)(e:Ending)(c:World):Prop:=
 ∃b a o' d,Act b a o' d/\e=.returned (.int .i64 b)/\DeskIs c B gd gb g enc lim d { st with ats:=a,now:=some o' } dc/\DFr B X w1 c
def Qpc (B gd gb g:Nat)(enc lim:Int)(st:BkS)(dc:Array Value)(X:Nat->Prop)(Act:Int->List (Int × Int)->OpS->Nat->Prop)(w:World)(e:Ending)(w':World):Prop:=
 e=.returned (.int .i64 0)/\∃c a o' d,Act c a o' d/\DeskIs w' B gd gb g enc lim d (Qst { st with ats:=a,now:=some o' } o' c) (dc.setIfInBounds 2 (.int .i64 c))/\DFr B (fun b=>X b\/b=gd) w w'
theorem QfW {B gd gb g n:Nat}{enc lim:Int}{st:BkS}{dc:Array Value}{w:World}(h:DeskIs w B gd gb g enc lim n st dc):Calls Tryz.prog 88 #[.pointer (some ⟨gb,0,none⟩)] w fun e w'=>e=.returned (.bool st.now.isSome)/\w=w':=by
 obtain⟨N,add,t,a,xs,m,vu,vr,now,f,d,b⟩:=h.book
 have c:st.now.isSome=now.isSome:=by
  have:=b.open_
  cases hn:st.now with
  |none=>rw[hn] at this;rw[this];rfl
  |some o=>rw[hn] at this;obtain⟨p,e,_⟩:=this;rw[e];rfl
 rw[c]
 exact Qlu gb _ now w b.blk (by simp)
def QrB (xs:List Int)(w0:World)(k:Nat)(b d c:Value)(wr:World):Prop:=
 ∃(i:Nat) (a:Int),c=.int .i64 (i:Int)/\b=.int .i64 a/\i<=xs.length/\xs.length-i<=k/\Hid (wr.ownsRow w0.heap.size 3 1 d i ((xs.take i).map (Value.int .i64)))/\ZB w0 wr
theorem QiJ (D:Nat->Prop)(g:Nat)(enc:Int)(K:List (Int × Int))(at_ b:Int)(A:Option Addr)(n c:Nat)(xs:List Int)(w:World)(h:TextAt w D g enc K)(a6:0<=at_/\at_<=(K.length:Int))(t:b=1\/b=2\/b=3)(I:Ints w Any A n xs)(hn:n<=1073741824)(O : ∀x ∈ xs,x≠10) :
    Calls Tryz.prog 109 #[.pointer (some ⟨g,0,none⟩),.int .i64 at_,.slice A n c,.int .i64 b] w fun e w'=>∃v,e=.returned (.tuple #[v,.int .i64 0])/\w'.ownsRow w.heap.size 3 1 v n (xs.map (Value.int .i64))/\ZB w w':=by
  have Z:=h.len
  have p:=I.len
  have F:=fun(w':World) (t:ZB w w')=>QaS D g enc K w' (h.below t)
  have q:=fun(w':World) (t:ZB w w')=>Qap D g enc K (at_-1) (at_+1) w' (h.below t) (by omega) (by omega)
  have o:0<at_->0<(seg (at_-1) (at_+1) (K.map Prod.fst)).length:=fun Q=>by
    have e:(((at_+1)-(at_-1)).toNat)=2:=by omega
    unfold seg
    rw[List.length_take,List.length_drop,List.length_map]
    omega
  obtain⟨S,hS⟩:=ZN (seg (at_-1) (at_+1) (K.map Prod.fst))
  have J:S.length<=1073741824:=by rw[<-hS];unfold seg;rw[List.length_take,List.length_drop,List.length_map];omega
  rw[hS] at q o
  obtain⟨m,hm⟩:=ZN (K.length)
  rw[hm] at F a6 Z
  have q1:(at_<0)=False:=by simp;omega
  have q2:((m:Int)<at_)=False:=by simp;omega
  have w1:IntKind.i64.wrap (at_-1)=at_-1:=IntWalk.i64_in _ (by omega)
  have w2:IntKind.i64.wrap (at_+1)=at_+1:=IntWalk.i64_in _ (by omega)
  obtain⟨i0,L,U,a1,V⟩:=info_parts Qa3
  have W:=Zh F
  have Y:=Zh q
  have a2:=Zh o
  have a7:=Zh O
  have HX:=Zh I
  have M:=Zh p
  clear F q o hS hm h O I p
  rcases t with rfl|rfl|rfl
  all_goals
    go_enter Tryz.func109,Tryz.ntmps109
    go_wp2_with fail
    refine(W.out _ ?_).mono ?_
    · first
        |exact Qa (Below.refl _ _)
        |exact Qa (Qa (Below.refl _ _))
    rintro e wa ⟨rfl,H⟩
    have B:ZB w wa:=by
      first
        |exact Qf (Qa (Below.refl _ _)) H
        |exact Qf (Qa (Qa (Below.refl _ _))) H
    clear H
    go_wp2_with fail
    refine(Y.out _ B).mono ?_
    rintro e wb ⟨v,rfl,d,P⟩
    obtain⟨A1,c1,rfl,a0⟩:=Qj d
    have hI:Ints wb Any A1 S.length S:=Reads.more (Reads.of_own d) (fun _ _ _=>trivial) (by decide)
    have a3:=Qf B P
    clear d P B W Y
    obtain⟨N,hN⟩:=ZN (S.length)
    have o:=a2.out
    rw[hN] at hI a0 J o ⊢
    have E:=Zh hI
    clear hN a2 hI
    have a8:=Zh a3
    clear a3
    go_upto_if 42 with fail
    go_cut [11,12] (fun a4 b7 wx=>∃(A2:Option Addr) (G c2:Nat) (l2:List Int) (a:Int),a4=.slice A2 G c2/\b7=.int .i64 a/\Hid (Ints wx Any A2 G l2)/\G<=1073741824/\wx=wb)
    case first=>
      by_cases Q:0<at_
      · have y:=o Q
        obtain⟨bA,oA,rfl,_,cA⟩:=QbH E.out y
        have c0:=cA 0 y
        rw[Nat.add_zero] at c0
        obtain⟨a,ha⟩:=ZN (S.getD 0 0)
        rw[ha] at c0
        have p1:((1:Int)<=(N:Int))=True:=by simp;omega
        have p2:1<=N:=y
        have p3:(0:Int)<(N:Int):=by omega
        have p4:((N:Int)<=(c1:Int))=True:=by simp;omega
        clear ha
        go_wp2_with fail
        all_goals
          go_meet
          refine⟨_,N-1,_,S.drop 1,a,rfl,rfl,Zh ⟨by rw[List.length_map,List.length_drop,E.out.len,Nat.mul_one],fun h1=>?_⟩,by omega,rfl⟩
          first
            |(exfalso;omega)
            | (refine⟨_,rfl,trivial,fun j u hu=>?_⟩
               rw[List.getElem?_map,List.getElem?_drop] at hu
               have hj:1+j<N:=by
                 rcases Nat.lt_or_ge (1+j) N with h2|h2
                 · exact h2
                 · rw[List.getElem?_eq_none (by rw[E.out.len];omega)] at hu
                   cases hu
               have:=cA (1+j) hj
               rw[QaF,show oA+1+j=oA+(1+j) by omega,this]
               rw[List.getElem?_eq_getElem (by rw[E.out.len];omega)] at hu
               rw[List.getD_eq_getElem?_getD,List.getElem?_eq_getElem (by rw[E.out.len];omega)]
               simpa using hu)
      · go_wp2_with fail
        go_meet
        exact⟨A1,N,c1,S,0,rfl,rfl,E,J,rfl⟩
    case rest=>
      obtain⟨A2,G,c2,l2,a,rfl,rfl,T,b2,rfl⟩:=hcut
      clear E o J a0
      go_upto_if 50 with fail
      go_cut [13] (fun s wx=>∃z:Int,s=.int .i64 z/\wx=wc)
      case first=>
        by_cases Q:0<G
        · obtain⟨bA,oA,rfl,_,cA⟩:=QbH T.out Q
          have c0:=cA 0 Q
          rw[Nat.add_zero] at c0
          obtain⟨z,hz⟩:=ZN (l2.getD 0 0)
          rw[hz] at c0
          have p3:(0:Int)<(G:Int):=by omega
          clear hz
          go_wp2_with fail
          go_meet
          exact⟨_,rfl,rfl⟩
        · have p3:((0:Int)<(G:Int))=False:=by simp;omega
          go_wp2_with fail
          go_meet
          exact⟨0,rfl,rfl⟩
      case rest=>
        obtain⟨z,rfl,rfl⟩:=hcut
        clear T b2
        go_wp2_with fail
        go_loopg [12,14,56] n (fun k b5 b4 b6 wr=>QrB xs w k b5 b4 b6 wr)
        case atStart=>exact⟨0,a,rfl,rfl,Nat.zero_le _,by rw[M.out];omega,Zh (World.ownsRow_nil _ _ _ _),a8.out⟩
        case round=>
          obtain⟨i,a',rfl,rfl,hi,hk,d,t⟩:=hrel
          have p:=M.out
          rw[p] at hi hk
          by_cases hgo:i<n
          · obtain⟨ad,rfl,_,cx⟩:=Ints.at_ (Reads.below HX.out t) hgo
            have r:xs.getD i 0≠10:=a7.out _ (by rw[List.getD_eq_getElem?_getD,List.getElem?_eq_getElem (by omega)];exact List.getElem_mem _)
            obtain⟨x,I⟩:=ZN (xs.getD i 0)
            rw[I] at cx r
            have q3:((i:Int)<(n:Int))=True:=by simp;omega
            have q4:(x != 10)=true:=by rw[bne_iff_ne];exact r
            have a5:=Zh I
            have l:=Zh p
            have y:=t.size
            clear I r p
            go_wp2_with (at_builtin;refine wpList_append_own_at _ rfl (.tmp 67) (.tmp 69) 36 rfl w.heap.size 3 i0 (.int .i64 0) 1 8 Tryz.underlying36 L U a1 V rfl (by decide) u14 i _ rfl (d.out.alloc _) ⟨wr.heap.size,0,none⟩ 1 1 [.int .i64 x] rfl rfl (cell_one_new _ _ _) (by simp[Value.oneCell']) (by unfold maxLen;omega) (by omega) (by simp;omega) ?_)
            intro v1 w4 f X _ _
            have b3:ZB w w4:=Qy (Qa t) X (fun k hk=>QaV d.out hk)
            obtain⟨A4,c4,rfl,b9⟩:=Qj f
            have C:=Reads.of_own f
            have e0:(xs.map (Value.int .i64)).take i++[.int .i64 x]=(xs.take i++[x]).map (Value.int .i64):=by simp[List.map_take]
            rw[e0] at C f
            have b1:=Ints.at_ (show Ints w4 _ A4 (i+1) (xs.take i++[x]) from C) (k:=i) (by omega)
            obtain⟨b8,rfl,_,a9⟩:=b1
            have R:((xs.take i)++[x]).getD i 0=x:=by
              rw[List.getD_eq_getElem?_getD,List.getElem?_append_right (by rw[List.length_take];omega),List.length_take,Nat.min_eq_left (by rw[l.out];omega),Nat.sub_self]
              rfl
            rw[R] at a9
            have wi:IntKind.i64.wrap (((i+1:Nat):Int)-1)=(i:Int):=by rw[IntWalk.i64_in _ (by omega)];omega
            have p1:(i:Int)<((i+1:Nat):Int):=by omega
            have p2:(0:Int)<=(i:Int):=by omega
            have HO:=Zh f
            clear f X cx R d L U a1 V q4 C e0
            go_wp2_with fail
            go_roundg (n-(i+1))
            case measure=>omega
            case rel=>
              refine⟨i+1,x,by simp,rfl,by rw[l.out];omega,by rw[l.out];omega,Zh ?_,b3⟩
              rw[List.take_succ_eq_append_getElem (by rw[l.out];omega)]
              have e1:xs[i]'(by rw[l.out];omega)=x:=by
                have:=a5.out
                rw[List.getD_eq_getElem?_getD,List.getElem?_eq_getElem (by rw[l.out];omega)] at this
                simpa using this
              rw[e1]
              exact HO.out
          · have q3:((i:Int)<(n:Int))=False:=by simp;omega
            have b0:i=n:=by omega
            subst b0
            have ho:=d.out
            rw[List.take_of_length_le (by omega)] at ho
            have HO:=Zh ho
            clear ho d
            go_wp2_with fail
            refine bodyPost_ret (v:=.tuple #[u14,.int .i64 0]) (by simp[results,Tryz.results109,go_sem]) rfl ?_
            exact⟨u14,rfl,HO.out,t⟩
end Go.Proofs.YtgiihhikdoikgaaGreat
