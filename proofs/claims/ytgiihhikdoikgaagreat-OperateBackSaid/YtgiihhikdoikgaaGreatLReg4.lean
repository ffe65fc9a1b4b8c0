/-
  A bank of registers in memory; refuse, store, keep.
-/
import Derived.Test.YtgiihhikdoikgaaGreatLShift1
set_option linter.unusedSimpArgs false
set_option linter.unusedVariables false
set_option maxRecDepth 100000
set_option maxHeartbeats 32000000
namespace Go.Proofs.YtgiihhikdoikgaaGreat
open Go.RowKit
def QaC (n:Int):(Int × Bool) × Bool:=
 if (97<=n/\n<=122)\/(48<=n/\n<=57) then ((n,false),true)
 else if 65<=n/\n<=90 then ((n+32,true),true)
 else if n=0\/n=34 then ((34,false),true)
 else if n=45\/n=95\/n=46\/n=58\/n=47 then ((n,false),true)
 else ((0,false),false)
def Qjq (s:Int × Bool):Value:=.agg #[.int .i64 s.1,.bool s.2]
theorem Qhm (n:Int)(w:World) :
  Calls Tryz.prog 71 #[.int .i64 n] w fun e w'=>e=.returned (.tuple #[Qjq (QaC n).1,.bool (QaC n).2])/\ZB w w':=by
 have j : ∀(K:Int) (F OK:Bool) (w':World),QaC n=((K,F),OK)->ZB w w'->(Ending.returned (.tuple #[.agg #[.int .i64 K,.bool F],.bool OK])=.returned (.tuple #[Qjq (QaC n).1,.bool (QaC n).2])/\ZB w w'):=fun K F OK w' h q=>⟨by rw[h];rfl,q⟩
 have f:=Zh j
 have k : ∀(K:Int) (F:Bool),ZB w (w.alloc (.cells #[.int .i64 K,.bool F] 120))/\(w.alloc (.cells #[.int .i64 K,.bool F] 120)).cell? ⟨w.heap.size,0,none⟩=some (.int .i64 K)/\(w.alloc (.cells #[.int .i64 K,.bool F] 120)).cell? ⟨w.heap.size,1,none⟩=some (.bool F):=fun K F=>
  ⟨Qa (Below.refl _ _),(Blk.new w 120 #[.int .i64 K,.bool F]).cell 0,(Blk.new w 120 #[.int .i64 K,.bool F]).cell 1⟩
 have g:=Zh k
 clear j k
 by_cases e0:n=0
 ·subst e0
  obtain⟨b,a,c⟩:=g.out 34 false
  go_enter Tryz.func71,Tryz.ntmps71
  go_wp2_with fail
  exact bodyPost_ret (v:=.tuple #[.agg #[.int .i64 34,.bool false],.bool true]) (by simp[results,Tryz.results71,go_sem,a,c]) rfl (f.out _ _ _ _ (by decide) b)
 by_cases e34:n=34
 ·subst e34
  obtain⟨b,a,c⟩:=g.out 34 false
  go_enter Tryz.func71,Tryz.ntmps71
  go_wp2_with fail
  exact bodyPost_ret (v:=.tuple #[.agg #[.int .i64 34,.bool false],.bool true]) (by simp[results,Tryz.results71,go_sem,a,c]) rfl (f.out _ _ _ _ (by decide) b)
 by_cases e45:n=45
 ·subst e45
  obtain⟨b,a,c⟩:=g.out 45 false
  go_enter Tryz.func71,Tryz.ntmps71
  go_wp2_with fail
  exact bodyPost_ret (v:=.tuple #[.agg #[.int .i64 45,.bool false],.bool true]) (by simp[results,Tryz.results71,go_sem,a,c]) rfl (f.out _ _ _ _ (by decide) b)
 by_cases e95:n=95
 ·subst e95
  obtain⟨b,a,c⟩:=g.out 95 false
  go_enter Tryz.func71,Tryz.ntmps71
  go_wp2_with fail
  exact bodyPost_ret (v:=.tuple #[.agg #[.int .i64 95,.bool false],.bool true]) (by simp[results,Tryz.results71,go_sem,a,c]) rfl (f.out _ _ _ _ (by decide) b)
 by_cases e46:n=46
 ·subst e46
  obtain⟨b,a,c⟩:=g.out 46 false
  go_enter Tryz.func71,Tryz.ntmps71
  go_wp2_with fail
  exact bodyPost_ret (v:=.tuple #[.agg #[.int .i64 46,.bool false],.bool true]) (by simp[results,Tryz.results71,go_sem,a,c]) rfl (f.out _ _ _ _ (by decide) b)
 by_cases e58:n=58
 ·subst e58
  obtain⟨b,a,c⟩:=g.out 58 false
  go_enter Tryz.func71,Tryz.ntmps71
  go_wp2_with fail
  exact bodyPost_ret (v:=.tuple #[.agg #[.int .i64 58,.bool false],.bool true]) (by simp[results,Tryz.results71,go_sem,a,c]) rfl (f.out _ _ _ _ (by decide) b)
 by_cases e47:n=47
 ·subst e47
  obtain⟨b,a,c⟩:=g.out 47 false
  go_enter Tryz.func71,Tryz.ntmps71
  go_wp2_with fail
  exact bodyPost_ret (v:=.tuple #[.agg #[.int .i64 47,.bool false],.bool true]) (by simp[results,Tryz.results71,go_sem,a,c]) rfl (f.out _ _ _ _ (by decide) b)
 have B:(n==0)=false:=by rw[beq_eq_false_iff_ne];exact e0
 have A:(n==34)=false:=by rw[beq_eq_false_iff_ne];exact e34
 have y:(n==45)=false:=by rw[beq_eq_false_iff_ne];exact e45
 have x:(n==95)=false:=by rw[beq_eq_false_iff_ne];exact e95
 have u:(n==46)=false:=by rw[beq_eq_false_iff_ne];exact e46
 have r:(n==58)=false:=by rw[beq_eq_false_iff_ne];exact e58
 have s:(n==47)=false:=by rw[beq_eq_false_iff_ne];exact e47
 by_cases h97:97<=n
 ·have z:(97<=n)=True:=by simp;exact h97
  by_cases h122:n<=122
  ·have t:(n<=122)=True:=by simp;exact h122
   obtain⟨b,a,c⟩:=g.out n false
   have d:QaC n=((n,false),true):=by unfold QaC;rw[if_pos (.inl ⟨h97,h122⟩)]
   have i:=Zh d
   clear d h97 h122 e0 e34 e45 e95 e46 e58 e47
   go_enter Tryz.func71,Tryz.ntmps71
   go_wp2_with fail
   exact bodyPost_ret (v:=.tuple #[.agg #[.int .i64 n,.bool false],.bool true]) (by simp[results,Tryz.results71,go_sem,a,c]) rfl (f.out _ _ _ _ i.out b)
  ·have t:(n<=122)=False:=by simp;omega
   have p:(48<=n)=True:=by simp;omega
   have m:(n<=57)=False:=by simp;omega
   have l:(65<=n)=True:=by simp;omega
   have o:(n<=90)=False:=by simp;omega
   obtain⟨b,a,c⟩:=g.out 0 false
   have d:QaC n=((0,false),false):=by unfold QaC;rw[if_neg (by omega),if_neg (by omega),if_neg (by omega),if_neg (by omega)]
   have i:=Zh d
   clear d h97 h122 e0 e34 e45 e95 e46 e58 e47
   go_enter Tryz.func71,Tryz.ntmps71
   go_wp2_with fail
   exact bodyPost_ret (v:=.tuple #[.agg #[.int .i64 0,.bool false],.bool false]) (by simp[results,Tryz.results71,go_sem,a,c]) rfl (f.out _ _ _ _ i.out b)
 ·have z:(97<=n)=False:=by simp;omega
  by_cases h48:48<=n
  ·have p:(48<=n)=True:=by simp;exact h48
   by_cases h57:n<=57
   ·have m:(n<=57)=True:=by simp;exact h57
    obtain⟨b,a,c⟩:=g.out n false
    have d:QaC n=((n,false),true):=by unfold QaC;rw[if_pos (.inr ⟨h48,h57⟩)]
    have i:=Zh d
    clear d h97 h48 h57 e0 e34 e45 e95 e46 e58 e47
    go_enter Tryz.func71,Tryz.ntmps71
    go_wp2_with fail
    exact bodyPost_ret (v:=.tuple #[.agg #[.int .i64 n,.bool false],.bool true]) (by simp[results,Tryz.results71,go_sem,a,c]) rfl (f.out _ _ _ _ i.out b)
   ·have m:(n<=57)=False:=by simp;omega
    by_cases h65:65<=n
    ·have l:(65<=n)=True:=by simp;exact h65
     by_cases h90:n<=90
     ·have o:(n<=90)=True:=by simp;exact h90
      have w1:IntKind.i64.wrap (n+97)=n+97:=IntWalk.i64_in _ (by omega)
      have C:IntKind.i64.wrap (n+97-65)=n+32:=by rw[IntWalk.i64_in _ (by omega)];omega
      obtain⟨b,a,c⟩:=g.out (n+32) true
      have d:QaC n=((n+32,true),true):=by unfold QaC;rw[if_neg (by omega),if_pos ⟨h65,h90⟩]
      have i:=Zh d
      clear d h97 h48 h57 h65 h90 e0 e34 e45 e95 e46 e58 e47
      go_enter Tryz.func71,Tryz.ntmps71
      go_wp2_with fail
      exact bodyPost_ret (v:=.tuple #[.agg #[.int .i64 (n+32),.bool true],.bool true]) (by simp[results,Tryz.results71,go_sem,a,c]) rfl (f.out _ _ _ _ i.out b)
     ·have o:(n<=90)=False:=by simp;omega
      obtain⟨b,a,c⟩:=g.out 0 false
      have d:QaC n=((0,false),false):=by unfold QaC;rw[if_neg (by omega),if_neg (by omega),if_neg (by omega),if_neg (by omega)]
      have i:=Zh d
      clear d h97 h48 h57 h65 h90 e0 e34 e45 e95 e46 e58 e47
      go_enter Tryz.func71,Tryz.ntmps71
      go_wp2_with fail
      exact bodyPost_ret (v:=.tuple #[.agg #[.int .i64 0,.bool false],.bool false]) (by simp[results,Tryz.results71,go_sem,a,c]) rfl (f.out _ _ _ _ i.out b)
    ·have l:(65<=n)=False:=by simp;omega
     obtain⟨b,a,c⟩:=g.out 0 false
     have d:QaC n=((0,false),false):=by unfold QaC;rw[if_neg (by omega),if_neg (by omega),if_neg (by omega),if_neg (by omega)]
     have i:=Zh d
     clear d h97 h48 h57 h65 e0 e34 e45 e95 e46 e58 e47
     go_enter Tryz.func71,Tryz.ntmps71
     go_wp2_with fail
     exact bodyPost_ret (v:=.tuple #[.agg #[.int .i64 0,.bool false],.bool false]) (by simp[results,Tryz.results71,go_sem,a,c]) rfl (f.out _ _ _ _ i.out b)
  ·have p:(48<=n)=False:=by simp;omega
   have l:(65<=n)=False:=by simp;omega
   obtain⟨b,a,c⟩:=g.out 0 false
   have d:QaC n=((0,false),false):=by unfold QaC;rw[if_neg (by omega),if_neg (by omega),if_neg (by omega),if_neg (by omega)]
   have i:=Zh d
   clear d h97 h48 e0 e34 e45 e95 e46 e58 e47
   go_enter Tryz.func71,Tryz.ntmps71
   go_wp2_with fail
   exact bodyPost_ret (v:=.tuple #[.agg #[.int .i64 0,.bool false],.bool false]) (by simp[results,Tryz.results71,go_sem,a,c]) rfl (f.out _ _ _ _ i.out b)
theorem QhT (w:World):(w.alloc (.cells #[] 3)).ownsRow w.heap.size 3 1 (.slice (some ⟨w.heap.size,0,none⟩) 0 0) 0 []:=
 ⟨rfl,.inr ⟨w.heap.size,0,#[],rfl,Nat.le_refl _,heap_alloc_new w _,Nat.le_refl _,Nat.zero_le _,rfl,rfl⟩⟩
theorem QeW (A:Option Addr)(n c:Nat)(w:World):(binOp BinOp.eql 36 (.slice A n c) (.slice none 0 0)).run Tryz.prog w=.ok (.bool A.isNone) w:=by
 cases A<;>kernel_rfl
theorem Qif (A:Option Addr)(n c:Nat)(l:List Int)(w:World)(d:IntsI w A n l)(hn:n<=268435456) :
  Calls Tryz.prog 72 #[.slice A n c] w (NewInts l w):=by
 have a:=d.any.len
 cases A with
 |none=>
  have y:n=0:=by
   rcases Nat.eq_zero_or_pos n with h|h
   ·exact h
   ·obtain⟨v,h1,_⟩:=d.2 h
    cases h1
  subst y
  have s:=Zh d
  have f:=QeW none 0 c w
  clear d a
  go_enter Tryz.func72,Tryz.ntmps72
  go_wp2_with fail
  go_ret
  have o:l=[]:=List.eq_nil_of_length_eq_zero (by have:=s.out.any.len;omega)
  subst o
  exact⟨_,rfl,World.ownsRow_nil _ _ _ _,Below.refl _ _⟩
 |some v=>
  obtain⟨F,e,q,t,r⟩:=info_parts Qa3
  have z:=Zh e
  have s:=Zh d
  have p:=Zh a
  have f:=QeW (some v) n c w
  clear d a e
  go_enter Tryz.func72,Tryz.ntmps72
  go_wp2_with (at_builtin;refine Qbg _ rfl (.tmp 5) (.tmp 6) 36 rfl w.heap.size 3 F (.int .i64 0) 1 8 Tryz.underlying36 z.out q t r rfl (by decide) (.slice (some ⟨w.heap.size,0,none⟩) 0 0) 0 [] rfl (QhT w) (fun b=>∃G,Blk (w.alloc (.cells #[] 3)) b 3 G) (some v) n c (l.map (Value.int .i64)) rfl (s.out.bel (Qa (Below.refl _ _))) (by intro u D;obtain⟨x,_,rfl⟩:=List.mem_map.1 D;rfl) (by unfold maxLen;omega) (by omega) (by simp) ?_)
  intro C B g j _
  have m:ZB w B:=Qy (Qa (Below.refl _ _)) j (fun k E=>QaV (QhT w) E)
  have i:B.ownsRow w.heap.size 3 1 C n (l.map (Value.int .i64)):=by simpa using g
  have H:=Zh i
  clear g i j
  go_wp2_with fail
  go_ret
  exact⟨_,rfl,by rw[p.out];exact H.out,m⟩
def lbF (l:List Int):Nat:=
 if 1<l.length/\l.getD (l.length-2) 0=13/\l.getD (l.length-1) 0=10 then 2 else if 0<l.length/\(l.getD (l.length-1) 0=10\/l.getD (l.length-1) 0=13) then 1 else 0
def LbPost (l:List Int)(n:Nat)(w:World)(e:Ending)(w':World):Prop:=
 ∃v,e=.returned v/\(lbF l=0->v=.slice none 0 0)/\(lbF l≠0->∃a c',v=.slice (some a) (lbF l) c'/\lbF l<=c'/\IntsI w (some a) (lbF l) (l.drop (n-lbF l)))/\w'=w
theorem LbPost.zero {l:List Int}{n:Nat}{w:World}(h:lbF l=0):LbPost l n w (.returned (.slice none 0 0)) w:=⟨_,rfl,fun _=>rfl,fun a=>absurd h a,rfl⟩
theorem LbPost.some {l:List Int}{n k:Nat}{w:World}{b:Addr}{c:Nat}(h:lbF l=k)(o:0<k)(hn:k<=n)(i:IntsI w (some b) n l)(d:n<=c):LbPost l n w (.returned (.slice (some (b.add (n-k))) (n-(n-k)) (c-(n-k)))) w:=by
 rw[show n-(n-k)=k by omega]
 refine⟨_,rfl,fun m=>by omega,fun _=>⟨b.add (n-k),c-(n-k),by rw[h],by omega,?_⟩,rfl⟩
 rw[h]
 obtain⟨h1,h2⟩:=i
 obtain⟨g,e,f,d⟩:=h2 (by omega)
 injection e with e
 subst e
 refine⟨?_,fun _=>⟨_,rfl,by rw[Q4];exact f,fun j u a=>?_⟩⟩
 ·rw[List.length_map] at h1 ⊢
  rw[List.length_drop]
  omega
 ·rw[Qgb]
  exact d (n-k+j) u (by rw[List.getElem?_map] at a ⊢;rw[List.getElem?_drop] at a;exact a)
theorem Qhb (A:Option Addr)(n c:Nat)(l:List Int)(w:World)(i:IntsI w A n l)(hn:n<=268435456)(k:n<=c) :
  Calls Tryz.prog 122 #[.slice A n c] w (LbPost l n w):=by
 have e:=i.any.len
 rcases Nat.eq_zero_or_pos n with s|s
 ·have a:lbF l=0:=by unfold lbF;rw[if_neg (by omega),if_neg (by omega)]
  subst s
  have d:=Zh a
  clear i e a
  go_enter Tryz.func122,Tryz.ntmps122
  go_wp2_with fail
  go_ret
  exact LbPost.zero d.out
 ·obtain⟨y,j⟩:=ZN (l.getD (n-1) 0)
  obtain⟨K,rfl,_,cy⟩:=Ints.at_ i.any (show n-1<n by omega)
  rw[j] at cy
  have w1:IntKind.i64.wrap ((n:Int)-1)=((n-1:Nat):Int):=by rw[IntWalk.i64_in _ (by omega)];omega
  have C:((0:Int)<(n:Int))=True:=by simp;omega
  have F:n-1<n:=by omega
  have E:(0:Int)<=((n-1:Nat):Int):=by omega
  have M:((n-1:Nat):Int)<(n:Int):=by omega
  have J:((n-1:Nat):Int)<=(n:Int):=by omega
  have H:(n:Int)<=(c:Int):=by omega
  have G:((n-1:Nat):Int)<=(c:Int):=by omega
  have r:=Zh i
  have u:=Zh e
  have I:=Zh j
  rcases(show n<=1\/1<n by omega) with m|m
  ·obtain rfl:n=1:=by omega
   rw[show 1-1=0 from rfl,add_zero] at cy
   have f:lbF l=if y=10\/y=13 then 1 else 0:=by
    unfold lbF
    rw[if_neg (by omega),e,j]
    by_cases h:y=10\/y=13
    ·rw[if_pos ⟨by omega,h⟩,if_pos h]
    ·rw[if_neg (fun o=>h o.2),if_neg h]
   have b:=Zh f
   clear i e j f w1 C F E M J H G m s u I
   have Q:1<=c:=k
   have g : ∀(h:lbF l=1),LbPost l 1 w (.returned (.slice (some K) 1 c)) w:=fun h=>by
    have:=LbPost.some h (by decide) (Nat.le_refl 1) r.out k
    rw[Nat.sub_self,add_zero] at this
    exact this
   have q:=Zh g
   clear g
   by_cases y10:y=10
   ·have a:lbF l=1:=by rw[b.out,if_pos (.inl y10)]
    have d:=Zh a
    clear a
    subst y10
    go_enter Tryz.func122,Tryz.ntmps122
    go_wp2_with fail
    go_ret
    exact q.out d.out
   ·have B:(y==10)=false:=by rw[beq_eq_false_iff_ne];exact y10
    by_cases y13:y=13
    ·have a:lbF l=1:=by rw[b.out,if_pos (.inr y13)]
     have d:=Zh a
     clear a
     subst y13
     go_enter Tryz.func122,Tryz.ntmps122
     go_wp2_with fail
     go_ret
     exact q.out d.out
    ·have L:(y==13)=false:=by rw[beq_eq_false_iff_ne];exact y13
     have a:lbF l=0:=by rw[b.out,if_neg (by omega)]
     have d:=Zh a
     clear a
     go_enter Tryz.func122,Tryz.ntmps122
     go_wp2_with fail
     go_ret
     exact LbPost.zero d.out
  ·have T:((1:Int)<(n:Int))=True:=by simp;omega
   obtain⟨x,t⟩:=ZN (l.getD (n-2) 0)
   obtain⟨D,z,_,cx⟩:=Ints.at_ i.any (show n-2<n by omega)
   injection z with z
   subst z
   rw[t] at cx
   have P:IntKind.i64.wrap ((n:Int)-2)=((n-2:Nat):Int):=by rw[IntWalk.i64_in _ (by omega)];omega
   have O:n-2<n:=by omega
   have N:(0:Int)<=((n-2:Nat):Int):=by omega
   have U:((n-2:Nat):Int)<(n:Int):=by omega
   have R:((n-2:Nat):Int)<=(n:Int):=by omega
   have S:((n-2:Nat):Int)<=(c:Int):=by omega
   have f:lbF l=if x=13/\y=10 then 2 else if y=10\/y=13 then 1 else 0:=by
    unfold lbF
    rw[e,t,j]
    by_cases h:x=13/\y=10
    ·rw[if_pos ⟨by omega,h⟩,if_pos h]
    ·rw[if_neg (fun o=>h o.2),if_neg h]
     by_cases h:y=10\/y=13
     ·rw[if_pos ⟨by omega,h⟩,if_pos h]
     ·rw[if_neg (fun o=>h o.2),if_neg h]
   have b:=Zh f
   clear i e j t f
   by_cases y10:y=10
   ·by_cases x13:x=13
    ·have a:lbF l=2:=by rw[b.out,if_pos ⟨x13,y10⟩]
     have d:=Zh a
     clear a
     subst y10 x13
     go_enter Tryz.func122,Tryz.ntmps122
     go_wp2_with fail
     go_ret
     exact LbPost.some d.out (by decide) (by omega) r.out k
    ·have B:(x==13)=false:=by rw[beq_eq_false_iff_ne];exact x13
     have a:lbF l=1:=by rw[b.out,if_neg (fun h=>x13 h.1),if_pos (.inl y10)]
     have d:=Zh a
     clear a
     subst y10
     go_enter Tryz.func122,Tryz.ntmps122
     go_wp2_with fail
     go_ret
     exact LbPost.some d.out (by decide) (by omega) r.out k
   ·have B:(y==10)=false:=by rw[beq_eq_false_iff_ne];exact y10
    have p:(x==13)=true\/(x==13)=false:=by cases (x==13)<;>simp
    by_cases y13:y=13
    ·have a:lbF l=1:=by rw[b.out,if_neg (fun h=>y10 h.2),if_pos (.inr y13)]
     have d:=Zh a
     clear a
     subst y13
     rcases p with v|v
     all_goals
      go_enter Tryz.func122,Tryz.ntmps122
      go_wp2_with fail
      go_ret
      exact LbPost.some d.out (by decide) (by omega) r.out k
    ·have L:(y==13)=false:=by rw[beq_eq_false_iff_ne];exact y13
     have a:lbF l=0:=by rw[b.out,if_neg (fun h=>y10 h.2),if_neg (by omega)]
     have d:=Zh a
     clear a
     rcases p with v|v
     all_goals
      go_enter Tryz.func122,Tryz.ntmps122
      go_wp2_with fail
      go_ret
      exact LbPost.zero d.out
def wrF (kd:Int)(l:List Int):List Int:=if kd=1/\lbF l=0 then l++[10] else l
theorem Qp {w:World}{g:Nat}{T:TypeId}{a b:Value}(h:Blk w g T #[a,b]):(w.cell? ⟨g,0,none⟩=some a/\w.cell? ⟨g,1,none⟩=some b)/\w.frozen? ⟨g,0,none⟩=false/\w.frozen? ⟨g,1,none⟩=false:=⟨⟨h.cell 0,h.cell 1⟩,h.frozen 0,h.frozen 1⟩
def Qp6 (kd:Int)(l:List Int)(w:World)(e:Ending)(w':World):Prop:=∃v,e=.returned (.agg #[.int .i64 kd,v])/\w'.ownsRow w.heap.size 3 1 v l.length (l.map (Value.int .i64))/\ZB w w'
theorem QdO {w:World}{B a:Nat}{e:TypeId}{size n:Nat}{v:Value}{xs:List Value}(h:w.ownsRow a e size v n xs)(b:B<=a):w.ownsRow B e size v n xs:=by
 refine⟨h.1,?_⟩
 rcases h.2 with h2|⟨g,c,cur,d,h1,h2⟩
 ·exact .inl h2
 ·exact .inr ⟨g,c,cur,d,Nat.le_trans b h1,h2⟩
theorem Qjz {w w0 w1:World}{b:Nat}{kd:Int}{v:Value}{l:List Int}(a:ZB w w0)(j:w.heap.size<=b)(f:b<w0.heap.size)(c:w1.ownsRow w0.heap.size 3 1 v l.length (l.map (Value.int .i64)))(e:ZB w0 w1) :
  Qp6 kd l w (.returned (.agg #[.int .i64 kd,v])) ((w1.setCell ⟨b,0,none⟩ (.int .i64 kd)).setCell ⟨b,1,none⟩ v):=by
 have d:Fr (· = b) w1 ((w1.setCell ⟨b,0,none⟩ (.int .i64 kd)).setCell ⟨b,1,none⟩ v):=((Fr.refl _ _).set1 0 _).set1 1 _
 refine⟨v,rfl,?_,bfr (Qf a e) d (fun i h=>by omega)⟩
 refine QeE (QdO c a.size) d (fun q g k=>?_)
 have:=QaV c g
 omega
theorem Qfn (kd:Int)(A:Option Addr)(n c:Nat)(l:List Int)(w:World)(Z:IntsI w A n l)(hn:n<=268435000) :
  Calls Tryz.prog 78 #[.agg #[.int .i64 kd,.slice A n c]] w (Qp6 kd (wrF kd l) w):=by
 have Q:=Z.any.len
 have j:ZB w ((w.alloc (.cells #[.int .i64 kd,.slice A n c] 66)).alloc (.cells #[.int .i64 0,.slice none 0 0] 66)):=Qa (Qa (Below.refl _ _))
 have U:Blk ((w.alloc (.cells #[.int .i64 kd,.slice A n c] 66)).alloc (.cells #[.int .i64 0,.slice none 0 0] 66)) w.heap.size 66 #[.int .i64 kd,.slice A n c]:=(Blk.new w _ _).alloc _
 have k2:Blk ((w.alloc (.cells #[.int .i64 kd,.slice A n c] 66)).alloc (.cells #[.int .i64 0,.slice none 0 0] 66)) (w.heap.size+1) 66 #[.int .i64 0,.slice none 0 0]:=Blk.new' (by simp)
 have B:=Zh (Qif A n c l _ (Z.bel j) (by omega))
 have o:((w.alloc (.cells #[.int .i64 kd,.slice A n c] 66)).alloc (.cells #[.int .i64 0,.slice none 0 0] 66)).heap.size=w.heap.size+2:=by simp
 have a0:=Zh Q
 clear Z Q
 go_enter Tryz.func78,Tryz.ntmps78
 go_upto_region 1 with fail
 obtain⟨w0,M⟩:∃x,(w.alloc (.cells #[.int .i64 kd,.slice A n c] 66)).alloc (.cells #[.int .i64 0,.slice none 0 0] 66)=x:=⟨_,rfl⟩
 rw[M] at j U k2 B o ⊢
 clear M
 obtain⟨⟨c0,c1⟩,-⟩:=Qp U
 go_wp2_with fail
 refine(B.out).mono ?_
 rintro e w1 ⟨v1,rfl,q,i⟩
 obtain⟨A1,b,rfl,S⟩:=Qj q
 have G:=IntsI.of_own q
 have R:=U.below i
 have r:=k2.below i
 obtain⟨⟨d0,d1⟩,-⟩:=Qp R
 obtain⟨⟨e0,e1⟩,f0,f1⟩:=Qp r
 have T:l.length<=268435000:=by rw[a0.out];exact hn
 obtain⟨N,Y⟩:=ZN (l.length)
 rw[Y] at q G S T ⊢
 have J:=Zh q
 have a5:=Zh (Qhb A1 N b l w1 G (by omega) S)
 have E:=Zh Y
 have HZ:=Zh o
 clear c0 c1 q Y G U k2 o B
 have p:w.heap.size<=w.heap.size+1:=Nat.le_succ _
 have m:w.heap.size+1<w0.heap.size:=by have:=HZ.out;omega
 by_cases hk1:kd=1
 ·subst hk1
  go_wp2_with fail
  refine(a5.out).mono ?_
  rintro e X ⟨v2,rfl,F,H,rfl⟩
  by_cases hlb:lbF l=0
  ·have hv:=F hlb
   subst hv
   have d:wrF 1 l=l++[10]:=by unfold wrF;rw[if_pos ⟨rfl,hlb⟩]
   have P:=Zh d
   have t:=QeW none 0 0 X
   obtain⟨i0,L,o,a4,a1⟩:=info_parts Qa3
   have a3:=Zh L
   have a7:=i.size
   clear F H hlb d L
   go_wp2_with (at_builtin;refine wpList_append_own_at _ rfl (.tmp 15) (.tmp 16) 36 rfl w0.heap.size 3 i0 (.int .i64 0) 1 8 Tryz.underlying36 a3.out o a4 a1 rfl (by decide) (.slice A1 N b) N _ rfl (J.out.alloc _) ⟨X.heap.size,0,none⟩ 1 1 [.int .i64 10] rfl rfl (cell_one_new _ _ _) (by simp[Value.oneCell']) (by unfold maxLen;omega) (by omega) (by simp;omega) ?_)
   intro v3 w3 I s _ _
   have a2:ZB w0 w3:=Qy (Qa i) s (fun k hk=>QaV J.out hk)
   have z:=R.alloc (.cells #[.int .i64 10] 3)
   have C:=r.alloc (.cells #[.int .i64 10] 3)
   have O:=z.grown s (fun e=>Qk (J.out.alloc _) z (by decide) e.symm)
   have D:=C.grown s (fun e=>Qk (J.out.alloc _) C (by decide) e.symm)
   obtain⟨⟨d0,d1⟩,-⟩:=Qp O
   obtain⟨⟨e0,e1⟩,f0,f1⟩:=Qp D
   obtain⟨W,V,rfl,a6⟩:=Qj I
   have f:w3.ownsRow w0.heap.size 3 1 (.slice W (N+1) V) (wrF 1 l).length ((wrF 1 l).map (Value.int .i64)):=by
    rw[P.out,List.length_append,List.map_append,E.out]
    exact I
   have a:=Qjz (kd:=1) j p m f a2
   have g:=Zh a
   have y:=(Qp (((D.set_ 0 (.int .i64 1)).set_ 1 (.slice W (N+1) V)).eq_ (show _ = #[.int .i64 1,.slice W (N+1) V] by simp))).1
   have u:=Zh y
   clear I s z C O D f a y
   go_wp2_with fail
   exact bodyPost_ret (v:=.agg #[.int .i64 1,.slice W (N+1) V]) (by simp[results,Tryz.results78,go_sem,u.out.1,u.out.2]) rfl g.out
  ·obtain⟨ad,c2,rfl,-,-⟩:=H hlb
   have d:wrF 1 l=l:=by unfold wrF;rw[if_neg (fun h=>hlb h.2)]
   have P:=Zh d
   have t:=QeW (some ad) (lbF l) c2 X
   have f:X.ownsRow w0.heap.size 3 1 (.slice A1 N b) (wrF 1 l).length ((wrF 1 l).map (Value.int .i64)):=by
    rw[P.out,E.out]
    exact J.out
   have a:=Qjz (kd:=1) j p m f i
   have g:=Zh a
   have y:=(Qp (((r.set_ 0 (.int .i64 1)).set_ 1 (.slice A1 N b)).eq_ (show _ = #[.int .i64 1,.slice A1 N b] by simp))).1
   have u:=Zh y
   obtain⟨K,hK⟩:=ZN (lbF l)
   rw[hK] at t ⊢
   clear F H hlb d f a y hK
   go_wp2_with fail
   exact bodyPost_ret (v:=.agg #[.int .i64 1,.slice A1 N b]) (by simp[results,Tryz.results78,go_sem,u.out.1,u.out.2]) rfl g.out
 ·have q1:(kd==1)=false:=by rw[beq_eq_false_iff_ne];exact hk1
  have d:wrF kd l=l:=by unfold wrF;rw[if_neg (fun h=>hk1 h.1)]
  have P:=Zh d
  have f:w1.ownsRow w0.heap.size 3 1 (.slice A1 N b) (wrF kd l).length ((wrF kd l).map (Value.int .i64)):=by
   rw[P.out,E.out]
   exact J.out
  have a:=Qjz (kd:=kd) j p m f i
  have g:=Zh a
  have y:=(Qp (((r.set_ 0 (.int .i64 kd)).set_ 1 (.slice A1 N b)).eq_ (show _ = #[.int .i64 kd,.slice A1 N b] by simp))).1
  have u:=Zh y
  clear d f a y
  go_wp2_with fail
  exact bodyPost_ret (v:=.agg #[.int .i64 kd,.slice A1 N b]) (by simp[results,Tryz.results78,go_sem,u.out.1,u.out.2]) rfl g.out
def IntsD (D:Nat->Prop)(w:World)(A:Option Addr)(n:Nat)(l:List Int):Prop:=Ints w (fun b=>(∃a,Blk w b 3 a)/\D b) A n l
theorem IntsD.frD {D:Nat->Prop}{w w':World}{A:Option Addr}{n:Nat}{l:List Int}{S:Nat->Prop}(h:IntsD D w A n l)(g:Fr S w w')(o : ∀b,b<w.heap.size->S b->D b->¬∃d,Blk w b 3 d):IntsD D w' A n l:=by
 refine⟨h.1,fun hn=>?_⟩
 obtain⟨i,e,⟨⟨d,c⟩,f⟩,k⟩:=h.2 hn
 have a : ¬S i.block:=fun p=>o _ c.lt p f ⟨d,c⟩
 exact⟨i,e,⟨⟨d,c.fr g a⟩,f⟩,fun j u m=>(World.cell?_of_block (w:=w) (g.block _ (by rw[Q4];exact c.lt) (by rw[Q4];exact a))).trans (k j u m)⟩
theorem IntsD.fr {D:Nat->Prop}{w w':World}{A:Option Addr}{n:Nat}{l:List Int}{S:Nat->Prop}(h:IntsD D w A n l)(c:Fr S w w')(d : ∀b,b<w.heap.size->S b->¬∃e,Blk w b 3 e):IntsD D w' A n l:=h.frD c (fun b a f _=>d b a f)
theorem IntsD.bel {D:Nat->Prop}{w w':World}{A:Option Addr}{n:Nat}{l:List Int}(h:IntsD D w A n l)(a:ZB w w'):IntsD D w' A n l:=h.fr (S:=fun _=>False) (Fr.of_below a) (fun _ _ b=>b.elim)
theorem IntsD.ints {D:Nat->Prop}{w:World}{A:Option Addr}{n:Nat}{l:List Int}(h:IntsD D w A n l):IntsI w A n l:=by
 refine⟨h.1,fun hn=>?_⟩
 obtain⟨b,e,⟨a,_⟩,c⟩:=h.2 hn
 exact⟨b,e,a,c⟩
theorem IntsD.any {D:Nat->Prop}{w:World}{A:Option Addr}{n:Nat}{l:List Int}(h:IntsD D w A n l):Ints w Any A n l:=h.ints.any
theorem IntsD.weak {D D':Nat->Prop}{w:World}{A:Option Addr}{n:Nat}{l:List Int}(h:IntsD D w A n l)(g : ∀b,b<w.heap.size->D b->D' b):IntsD D' w A n l:=by
 refine⟨h.1,fun hn=>?_⟩
 obtain⟨c,e,⟨⟨d,a⟩,h1⟩,f⟩:=h.2 hn
 exact⟨c,e,⟨⟨d,a⟩,g _ a.lt h1⟩,f⟩
theorem IntsD.of_own {D:Nat->Prop}{w:World}{base n c:Nat}{A:Option Addr}{xs:List Int}(h:w.ownsRow base 3 1 (.slice A n c) n (xs.map (Value.int .i64)))(l : ∀b,base<=b->D b):IntsD D w A n xs:=by
 have a:=IntsI.of_own h
 refine⟨a.1,fun hn=>?_⟩
 obtain⟨o,e,f,k⟩:=a.2 hn
 obtain⟨g,cap,i,j,m⟩:=h.form hn
 have d:A=some ⟨g,0,none⟩:=by injection i
 rw[d] at e
 injection e with e
 subst e
 exact⟨_,d,⟨f,l _ (by first|exact j|omega)⟩,k⟩
def RegAt (D:Nat->Prop)(w:World)(o:Option Value)(r:Option (Int × List Int)):Prop:=
 match r with
 |none=>o=none
 |some p=>∃A n c,o=some (.agg #[.int .i64 p.1,.slice A n c])/\IntsD D w A n p.2/\n<=c/\n<=140000
theorem RegAt.fr {D:Nat->Prop}{w w':World}{S:Nat->Prop}{o:Option Value}{r:Option (Int × List Int)}(h:RegAt D w o r)(a:Fr S w w')(e : ∀b,b<w.heap.size->S b->¬∃f,Blk w b 3 f):RegAt D w' o r:=by
 cases r with
 |none=>exact h
 |some p=>
  obtain⟨A,n,c,h1,h2,d,g⟩:=h
  exact⟨A,n,c,h1,h2.fr a e,d,g⟩
structure BankD (D:Nat->Prop) (w:World) (B gk mk:Nat) (R:Int->Option (Int × List Int)) (tu:Int):Prop where
 blk:Blk w gk 125 #[.map (some mk),.int .i64 tu]
 low:B<=gk/\B<=mk
 map:∃l,MapIs w mk l/\(l.map Prod.fst).Nodup/\∀k,RegAt D w (Qgg l k) (R k)
theorem BankD.fr {D:Nat->Prop}{w w':World}{B e mk:Nat}{R:Int->Option (Int × List Int)}{j:Int}{S:Nat->Prop}(h:BankD D w B e mk R j)(g:Fr S w w')(i : ∀b,b<w.heap.size->S b->b≠e/\∃T a,Blk w b T a/\T≠3):BankD D w' B e mk R j:=by
 obtain⟨l,h1,h2,o⟩:=h.map
 have m : ∀b,b<w.heap.size->S b->¬∃a,Blk w b 3 a:=fun b hb c ⟨a,hc⟩=>by
  obtain⟨_,T,n,d,f⟩:=i b hb c
  unfold Blk at d hc
  rw[d] at hc
  injection hc with hc
  injection hc with _ hc
  exact f hc
 refine⟨h.blk.fr g (fun c=>(i _ h.blk.lt c).1 rfl),h.low,l,h1.fr g (fun c=>?_),h2,fun k=>(o k).fr g m⟩
 obtain⟨_,T,a,d,_⟩:=i _ h1.lt c
 exact h1.ne_blk d rfl
theorem BankD.below {D:Nat->Prop}{w w':World}{B a mk:Nat}{R:Int->Option (Int × List Int)}{b:Int}(h:BankD D w B a mk R b)(c:ZB w w'):BankD D w' B a mk R b:=h.fr (S:=fun _=>False) (Fr.of_below c) (fun _ _ d=>d.elim)
theorem Qf8 (n kd:Int)(A:Option Addr)(m c:Nat)(w:World)(hn:(QaC n).2=true)(b:(QaC n).1.1≠46/\(QaC n).1.1≠58/\(QaC n).1.1≠47)(C:kd=0\/kd=1) :
  Calls Tryz.prog 77 #[.int .i64 n,.agg #[.int .i64 kd,.slice A m c]] w fun e w'=>e=.returned (.tuple #[Qjq (QaC n).1,.int .i64 0])/\ZB w w':=by
 have j:ZB w ((w.alloc (.cells #[.int .i64 kd,.slice A m c] 66)).alloc (.cells #[.int .i64 0,.bool false] 120)):=Qa (Qa (Below.refl _ _))
 have u:Blk ((w.alloc (.cells #[.int .i64 kd,.slice A m c] 66)).alloc (.cells #[.int .i64 0,.bool false] 120)) w.heap.size 66 #[.int .i64 kd,.slice A m c]:=(Blk.new w _ _).alloc _
 have t:Blk ((w.alloc (.cells #[.int .i64 kd,.slice A m c] 66)).alloc (.cells #[.int .i64 0,.bool false] 120)) (w.heap.size+1) 120 #[.int .i64 0,.bool false]:=Blk.new' (by simp)
 have a:=Zh (fun w'=>Qhm n w')
 obtain⟨⟨⟨K,F⟩,OK⟩,z⟩:∃s,QaC n=s:=⟨_,rfl⟩
 rw[z] at a hn b ⊢
 dsimp only at a hn b ⊢
 unfold Qjq at a ⊢
 dsimp only at a ⊢
 subst hn
 have O:(K==46)=false:=by rw[beq_eq_false_iff_ne];exact b.1
 have M:(K==58)=false:=by rw[beq_eq_false_iff_ne];exact b.2.1
 have I:(K==47)=false:=by rw[beq_eq_false_iff_ne];exact b.2.2
 clear z b
 go_enter Tryz.func77,Tryz.ntmps77
 go_upto_region 1 with fail
 obtain⟨w0,l⟩:∃x,(w.alloc (.cells #[.int .i64 kd,.slice A m c] 66)).alloc (.cells #[.int .i64 0,.bool false] 120)=x:=⟨_,rfl⟩
 rw[l] at j u t ⊢
 clear l
 go_wp2_with fail
 refine(a.out _).mono ?_
 rintro e w1 ⟨rfl,f⟩
 go_upto_block 0 with fail
 have r:=Blk.new w1 120 #[.int .i64 K,.bool F]
 have o:=(u.below f).alloc (.cells #[.int .i64 K,.bool F] 120)
 have g:=(t.below f).alloc (.cells #[.int .i64 K,.bool F] 120)
 have h:ZB w (w1.alloc (.cells #[.int .i64 K,.bool F] 120)):=Qa (Qf j f)
 obtain⟨D,k⟩:∃x,w1.heap.size=x:=⟨_,rfl⟩
 obtain⟨B,i⟩:∃x,w1.alloc (.cells #[.int .i64 K,.bool F] 120)=x:=⟨_,rfl⟩
 rw[k] at r ⊢
 rw[i] at r o g h ⊢
 clear k i u t
 obtain⟨⟨c0,c1⟩,-⟩:=Qp o
 obtain⟨⟨L,E⟩,G,N⟩:=Qp g
 obtain⟨⟨H,J⟩,-⟩:=Qp r
 have b:=(Qp (((g.set_ 0 (.int .i64 K)).set_ 1 (.bool F)).eq_ (show _ = #[.int .i64 K,.bool F] by simp))).1
 have y:=Zh b
 have d:ZB w ((B.setCell ⟨w.heap.size+1,0,none⟩ (.int .i64 K)).setCell ⟨w.heap.size+1,1,none⟩ (.bool F)):=(h.setCell (p:=⟨w.heap.size+1,0,none⟩) (Nat.le_succ _) _).setCell (p:=⟨w.heap.size+1,1,none⟩) (Nat.le_succ _) _
 have q:=Zh d
 clear b d
 rcases C with rfl|rfl
 all_goals
  go_wp2_with fail
  exact bodyPost_ret (v:=.tuple #[.agg #[.int .i64 K,.bool F],.int .i64 0]) (by simp[results,Tryz.results77,go_sem,y.out.1,y.out.2]) rfl ⟨rfl,q.out⟩
def Qc7 (R:Int->Option (Int × List Int))(k kd:Int)(xs:List Int):Int->Option (Int × List Int):=fun q=>if q=k then (if xs=[] then none else some (kd,xs)) else R q
theorem BankD.put {D:Nat->Prop}{w w':World}{B o mk:Nat}{R:Int->Option (Int × List Int)}{p k kd:Int}{l:List (Int × Value)}{A:Option Addr}{n c:Nat}{xs:List Int}(h:BankD D w B o mk R p)(i:(l.map Prod.fst).Nodup)(f : ∀q,RegAt D w (Qgg l q) (R q))
  (hm:MapIs w' mk (Qf3 k (.agg #[.int .i64 kd,.slice A n c]) l)) (j:Fr (· = mk) w w') (a : ∀T d,¬Blk w mk T d) (s:IntsD D w A n xs) (g:n<=c) (r:xs≠[]) (hn:n<=140000):BankD D w' B o mk (Qc7 R k kd xs) p:=by
 have m : ∀b,b<w.heap.size->b=mk->¬∃d,Blk w b 3 d:=fun b _ hs ⟨d,g⟩=>a _ _ (hs▸g)
 refine⟨h.blk.fr j (fun e=>a _ _ (e▸h.blk)),h.low,_,hm,QhQ _ _ _ i,fun q=>?_⟩
 rw[QjS]
 unfold Qc7
 by_cases hq:q=k
 ·rw[if_pos hq,if_pos hq,if_neg r]
  exact⟨A,n,c,rfl,s.fr j m,g,hn⟩
 ·rw[if_neg hq,if_neg hq]
  exact(f q).fr j m
theorem BankD.del {D:Nat->Prop}{w w':World}{B g mk:Nat}{R:Int->Option (Int × List Int)}{i k kd:Int}{l:List (Int × Value)}(h:BankD D w B g mk R i)(a:(l.map Prod.fst).Nodup)(f : ∀q,RegAt D w (Qgg l q) (R q))
  (hm:MapIs w' mk (QiC k l)) (j:Fr (· = mk) w w') (c : ∀T d,¬Blk w mk T d):BankD D w' B g mk (Qc7 R k kd []) i:=by
 have m : ∀b,b<w.heap.size->b=mk->¬∃d,Blk w b 3 d:=fun b _ hs ⟨d,hc⟩=>c _ _ (hs▸hc)
 refine⟨h.blk.fr j (fun e=>c _ _ (e▸h.blk)),h.low,_,hm,QmW _ _ a,fun q=>?_⟩
 rw[Qoo k q l a]
 unfold Qc7
 by_cases hq:q=k
 ·rw[if_pos hq,if_pos hq,if_pos rfl]
  rfl
 ·rw[if_neg hq,if_neg hq]
  exact(f q).fr j m
theorem QiI (w:World):(zeroValue 66).run Tryz.prog w=.ok (.agg #[.int .i64 0,.slice none 0 0]) w:=by kernel_rfl
theorem RegAt.weak {D D':Nat->Prop}{w:World}{o:Option Value}{r:Option (Int × List Int)}(h:RegAt D w o r)(d : ∀b,b<w.heap.size->D b->D' b):RegAt D' w o r:=by
 cases r with
 |none=>exact h
 |some p=>
  obtain⟨A,n,c,h1,h2,a⟩:=h
  exact⟨A,n,c,h1,h2.weak d,a⟩
theorem BankD.weak {D D':Nat->Prop}{w:World}{B a mk:Nat}{R:Int->Option (Int × List Int)}{c:Int}(h:BankD D w B a mk R c)(e : ∀b,b<w.heap.size->D b->D' b):BankD D' w B a mk R c:=by
 obtain⟨l,h1,h2,d⟩:=h.map
 exact⟨h.blk,h.low,l,h1,h2,fun k=>(d k).weak e⟩
abbrev BankIs (w:World) (B gk mk:Nat) (R:Int->Option (Int × List Int)) (tu:Int):Prop:=BankD (fun _=>True) w B gk mk R tu
theorem BankIs.low_ {w:World}{B a mk:Nat}{R:Int->Option (Int × List Int)}{c:Int}(h:BankIs w B a mk R c):BankD (fun b=>b<w.heap.size) w B a mk R c:=h.weak (fun b d _=>d)
end Go.Proofs.YtgiihhikdoikgaaGreat
