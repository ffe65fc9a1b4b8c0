/-
  The walks of package tree at the pieces: Items, an iterator: its inner function, by induction on the tree.
-/
import Derived.Test.YtgiihhikdoikgaaGreatLTree8
import Derived.RangeFuncNested
import Derived.RangeFuncBound
import Derived.RangeFuncLeaves
import Derived.Shelf.Abstract
import Derived.Shelf.RegionOpen
import Derived.OwnWalkIn
import Derived.TacticsInMore
import Derived.LoopNIn
import Derived.LoopIn
import Derived.Stop.RegionWithIn
import Derived.Sort.LoopGhostIn
import Derived.Sort.CutIn
set_option linter.unusedSimpArgs false
set_option linter.unusedVariables false
set_option maxRecDepth 100000
set_option maxHeartbeats 32000000
namespace Go.Proofs.YtgiihhikdoikgaaGreat
open Go.RowKit
def KT (w w':World):Prop:=w.heap.size<=w'.heap.size/\∀(b:Nat) (a:Array Value) (T:TypeId),T≠3->T≠36->Blk w b T a->Blk w' b T a
theorem KT.refl (w:World):KT w w:=⟨Nat.le_refl _,fun _ _ _ _ _ h=>h⟩
theorem KT.trans {a b c:World}(h:KT a b)(k:KT b c):KT a c:=⟨Nat.le_trans h.1 k.1,fun i d T h1 h2 e=>k.2 i d T h1 h2 (h.2 i d T h1 h2 e)⟩
theorem KT.below {w w':World}(h:ZB w w'):KT w w':=⟨h.size,fun _ _ _ _ _ a=>a.below h⟩
theorem KT.drew (w:World):KT w w.drew:=⟨Nat.le_refl _,fun _ _ _ _ _ h=>h⟩
theorem KT.drewN (w:World)(n:Nat):KT w (w.drewN n):=⟨Nat.le_refl _,fun _ _ _ _ _ h=>h⟩
theorem KT.node {w w':World}(d:KT w w') : ∀(t:Tr) (a:Option Addr),NodeAt w t a->NodeAt w' t a:=by
 intro t
 induction t with
 |nil=>intro a h;exact h
 |node l x r ihl ihr=>
  rintro a ⟨b,al,ar,e,h,c,f⟩
  exact⟨b,al,ar,e,d.2 b _ _ (by decide) (by decide) h,ihl al c,ihr ar f⟩
def YSpec (l:Nat)(G:Pc->Prop)(J Jx:List Pc->World->Prop)(N:Nat):Prop:=∀(m:Nat) (pre:List Pc) (x:Pc) (W:World),G x->J pre W->pre.length<N ->
 YieldAt Fence.wide m Tryz.prog l #[.agg x.cells] W fun e a=>(e=.returned (.bool true)/\J (pre++[x]) a/\KT W a)\/(e=.returned (.bool false)/\Jx (pre++[x]) a)
def YP (J Jx:List Pc->World->Prop)(pre xs:List Pc)(W:World)(b:Bool)(a:World):Prop:=
 (b=true->J (pre++xs) a/\KT W a)/\(b=false->∃q,q <+: xs/\Jx (pre++q) a)
def Qqg (J Jx:List Pc->World->Prop)(pre xs:List Pc)(W:World)(e:Ending)(a:World):Prop:=∃b,e=.returned (.bool b)/\YP J Jx pre xs W b a
def QrJ (J Jx:List Pc->World->Prop)(pre xs:List Pc)(W:World)(s:Value)(a:World):Prop:=∃b,s=.bool (!b)/\YP J Jx pre xs W b a
section
variable {J Jx:List Pc->World->Prop} {pre xs ys:List Pc} {W W1 W2:World} {b:Bool}
theorem YP.nil (h:J pre W1)(a:KT W W1):YP J Jx pre [] W true W1:=⟨fun _=>⟨by rwa [List.append_nil],a⟩,fun h=>by cases h⟩
theorem YP.more (h:YP J Jx pre xs W true W1)(k:YP J Jx (pre++xs) ys W1 b W2):YP J Jx pre (xs++ys) W b W2:=by
 refine⟨fun a=>?_,fun a=>?_⟩
 ·have h1:=h.1 rfl
  have h2:=k.1 a
  exact⟨by rw[<-List.append_assoc];exact h2.1,h1.2.trans h2.2⟩
 ·obtain⟨q,d,c⟩:=k.2 a
  exact⟨xs++q,(List.prefix_append_right_inj xs).2 d,by rw[<-List.append_assoc];exact c⟩
theorem YP.no (h:YP J Jx pre xs W false W1)(ys:List Pc):YP J Jx pre (xs++ys) W false W1:=
 ⟨(fun h=>by cases h),fun _=>by obtain⟨q,c,a⟩:=h.2 rfl;exact⟨q,c.trans (List.prefix_append xs ys),a⟩⟩
theorem YP.from_ (h:YP J Jx pre xs W1 b W2)(c:KT W W1):YP J Jx pre xs W b W2:=⟨fun a=>⟨(h.1 a).1,c.trans (h.1 a).2⟩,h.2⟩
end
theorem YSpec.at_ {l:Nat}{G:Pc->Prop}{J Jx:List Pc->World->Prop}{N:Nat}(h:YSpec l G J Jx N)(m:Nat)(pre:List Pc)(x:Pc)(W:World)(d:G x)(f:J pre W)(c:pre.length<N) :
  YieldAt Fence.wide m Tryz.prog l #[.agg x.cells] W fun e a=>Qqg J Jx pre [x] W e a:=by
 refine(h m pre x W d f c).mono ?_
 rintro e a (⟨rfl,h1,h2⟩|⟨rfl,h1⟩)
 ·exact⟨true,rfl,fun _=>⟨h1,h2⟩,fun h=>by cases h⟩
 ·exact⟨false,rfl,(fun h=>by cases h),fun _=>⟨[x],List.prefix_refl _,h1⟩⟩
theorem QnW (l:Tr)(x:Pc)(r:Tr)(i:Int)(c:0<=i) :
  (Tr.node l x r).list.drop i.toNat=(l.list.drop i.toNat++(if i<=l.size then [x] else []))++r.list.drop (max 0 (i-l.size-1)).toNat:=by
 have a:=Tr.size_list l
 rw[Tr.list,List.drop_append]
 split
 ·rw[show (max 0 (i-l.size-1)).toNat=0 by omega,show i.toNat-l.list.length=0 by omega]
  simp
 ·rw[List.drop_eq_nil_of_le (by omega),show i.toNat-l.list.length=(max 0 (i-l.size-1)).toNat+1 by omega]
  simp
theorem Qlw (l:Nat)(G:Pc->Prop)(J Jx:List Pc->World->Prop)(N Bw By:Nat)(hJ:(∀s W,J s W->J s W.drew)/\∀s W n,J s W->J s (W.drewN n))(hY:YSpec l G J Jx N) : ∀(t:Tr) (a:Option Addr) (i:Int) (pre:List Pc) (W:World),
  NodeAt W t a->(∀p ∈ t.list,G p)->Blk W Bw 239 #[.func (.func 154) #[] #[.pointer (some ⟨Bw,0,none⟩),.pointer (some ⟨By,0,none⟩)]] ->
  Blk W By 238 #[.func (.yield l) #[] #[]]->0<=i->i<=2147483648->t.list.length<=1073741824->J pre W->pre.length+(t.list.drop i.toNat).length<=N ->
  Calls Tryz.prog 154 #[.pointer a,.int .i64 i,.pointer (some ⟨Bw,0,none⟩),.pointer (some ⟨By,0,none⟩)] W fun e W'=>Qqg J Jx pre (t.list.drop i.toNat) W e W':=by
 intro t
 induction t with
 |nil=>
  intro a i pre W hn _ _ _ _ _ _ L _
  cases hn
  go_enter Tryz.func154,Tryz.ntmps154
  go_wp2_with fail
  go_ret
  exact⟨true,rfl,fun _=>⟨by simp[Tr.list];exact L,KT.refl _⟩,fun h=>by cases h⟩
 |node tl x tr ihl ihr=>
  intro a i pre W hn hG hw hy i0 i1 c3 L K
  have c2 : ∀p ∈ tl.list,G p:=fun p hp=>hG p (by simp[Tr.list,hp])
  have a7 : ∀p ∈ tr.list,G p:=fun p hp=>hG p (by simp[Tr.list,hp])
  have a9:G x:=hG x (by simp[Tr.list])
  clear hG
  have hs:=Tr.size_list tl
  have a5:=Tr.size_list tr
  have a4:(Tr.node tl x tr).list.length=tl.list.length+tr.list.length+1:=by simp only[Tr.list,List.length_append,List.length_cons];omega
  have U:(Tr.node tl x tr).size=tl.size+1+tr.size:=rfl
  have a1:=QnW tl x tr i i0
  rw[a1] at K ⊢
  obtain⟨b,al,ar,rfl,I,F,E⟩:=hn
  obtain⟨tot,z⟩:∃s,(Tr.node tl x tr).size=s:=⟨_,rfl⟩
  obtain⟨tal,A⟩:∃s,(Tr.node tl x tr).tall=s:=⟨_,rfl⟩
  obtain⟨sm,R⟩:∃s,(Tr.node tl x tr).sum=s:=⟨_,rfl⟩
  obtain⟨sz,P⟩:∃s,tl.size=s:=⟨_,rfl⟩
  obtain⟨k,h1⟩:∃y,tl.list.drop i.toNat=y:=⟨_,rfl⟩
  obtain⟨j,f⟩:=ZN (max 0 (i-tl.size-1))
  rw[f] at K ⊢
  obtain⟨b9,h3⟩:∃y,tr.list.drop j.toNat=y:=⟨_,rfl⟩
  obtain⟨q,h2⟩:∃y,(if i<=tl.size then [x] else [])=y:=⟨_,rfl⟩
  rw[h1,h2,h3] at K ⊢
  rw[z,A,R] at I
  have IL:=ihl al i pre
  have IR:=ihr ar j (pre++(k++q))
  rw[h1] at IL
  rw[h3] at IR
  simp only[List.length_append] at K
  have c0:=I.cell 0
  have c1:=I.cell 9
  simp[Qef] at c0 c1
  have o:=Qbr tl al W F
  rw[P] at o hs h2 U f
  have r:=Zh IL
  have g:=Zh IR
  have HC:=Zh o
  have H1:=Zh h1
  have O:=Zh h2
  have H3:=Zh h3
  have u:=Zh f
  have k0:0<=sz:=by omega
  have k1:sz<=1073741824:=by omega
  have k2:0<=j:=by omega
  have k3:j<=2147483648:=by omega
  have HT:=Zh (show tot=sz+1+tr.size by omega)
  have Q:=Zh hs
  have H:=Zh a5
  have T:=Zh a4
  have HN:=Zh K
  have m:=Zh hY
  clear IL IR ihl ihr o h1 h2 h3 f K U z hs a5 a4 a1 A R P hY
  by_cases hge:tot<=i
  ·have e1:k=[]:=by rw[<-H1.out];exact List.drop_eq_nil_of_le (by have:=Q.out;have:=HT.out;have:=H.out;omega)
   have e2:q=[]:=by rw[<-O.out];exact if_neg (by have:=HT.out;have:=H.out;omega)
   have e3:b9=[]:=by rw[<-H3.out];exact List.drop_eq_nil_of_le (by have:=u.out;have:=HT.out;have:=H.out;omega)
   subst e1 e2 e3
   clear H1 O H3 u r g
   go_enter Tryz.func154,Tryz.ntmps154
   go_wp2_with fail
   go_ret
   exact⟨true,rfl,YP.nil L (KT.refl _)⟩
  ·have c4:i<tot:=by omega
   go_enter Tryz.func154,Tryz.ntmps154
   go_wp2_with fail
   refine(HC.out).mono ?_
   rintro e w1 ⟨rfl,rfl⟩
   clear HC
   go_upto_region 4 with fail
   go_cut [35] (fun s wx=>QrJ J Jx pre k W s wx)
   case first=>
    have S:=hw.cell 0
    simp at S
    by_cases hlt:i<sz
    ·have a2:decide (i<sz)=true:=by simpa using hlt
     have M:=r.out W.drew ((KT.drew W).node _ _ F) c2 hw hy i0 i1 (by have:=T.out;omega) (hJ.1 _ _ L) (by have:=HN.out;omega)
     have C:=Zh M
     have he:=Tryz.call154
     clear M r g m
     go_still_tail 10,(by kernel_rfl)
     all_goals
      go_wp2_with (first|(go_at_call 154;refine(C.out).mono ?_;rintro e w1 ⟨b1,rfl,b4⟩))
      go_meet
      exact⟨b1,rfl,b4.from_ (KT.drew _)⟩
    ·have a2:decide (i<sz)=false:=by simpa using hlt
     have e1:k=[]:=by rw[<-H1.out];exact List.drop_eq_nil_of_le (by have:=Q.out;omega)
     subst e1
     clear r g m H1
     go_quiet (fail)
     all_goals
      go_wp2_with fail
      go_meet
      exact⟨true,rfl,YP.nil (hJ.2 _ _ _ L) (KT.drewN _ _)⟩
   case rest=>
    obtain⟨b1,rfl,c⟩:=hcut
    clear r
    cases b1
    ·go_wp2_with fail
     go_ret
     exact⟨false,rfl,(c.no _).no _⟩
    ·have f:=(c.1 rfl).1
     have v:=(c.1 rfl).2
     have Z:=v.2 _ _ _ (by decide) (by decide) I
     have b5:=v.2 _ _ _ (by decide) (by decide) hw
     have X:=v.2 _ _ _ (by decide) (by decide) hy
     have Y:=v.node _ _ E
     clear F c0 c1 L v
     go_upto_region 6 with fail
     go_cut [47] (fun s wx=>QrJ J Jx pre (k++q) W s wx)
     case first=>
      have S:=X.cell 0
      simp at S
      by_cases hle:i<=sz
      ·have a3:decide (i<=sz)=true:=by simpa using hle
       have e2:q=[x]:=by rw[<-O.out];exact if_pos hle
       subst e2
       obtain⟨fn,tmps,assign,body,b7,hR⟩:=m.out.at_ 0 (pre++k) x wc.drew a9 (hJ.1 _ _ f) (by have:=HN.out;simp only[List.length_append,List.length_singleton] at this ⊢;omega)
       obtain⟨d0,d1,b6⟩:=QaJ Z
       obtain⟨m0,m1,m2,m3,m4,m5,m6⟩:=b6
       clear g m O
       simp only[Pc.cells,Qx] at b7
       refine(wpIn_wide (n:=0)).1 ?_
       gi_region_with (first|(refine⟨rfl,?_⟩;refine hR.mono ?_;rintro e w1 ⟨b2,rfl,d⟩))
       all_goals
        gi_wp2
        gi_meet
        exact⟨b2,rfl,c.more (d.from_ (KT.drew _))⟩
      ·have a3:decide (i<=sz)=false:=by simpa using hle
       have e2:q=[]:=by rw[<-O.out];exact if_neg hle
       subst e2
       clear g m O
       go_quiet (fail)
       all_goals
        go_wp2_with fail
        go_meet
        exact⟨true,rfl,c.more (YP.nil (hJ.2 _ _ _ f) (KT.drewN _ _))⟩
     case rest=>
      obtain⟨b2,rfl,d⟩:=hcut
      cases b2
      ·go_wp2_with fail
       go_ret
       exact⟨false,rfl,d.no _⟩
      ·have b8:=(d.1 rfl).1
       have w:=(d.1 rfl).2
       have a6:=w.2 _ _ _ (by decide) (by decide) I
       have V:=w.2 _ _ _ (by decide) (by decide) hw
       have a8:=w.2 _ _ _ (by decide) (by decide) hy
       have B:=w.node _ _ E
       have c0:=a6.cell 1
       have S:=V.cell 0
       simp[Qef] at c0 S
       have M:=g.out wc.drew ((KT.drew _).node _ _ B) a7 V a8 k2 k3 (by have:=T.out;omega) (hJ.1 _ _ b8) (by have:=HN.out;simp only[List.length_append] at this ⊢;omega)
       have he:=Tryz.call154
       clear I hw hy E Z b5 X Y f c g m B
       by_cases hjj:0<i-sz-1
       all_goals
        first
         |(have D:j=i-sz-1:=by have:=u.out;omega)
         |(have D:j=0:=by have:=u.out;omega)
        rw[D] at M
        have C:=Zh M
        have x0:IntKind.i64.wrap (i-sz)=i-sz:=IntWalk.i64_in _ (by omega)
        have x1:IntKind.i64.wrap (i-sz-1)=i-sz-1:=IntWalk.i64_in _ (by omega)
        clear M D u k2 k3
        go_wp2_with fail
        go_still_tail 10,(by kernel_rfl)
        all_goals
         go_wp2_with (first|(go_at_call 154;refine(C.out).mono ?_;rintro e w1 ⟨b3,rfl,a0⟩))
         go_ret
         exact⟨b3,rfl,by have:=d.more (a0.from_ (KT.drew _));simpa only[List.append_assoc] using this⟩
end Go.Proofs.YtgiihhikdoikgaaGreat
