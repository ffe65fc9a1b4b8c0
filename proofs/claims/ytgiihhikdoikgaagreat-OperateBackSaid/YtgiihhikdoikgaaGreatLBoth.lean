/-
  Both desks as they begin: (*Both).text answers true.
-/
import Derived.Test.YtgiihhikdoikgaaGreatLSame
import Derived.Test.YtgiihhikdoikgaaGreatLOfLaw
set_option linter.unusedSimpArgs false
set_option linter.unusedVariables false
set_option maxRecDepth 100000
set_option maxHeartbeats 32000000
namespace Go.Proofs.YtgiihhikdoikgaaGreat
open Go.RowKit
structure BothNew (B:Nat) (enc lim native depth:Int) (l:List Int) (w:World) (gB gd gb gt m gk mk gd' gb' gt' gk':Nat) (ld:Value):Prop where
 both:Blk w gB 52 #[.pointer (some ⟨gd,0,none⟩),.pointer (some ⟨gd',0,none⟩)]
 D:NewDesk B enc lim native depth l w gd gb gt m gk mk
 R:RNewDesk B enc lim native depth l w gd' gb' gt' gk' ld
theorem NewDesk.below {B:Nat}{enc lim native depth:Int}{l:List Int}{w w':World}{c b d m e mk:Nat}(h:NewDesk B enc lim native depth l w c b d m e mk)(a:ZB w w'):NewDesk B enc lim native depth l w' c b d m e mk:=
 ⟨Blk.below h.desk a,⟨h.book.1.below a,h.book.2.below a⟩,h.text.below a,⟨h.bank.1.below a,h.bank.2.below a⟩,h.ge⟩
theorem RNewDesk.below {B:Nat}{enc lim native depth:Int}{l:List Int}{w w':World}{c b d e:Nat}{ld:Value}(h:RNewDesk B enc lim native depth l w c b d e ld)(a:ZB w w'):RNewDesk B enc lim native depth l w' c b d e ld:=
 ⟨Blk.below h.desk a,h.book.below a,QT h.loaded a,h.text.below a,h.ge⟩
theorem BothNew.below {B:Nat}{enc lim native depth:Int}{l:List Int}{w w':World}{gB g i j m f mk a b d c:Nat}{ld:Value}(h:BothNew B enc lim native depth l w gB g i j m f mk a b d c ld)(e:ZB w w'):BothNew B enc lim native depth l w' gB g i j m f mk a b d c ld:=
 ⟨h.both.below e,h.D.below e,h.R.below e⟩
def C5 (w:World)(a b c d e:Addr)(x y z u v:Value):Prop:=w.cell? a=some x/\w.cell? b=some y/\w.cell? c=some z/\w.cell? d=some u/\w.cell? e=some v
theorem C5.keep {w w1:World}{a b c d e:Addr}{x y z u v:Value}(f:ZB w w1)(h:C5 w a b c d e x y z u v):C5 w1 a b c d e x y z u v:=
 ⟨Qh f h.1,Qh f h.2.1,Qh f h.2.2.1,Qh f h.2.2.2.1,Qh f h.2.2.2.2⟩
theorem Qcl {w:World}{g:Nat}{T:TypeId}{a b:Value}(h:Blk w g T #[a,b]):w.cell? ⟨g,0,none⟩=some a/\w.cell? ⟨g,1,none⟩=some b:=⟨h.cell 0,h.cell 1⟩
theorem QaR {w:World}{g:Nat}{T:TypeId}{a c b:Value}(h:Blk w g T #[a,c,b]):w.cell? ⟨g,0,none⟩=some a/\w.cell? ⟨g,1,none⟩=some c/\w.cell? ⟨g,2,none⟩=some b:=⟨h.cell 0,h.cell 1,h.cell 2⟩
theorem QiF {w:World}{g:Nat}{T:TypeId}{a i f b c j k d l e:Value}(h:Blk w g T #[a,i,f,b,c,j,k,d,l,e]) :
  w.cell? ⟨g,0,none⟩=some a/\w.cell? ⟨g,1,none⟩=some i/\w.cell? ⟨g,2,none⟩=some f/\w.cell? ⟨g,3,none⟩=some b/\w.cell? ⟨g,4,none⟩=some c/\w.cell? ⟨g,5,none⟩=some j/\w.cell? ⟨g,6,none⟩=some k/\w.cell? ⟨g,7,none⟩=some d/\w.cell? ⟨g,8,none⟩=some l/\w.cell? ⟨g,9,none⟩=some e:=
 ⟨h.cell 0,h.cell 1,h.cell 2,h.cell 3,h.cell 4,h.cell 5,h.cell 6,h.cell 7,h.cell 8,h.cell 9⟩
theorem QgR (w:World):Calls Tryz.prog 21 #[.slice none 0 0,.slice none 0 0] w fun e w'=>e=.returned (.bool true)/\ZB w w':=
 Qca (D:=Any) (D':=Any) (x:=[]) Reads.none_ Reads.none_ (by omega)
theorem Qmt {α : Type}(l:List α):seg 0 (l.length:Int) l=l:=by
 unfold seg
 simp
theorem Qnp (B:Nat)(enc lim native depth:Int)(l:List Int)(w:World)(gB gd gb N m gk mk u F q a1:Nat)(ld:Value)(h:BothNew B enc lim native depth l w gB gd gb N m gk mk u F q a1 ld) :
  Calls Tryz.prog 59 #[.pointer (some ⟨gB,0,none⟩)] w fun e w'=>e=.returned (.bool true)/\ZB w w':=by
 obtain⟨va,vt,t1,Y,t3⟩:=h.R.text
 have Q:=h.D.text
 have P:=Q.at_.len
 rw[List.length_map] at Y
 rw[List.length_map,Qa5] at t3
 obtain⟨A1,c1,rfl,a2⟩:=Qj Y
 obtain⟨A2,c2,rfl,a0⟩:=Qj t3
 have U:=Reads.of_own Y
 have M:=Reads.of_own t3
 have k1:=fun(w':World) (b:ZB w w')=>QaS _ N enc (dec enc l) w' (Q.at_.below b)
 have k2:=fun(w':World) (b:ZB w w')=>Qap _ N enc (dec enc l) 0 (dec enc l).length w' (Q.at_.below b) (by omega) (by omega)
 have k3:=fun(w':World) (b:ZB w w')=>Qmh _ N enc lim (dec enc l) (QbS 0 0 (dec enc l)) 0 (dec enc l).length w' (Q.below b) (by omega) (by omega)
 have e2:seg 0 ((dec enc l).length:Int) ((dec enc l).map Prod.fst)=(dec enc l).map Prod.fst:=by
  have:=Qmt ((dec enc l).map Prod.fst)
  rwa [List.length_map] at this
 have e3:seg 0 ((dec enc l).length:Int) ((QbS 0 0 (dec enc l)).map Prod.snd)=(QbS 0 0 (dec enc l)).map Prod.snd:=by
  have:=Qmt ((QbS 0 0 (dec enc l)).map Prod.snd)
  rwa [List.length_map,Qa5] at this
 rw[e2] at k2
 rw[e3] at k3
 have s1:=fun(w':World) (b:ZB w w') (D:Nat->Prop) (A:Option Addr) (c n:Nat) (V:Ints w' D A n ((dec enc l).map Prod.fst))=>Qca (c:=c) (c':=c1) V (Reads.below U b) (by have:=V.len;rw[List.length_map] at this;omega)
 have s2:=fun(w':World) (b:ZB w w') (D:Nat->Prop) (A:Option Addr) (c n:Nat) (V:Ints w' D A n ((QbS 0 0 (dec enc l)).map Prod.snd))=>Qca (c:=c) (c':=c2) V (Reads.below M b) (by have:=V.len;rw[List.length_map,Qa5] at this;omega)
 have z1:(dec enc l).length=((dec enc l).map Prod.fst).length:=by simp
 have z2:(dec enc l).length=((QbS 0 0 (dec enc l)).map Prod.snd).length:=by rw[List.length_map,Qa5]
 obtain⟨n,hn⟩:=ZN ((dec enc l).length)
 have O:=h.D.book.1
 have s:=h.both.cell 0
 have r:=h.both.cell 1
 have d0:=Blk.cell h.D.desk 0
 have p0:=h.D.book.1.cell 0
 have r0:=Blk.cell h.R.desk 0
 have p4:=h.R.book.cell 4
 have Z:=Blk.cell t1 2
 have x3:=Blk.cell t1 3
 rw[hn] at k1 k2 k3 s1 s2 z1 z2 P Z x3
 simp[Qf9] at s r d0 p0 r0 p4 Z x3
 have K1:=Zh k1
 have K2:=Zh k2
 have K3:=Zh k3
 have S1:=Zh s1
 have S2:=Zh s2
 have Z1:=Zh z1
 have Z2:=Zh z2
 have H0:=Zh h
 have S:=Zh O
 have c5:C5 w ⟨gB,1,none⟩ ⟨u,0,none⟩ ⟨F,4,none⟩ ⟨q,2,none⟩ ⟨q,3,none⟩ (.pointer (some ⟨u,0,none⟩)) (.pointer (some ⟨F,0,none⟩)) (.pointer (some ⟨q,0,none⟩)) (.slice A1 n c1) (.slice A2 n c2):=⟨r,r0,p4,Z,x3⟩
 have d:=Zh c5
 clear k1 k2 k3 s1 s2 z1 z2 h O t1 Y t3 U M a2 a0 Q e2 e3 hn c5
 go_enter Tryz.func59,Tryz.ntmps59
 go_wp2_with fail
 refine(QcO w gb N _ S.out rfl).mono ?_
 rintro e w1 ⟨rfl,rfl⟩
 go_wp2_with fail
 have q1:((n:Int) != (n:Int))=false:=by simp
 refine Qg (fun w'=>ZB w w') (fun w'=>ZB w w') (fun k=>k==1 || k==7 || k==21 || k==27 || k==41) (fun _=>false) (fun _=>false) (by kernel_rfl) (by kernel_rfl) (Below.drew (Below.refl _ _)) (fun _ h=>h) ?_
 repeat ((first
  |(refine Qc (v:=?_) (by rfl) (by rfl) (fun w6 hSw=>?_) ?_;rotate_left;(·(obtain⟨C,I,z,T,K⟩:=C5.keep hSw d.out;go_simp;try with_reducible rfl)))
  |(refine Qd (v:=?_) (by rfl) (fun w6=>?_) ?_;rotate_left;(·(go_simp;try with_reducible rfl)))
  |refine Qe (by rfl) ?_);(try simp only[Act.put,pA,pB,pC]))
 refine QW (f:=?_) (args:=?_) (v:=.int .i64 (n:Int)) (by rfl) (by rfl) (fun w6 hSw=>?_) (fun _ h=>h) (fun w6 hSw=>?_) ?_
 rotate_left 2
 ·(skip;go_simp;first|done|(constructor<;>with_reducible rfl)|with_reducible rfl)
 ·(refine(K1.out _ hSw).mono ?_;rintro e G ⟨rfl,a⟩;exact⟨rfl,Qf hSw a⟩)
 (try simp only[Act.put,pA,pB,pC])
 repeat ((first
  |(refine Qc (v:=?_) (by rfl) (by rfl) (fun w6 hSw=>?_) ?_;rotate_left;(·(obtain⟨C,I,z,T,K⟩:=C5.keep hSw d.out;go_simp;try with_reducible rfl)))
  |(refine Qd (v:=?_) (by rfl) (fun w6=>?_) ?_;rotate_left;(·(go_simp;try with_reducible rfl)))
  |refine Qe (by rfl) ?_);(try simp only[Act.put,pA,pB,pC]))
 refine Qn (f:=?_) (args:=?_) (GotInts w n ((dec enc l).map Prod.fst)) (by rfl) (by rfl) (fun w6 hSw=>?_) (fun w6 hSw=>?_) (.inr (fun v6 w6 hT6=>?_)) (fun v6 hv6=>?_)
 rotate_left 2
 ·(skip;go_simp;first|done|(constructor<;>with_reducible rfl)|with_reducible rfl)
 ·(refine(K2.out _ hSw).mono ?_;rintro e G ⟨v5,rfl,E,a⟩;exact⟨v5,rfl,GotInts.mk_ Z1.out hSw E a⟩)
 ·(exact hT6.bel)
 obtain⟨w7,A7,c7,rfl,a5,-⟩:=hv6
 (try simp only[Act.put,pA,pB,pC])
 repeat ((first
  |(refine Qc (v:=?_) (by rfl) (by rfl) (fun w6 hSw=>?_) ?_;rotate_left;(·(obtain⟨C,I,z,T,K⟩:=C5.keep hSw d.out;go_simp;try with_reducible rfl)))
  |(refine Qd (v:=?_) (by rfl) (fun w6=>?_) ?_;rotate_left;(·(go_simp;try with_reducible rfl)))
  |refine Qe (by rfl) ?_);(try simp only[Act.put,pA,pB,pC]))
 refine QW (f:=?_) (args:=?_) (v:=.bool true) (by rfl) (by rfl) (fun w6 hSw=>?_) (fun _ h=>h.bel) (fun w6 hSw=>?_) ?_
 rotate_left 2
 ·(skip;go_simp;first|done|(constructor<;>with_reducible rfl)|with_reducible rfl)
 ·(refine(S1.out _ hSw.bel _ _ _ _ hSw.out.1).mono ?_;rintro e G ⟨rfl,a⟩;exact⟨rfl,hSw.keep a⟩)
 (try simp only[Act.put,pA,pB,pC])
 repeat ((first
  |(refine Qc (v:=?_) (by rfl) (by rfl) (fun w6 hSw=>?_) ?_;rotate_left;(·(obtain⟨C,I,z,T,K⟩:=C5.keep hSw d.out;go_simp;try with_reducible rfl)))
  |(refine Qd (v:=?_) (by rfl) (fun w6=>?_) ?_;rotate_left;(·(go_simp;try with_reducible rfl)))
  |refine Qe (by rfl) ?_);(try simp only[Act.put,pA,pB,pC]))
 refine Qn (f:=?_) (args:=?_) (GotInts w n ((QbS 0 0 (dec enc l)).map Prod.snd)) (by rfl) (by rfl) (fun w6 hSw=>?_) (fun w6 hSw=>?_) (.inr (fun v6 w6 hT6=>?_)) (fun v6 hv6=>?_)
 rotate_left 2
 ·(skip;go_simp;first|done|(constructor<;>with_reducible rfl)|with_reducible rfl)
 ·(refine(K3.out _ hSw.bel).mono ?_;rintro e G ⟨v5,rfl,E,a⟩;exact⟨v5,rfl,GotInts.mk_ Z2.out hSw.bel E a⟩)
 ·(exact hT6.bel)
 obtain⟨w8,A8,c8,rfl,a6,-⟩:=hv6
 (try simp only[Act.put,pA,pB,pC])
 repeat ((first
  |(refine Qc (v:=?_) (by rfl) (by rfl) (fun w6 hSw=>?_) ?_;rotate_left;(·(obtain⟨C,I,z,T,K⟩:=C5.keep hSw d.out;go_simp;try with_reducible rfl)))
  |(refine Qd (v:=?_) (by rfl) (fun w6=>?_) ?_;rotate_left;(·(go_simp;try with_reducible rfl)))
  |refine Qe (by rfl) ?_);(try simp only[Act.put,pA,pB,pC]))
 refine QW (f:=?_) (args:=?_) (v:=.bool true) (by rfl) (by rfl) (fun w6 hSw=>?_) (fun _ h=>h.bel) (fun w6 hSw=>?_) ?_
 rotate_left 2
 ·(skip;go_simp;first|done|(constructor<;>with_reducible rfl)|with_reducible rfl)
 ·(refine(S2.out _ hSw.bel _ _ _ _ hSw.out.1).mono ?_;rintro e G ⟨rfl,a⟩;exact⟨rfl,hSw.keep a⟩)
 (try simp only[Act.put,pA,pB,pC])
 repeat ((first
  |(refine Qc (v:=?_) (by rfl) (by rfl) (fun w6 hSw=>?_) ?_;rotate_left;(·(obtain⟨C,I,z,T,K⟩:=C5.keep hSw d.out;go_simp;try with_reducible rfl)))
  |(refine Qd (v:=?_) (by rfl) (fun w6=>?_) ?_;rotate_left;(·(go_simp;try with_reducible rfl)))
  |refine Qe (by rfl) ?_);(try simp only[Act.put,pA,pB,pC]))
 refine Qu ?_
 intro H L
 have j:=L.bel
 clear L s r d0 p0 r0 p4 Z x3
 have h:=H0.out
 have fB:=fun(w':World) (b:ZB w w')=>Qcl (h.both.below b)
 have fD:=fun(w':World) (b:ZB w w')=>QiF (Blk.below h.D.desk b)
 have fR:=fun(w':World) (b:ZB w w')=>QiF (Blk.below h.R.desk b)
 obtain⟨nat,t⟩:∃x,Qhq ((dec enc l).map Prod.fst) native=x:=⟨_,rfl⟩
 rw[t] at fD fR
 have FB:=Zh fB
 have FD:=Zh fD
 have FR:=Zh fR
 clear fB fD fR t h
 obtain⟨s,r⟩:=FB.out _ j
 obtain⟨-,-,-,-,-,-,-,d7,d8,d9⟩:=FD.out _ j
 have p:ZB w (H.alloc (.cells #[.bool false,.bool false,.int .i64 nat] 40)):=Qa j
 obtain⟨-,a3⟩:=FB.out _ p
 obtain⟨-,-,-,-,-,-,-,r7,r8,r9⟩:=FR.out _ p
 clear K1 K2 K3 S1 S2 Z1 Z2 S d H0 r
 go_wp2_with fail
 have X:=Blk.new H 40 #[.bool false,.bool false,.int .i64 nat]
 have o:=Blk.new (H.alloc (.cells #[.bool false,.bool false,.int .i64 nat] 40)) 40 #[.bool false,.bool false,.int .i64 nat]
 have i:=X.alloc (.cells #[.bool false,.bool false,.int .i64 nat] 40)
 have g:ZB w ((H.alloc (.cells #[.bool false,.bool false,.int .i64 nat] 40)).alloc (.cells #[.bool false,.bool false,.int .i64 nat] 40)):=Qa p
 have hx:(H.alloc (.cells #[.bool false,.bool false,.int .i64 nat] 40)).heap.size=H.heap.size+1:=by simp
 rw[hx] at o
 clear s a3 d7 d8 d9 r7 r8 r9 hx p j X
 obtain⟨w3,y⟩:∃x,(H.alloc (.cells #[.bool false,.bool false,.int .i64 nat] 40)).alloc (.cells #[.bool false,.bool false,.int .i64 nat] 40)=x:=⟨_,rfl⟩
 rw[y] at o i g
 rw[y]
 clear y
 have f5:=fun(w':World) (b:ZB w3 w')=>QaR (i.below b)
 have f6:=fun(w':World) (b:ZB w3 w')=>QaR (o.below b)
 have F5:=Zh f5
 have F6:=Zh f6
 clear f5 f6 i o
 have q2:(nat != nat)=false:=by simp
 refine Qg (fun w'=>ZB w3 w') (fun w'=>ZB w3 w') (fun k=>k==34) (fun _=>false) (fun _=>false) (by kernel_rfl) (by kernel_rfl) (Below.drew (Below.refl _ _)) (fun _ h=>h) ?_
 repeat ((first
  |(refine Qc (v:=?_) (by rfl) (by rfl) (fun w6 hSw=>?_) ?_;rotate_left;(·(obtain⟨C,I,z⟩:=F5.out _ hSw;obtain⟨z1,z2,z3⟩:=F6.out _ hSw;obtain⟨s,r⟩:=FB.out _ (Qf g hSw);obtain⟨-,-,-,d3,-,-,-,-,-,-⟩:=FD.out _ (Qf g hSw);obtain⟨-,-,-,r3,-,-,-,-,-,-⟩:=FR.out _ (Qf g hSw);go_simp;try with_reducible rfl)))
  |(refine Qd (v:=?_) (by rfl) (fun w6=>?_) ?_;rotate_left;(·(go_simp;try with_reducible rfl)))
  |refine Qe (by rfl) ?_);(try simp only[Act.put,pA,pB,pC]))
 refine QW (f:=?_) (args:=?_) (v:=.bool true) (by rfl) (by rfl) (fun w6 hSw=>?_) (fun _ h=>h) (fun w6 hSw=>?_) ?_
 rotate_left 2
 ·(skip;go_simp;first|done|(constructor<;>with_reducible rfl)|with_reducible rfl)
 ·(refine(QgR _).mono ?_;rintro e G ⟨rfl,a⟩;exact⟨rfl,Qf hSw a⟩)
 (try simp only[Act.put,pA,pB,pC])
 repeat ((first
  |(refine Qc (v:=?_) (by rfl) (by rfl) (fun w6 hSw=>?_) ?_;rotate_left;(·(obtain⟨C,I,z⟩:=F5.out _ hSw;go_simp;try with_reducible rfl)))
  |(refine Qd (v:=?_) (by rfl) (fun w6=>?_) ?_;rotate_left;(·(go_simp;try with_reducible rfl)))
  |refine Qe (by rfl) ?_);(try simp only[Act.put,pA,pB,pC]))
 refine Qu ?_
 intro w4 J
 have a:=Qf g J
 clear J F5 F6 q2 g
 go_wp2_with fail
 refine Qg (fun w'=>ZB w4 w') (fun w'=>ZB w4 w') (fun k=>k==32 || k==51) (fun _=>false) (fun _=>false) (by kernel_rfl) (by kernel_rfl) (Below.drew (Below.refl _ _)) (fun _ h=>h) ?_
 repeat ((first
  |(refine Qc (v:=?_) (by rfl) (by rfl) (fun w6 hSw=>?_) ?_;rotate_left;(·(obtain⟨s,r⟩:=FB.out _ (Qf a hSw);obtain⟨-,-,d2,-,d4,d5,d6,-,-,-⟩:=FD.out _ (Qf a hSw);obtain⟨-,-,r2,-,r4,r5,r6,-,-,-⟩:=FR.out _ (Qf a hSw);go_simp;try with_reducible rfl)))
  |(refine Qd (v:=?_) (by rfl) (fun w6=>?_) ?_;rotate_left;(·(go_simp;try with_reducible rfl)))
  |refine Qe (by rfl) ?_);(try simp only[Act.put,pA,pB,pC]))
 refine QW (f:=?_) (args:=?_) (v:=.bool true) (by rfl) (by rfl) (fun w6 hSw=>?_) (fun _ h=>h) (fun w6 hSw=>?_) ?_
 rotate_left 2
 ·(skip;go_simp;first|done|(constructor<;>with_reducible rfl)|with_reducible rfl)
 ·(refine(QgR _).mono ?_;rintro e G ⟨rfl,a⟩;exact⟨rfl,Qf hSw a⟩)
 (try simp only[Act.put,pA,pB,pC])
 repeat ((first
  |(refine Qc (v:=?_) (by rfl) (by rfl) (fun w6 hSw=>?_) ?_;rotate_left;(·(obtain⟨s,r⟩:=FB.out _ (Qf a hSw);obtain⟨-,-,d2,-,d4,d5,d6,-,-,-⟩:=FD.out _ (Qf a hSw);obtain⟨-,-,r2,-,r4,r5,r6,-,-,-⟩:=FR.out _ (Qf a hSw);go_simp;try with_reducible rfl)))
  |(refine Qd (v:=?_) (by rfl) (fun w6=>?_) ?_;rotate_left;(·(go_simp;try with_reducible rfl)))
  |refine Qe (by rfl) ?_);(try simp only[Act.put,pA,pB,pC]))
 refine QW (f:=?_) (args:=?_) (v:=.bool true) (by rfl) (by rfl) (fun w6 hSw=>?_) (fun _ h=>h) (fun w6 hSw=>?_) ?_
 rotate_left 2
 ·(skip;go_simp;first|done|(constructor<;>with_reducible rfl)|with_reducible rfl)
 ·(refine(QgR _).mono ?_;rintro e G ⟨rfl,a⟩;exact⟨rfl,Qf hSw a⟩)
 (try simp only[Act.put,pA,pB,pC])
 repeat ((first
  |(refine Qc (v:=?_) (by rfl) (by rfl) (fun w6 hSw=>?_) ?_;rotate_left;(·(obtain⟨s,r⟩:=FB.out _ (Qf a hSw);obtain⟨-,-,d2,-,d4,d5,d6,-,-,-⟩:=FD.out _ (Qf a hSw);obtain⟨-,-,r2,-,r4,r5,r6,-,-,-⟩:=FR.out _ (Qf a hSw);go_simp;try with_reducible rfl)))
  |(refine Qd (v:=?_) (by rfl) (fun w6=>?_) ?_;rotate_left;(·(go_simp;try with_reducible rfl)))
  |refine Qe (by rfl) ?_);(try simp only[Act.put,pA,pB,pC]))
 refine Qu ?_
 intro w6 W
 have a4:=Qf a W
 clear W
 go_wp2_with fail
 go_ret
 exact⟨rfl,a4⟩
end Go.Proofs.YtgiihhikdoikgaaGreat
