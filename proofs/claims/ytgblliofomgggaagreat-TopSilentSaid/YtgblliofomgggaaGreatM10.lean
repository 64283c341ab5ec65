import Derived.Test.YtgblliofomgggaaGreatM01
import Derived.Test.YtgblliofomgggaaGreatM05
import Derived.Test.YtgblliofomgggaaGreatM09
namespace Go.Proofs.YtgblliofomgggaaGreat
set_option maxRecDepth 100000
set_option maxHeartbeats 4000000
open Go.RowKit a7 bA
open Go.IntKind renaming i64 -> af,u64 -> ak
open Go.Value renaming int -> I,slice -> Y,pointer -> aL,agg -> aE
theorem hj(a:Int)(h: -1000<=a/\a<=1000):(Lit.int .i64 a).wf=true:=ei (by omega)
theorem zv(q base aq:Nat)(S _S9:Nat->Prop)(vL vP:Value)(l p:List ae)(n:Nat)(w:World)
 (hq:ai w q 49 (bp aq vL vP)) (h:cu w base S vL vP l p) (hS:S q) (az:∀b,S b->b<w.heap.size) (_av:base<=w.heap.size)
 (bA:aq<n) (ad:n<18446744073709551616):
 Calls Tryz.prog 73 #[aj q,ez n] w λe w'=>e=.returned (ag 0)/\∃aE aD,ai w' q 49 (bp n aE aD)/\cu w' base S aE aD l p/\aw (kX q vL vP) w w'/\
  (∀b,aE.ownBlock=some b->vL.ownBlock=some b\/w.heap.size<=b)/\∀b,aD.ownBlock=some b->vP.ownBlock=some b\/w.heap.size<=b:=by
 obtain⟨w0,ar⟩:=am ((w.alloc (.cells #[aj q] 165)).alloc (.cells (ez n) 161));have aU:Below w w w0:=by rw[ar];exact((Below.refl _ _).alloc (Nat.le_refl _) _).alloc (by simp) _
 have aS:ai w0 w 165 #[aj q]:=by rw[ar];exact(ai.made _ _ _).alloc _
 have ay:ai w0 (w.heap.size+1) 161 (ez n):=by
  rw[ar];have:=ai.made (w.alloc (.cells #[aj q] 165)) 161 (ez n);simpa using this
 have aC:w0.heap.size=w.heap.size+2:=by rw[ar];simp
 obtain⟨pb,bl⟩:=am w.heap.size;obtain⟨rb,bh⟩:=am (w.heap.size+1);rw[<-bl]at aS;rw[<-bh]at ay;have pk:=nV n w0 ad;have HH:=dx hq h hS az;have aK:=Lib.hid bl;have bn:=Lib.hid bh;have b7:=Lib.hid aC;clear hq h hS az bl bh aC;go_enter Tryz.func73,Tryz.ntmps73;go_wp2_with fail;rw[<-ar,<-bn.out,<-aK.out];clear ar;refine pk.mono ?_;clear pk;rintro e w1 ⟨uu,rfl,aQ,b1⟩;have bz:=ay.below b1 ay.lt;have a8:=aS.below b1 aS.lt;have m0:dh (w1.alloc (.map #[] 0)) w1 (λ_=>none):=dh.made w1;obtain⟨B,hB⟩:=am w1.heap.size;rw[<-hB]at m0;obtain⟨n1,u1,m1,g1,s1⟩:=bo Tryz.underlying218 m0 (.func (.func 137) #[] #[aj rb,aj pb]) (hj 1 (by omega));obtain⟨aZ,u2,m2,g2,s2⟩:=bo Tryz.underlying218 m1 (.func (.func 138) #[] #[aj rb,aj pb]) (hj 2 (by omega));obtain⟨n3,u3,m3,g3,s3⟩:=bo Tryz.underlying218 m2 (.func (.func 141) #[] #[aj rb,aj pb]) (hj 3 (by omega));obtain⟨n4,u4,m4,g4,s4⟩:=bo Tryz.underlying218 m3 (.func (.func 143) #[] #[aj pb,aj rb]) (hj 4 (by omega));obtain⟨n5,u5,m5,g5,s5⟩:=bo Tryz.underlying218 m4 (.func (.func 144) #[] #[aj pb,aj rb]) (hj 5 (by omega));have aR:(Instr.makeMap 218 none).run Tryz.prog w1=.ok (.map (some B)) (w1.alloc (.map #[] 0)):=by rw[hB];rfl
 have lk:=dG Tryz.underlying218 m5 (hj 1 (by omega)) (v:=.func (.func 137) #[] #[aj rb,aj pb]) (by simp) true;simp only[if_true]at lk;have J:(w1.alloc (.map #[] 0)).grownBy n5 (some B):=bX (bX (bX (bX g1 g2) g3) g4) g5;have bC:=(Below.refl w1 w1).alloc (Nat.le_refl _) (.map #[] 0);have bm:Below w1 w1 n5:=bC.grown J bC.size (λk e=>by injection e with e;omega);have aF:=bz.below bm bz.lt;have b0:=a8.below bm a8.lt;have x0:=aF.cell 0;simp at x0;have HB:=Lib.hid hB;have aJ:Below w w n5:=aU.trans ((b1.mono aU.size).trans (bm.mono (Nat.le_trans aU.size b1.size)));have ah:∃A9 n9 c9,uu=Y A9 n9 c9:=by
  obtain⟨A9,n9,c9,e,_⟩:=aQ.open_;exact⟨A9,n9,c9,e⟩
 obtain⟨A9,n9,c9,rfl⟩:=ah;have cl:=oJ rb pb q n aq vL vP n5 aF b0 (HH.out.1.below aJ HH.out.1.lt) bA;clear m0 m1 m2 m3 m4 m5 g1 g2 g3 g4 g5 s1 s2 s3 s4 s5 J hB aQ;go_wp2_with fail;refine cl.mono ?_;clear cl;rintro e w2 ⟨rfl,bS,t2⟩;go_wp2;go_ret;have bJ:=aJ.size;have M:Goes (λb=>b=q) n5 (λb=>b=q) w2:=⟨t2.os,t2.tape,t2.output,t2.size,t2.aI,λ_ _ h=>h⟩;have I:=HH.out.2.1.below aJ;have ak:∀b,vL.ownBlock=some b->¬b=q:=λb a7 e=>HH.out.2.1.sL b a7 (e▸HH.out.2.2.1);have au:∀b,vP.ownBlock=some b->¬b=q:=λb a7 e=>HH.out.2.1.sP b a7 (e▸HH.out.2.2.1);have af:Goes (λb=>S b\/vP.ownBlock=some b) n5 (λb=>S b\/vP.ownBlock=some b) w2:=⟨t2.os,t2.tape,t2.output,t2.size,λb a7 aL=>t2.aI b a7 (λe=>aL (.inl (e▸HH.out.2.2.1))),λ_ _ h=>h⟩;have aa:Goes (λb=>S b\/vL.ownBlock=some b) n5 (λb=>S b\/vL.ownBlock=some b) w2:=⟨t2.os,t2.tape,t2.output,t2.size,λb a7 aL=>t2.aI b a7 (λe=>aL (.inl (e▸HH.out.2.2.1))),λ_ _ h=>h⟩;refine⟨rfl,vL,vP,bS,⟨I.L.goes af (λb a7 e=>e.elim (I.sL b a7) (λe=>I.ne b a7 e)),I.P.goes aa (λb a7 e=>e.elim (I.sP b a7) (λe=>I.ne b e a7)),I.ne,I.sL,I.sP⟩,(aw.ao aJ _).trans t2 (λb _ e=>.inl e),λb a7=>.inl a7,λb a7=>.inl a7⟩
theorem vN{P:Prop}(h:P:=by
 clear m0 m1 m2 m3 m4 m5 g1 g2 g3 g4 g5 s1 s2 s3 s4 s5 J hB aQ;go_wp2_with fail;refine cl.mono ?_;clear cl;rintro e w2 ⟨rfl,I,M,bS,ad,t2,a5,a2⟩;go_wp2;go_ret;have bJ:=aJ.size;refine⟨rfl,I,M,bS,ad.wide (λb _ a7=>.inl a7),(aw.ao aJ _).trans t2 (λb _ e=>e),λb a7=>(a5 b a7).imp id (λh=>Nat.le_trans bJ h),λb a7=>(a2 b a7).imp id (λh=>Nat.le_trans bJ h)⟩
 ):P:=h
theorem o5(q base aq:Nat)(S S9:Nat->Prop)(vL vP:Value)(l p:List ae)(n:Nat)(x:ae)(A:Option Addr)(c:Nat)(w:World)
 (hq:ai w q 49 (bp aq vL vP)) (h:cu w base S vL vP l p) (hS:S q) (az:∀b,S b->b<w.heap.size) (av:base<=w.heap.size)
 (aL:n=l.length) (aA:bd l x.id=false) (hg:x.aH) (hx:SliceAt aN w S9 A x.events) (a9:l.length<=1000) (aX:p.length<=1):
 Calls Tryz.prog 73 #[aj q,eq n x A c] w λe w'=>e=.returned (ag 0)/\∃aE aD,ai w' q 49 (bp aq aE aD)/\cu w' base S aE aD (l++[x]) (p.filter λy=> !decide (y.id=x.id))/\aw (kX q vL vP) w w'/\
  (∀b,aE.ownBlock=some b->vL.ownBlock=some b\/w.heap.size<=b)/\∀b,aD.ownBlock=some b->vP.ownBlock=some b\/w.heap.size<=b:=by
 obtain⟨w0,ar⟩:=am ((w.alloc (.cells #[aj q] 165)).alloc (.cells (eq n x A c) 161));have aU:Below w w w0:=by rw[ar];exact((Below.refl _ _).alloc (Nat.le_refl _) _).alloc (by simp) _
 have aS:ai w0 w 165 #[aj q]:=by rw[ar];exact(ai.made _ _ _).alloc _
 have ay:ai w0 (w.heap.size+1) 161 (eq n x A c):=by
  rw[ar];have:=ai.made (w.alloc (.cells #[aj q] 165)) 161 (eq n x A c);simpa using this
 have aC:w0.heap.size=w.heap.size+2:=by rw[ar];simp
 obtain⟨pb,bl⟩:=am w.heap.size;obtain⟨rb,bh⟩:=am (w.heap.size+1);rw[<-bl]at aS;rw[<-bh]at ay;have pk:=mj n x A c S9 w0 (by omega) hg (hx.below aU);have HH:=dx hq h hS az;have aK:=Lib.hid bl;have bn:=Lib.hid bh;have b7:=Lib.hid aC;have HX:=fm hx hg aA;have HN:=Lib.hid aL;clear hq h hS az bl bh aC hx hg aA aL;go_enter Tryz.func73,Tryz.ntmps73;go_wp2_with fail;rw[<-ar,<-bn.out,<-aK.out];clear ar;refine pk.mono ?_;clear pk;rintro e w1 ⟨uu,rfl,aQ,b1⟩;have bz:=ay.below b1 ay.lt;have a8:=aS.below b1 aS.lt;have m0:dh (w1.alloc (.map #[] 0)) w1 (λ_=>none):=dh.made w1;obtain⟨B,hB⟩:=am w1.heap.size;rw[<-hB]at m0;obtain⟨n1,u1,m1,g1,s1⟩:=bo Tryz.underlying218 m0 (.func (.func 137) #[] #[aj rb,aj pb]) (hj 1 (by omega));obtain⟨aZ,u2,m2,g2,s2⟩:=bo Tryz.underlying218 m1 (.func (.func 138) #[] #[aj rb,aj pb]) (hj 2 (by omega));obtain⟨n3,u3,m3,g3,s3⟩:=bo Tryz.underlying218 m2 (.func (.func 141) #[] #[aj rb,aj pb]) (hj 3 (by omega));obtain⟨n4,u4,m4,g4,s4⟩:=bo Tryz.underlying218 m3 (.func (.func 143) #[] #[aj pb,aj rb]) (hj 4 (by omega));obtain⟨n5,u5,m5,g5,s5⟩:=bo Tryz.underlying218 m4 (.func (.func 144) #[] #[aj pb,aj rb]) (hj 5 (by omega));have aR:(Instr.makeMap 218 none).run Tryz.prog w1=.ok (.map (some B)) (w1.alloc (.map #[] 0)):=by rw[hB];rfl
 have lk:=dG Tryz.underlying218 m5 (hj 2 (by omega)) (v:=.func (.func 138) #[] #[aj rb,aj pb]) (by simp) true;simp only[if_true]at lk;have J:(w1.alloc (.map #[] 0)).grownBy n5 (some B):=bX (bX (bX (bX g1 g2) g3) g4) g5;have bC:=(Below.refl w1 w1).alloc (Nat.le_refl _) (.map #[] 0);have bm:Below w1 w1 n5:=bC.grown J bC.size (λk e=>by injection e with e;omega);have aF:=bz.below bm bz.lt;have b0:=a8.below bm a8.lt;have x0:=aF.cell 0;simp at x0;have HB:=Lib.hid hB;have aJ:Below w w n5:=aU.trans ((b1.mono aU.size).trans (bm.mono (Nat.le_trans aU.size b1.size)));have ah:∃A9 n9 c9,uu=Y A9 n9 c9:=by
  obtain⟨A9,n9,c9,e,_⟩:=aQ.open_;exact⟨A9,n9,c9,e⟩
 obtain⟨A9,n9,c9,rfl⟩:=ah;have cl:=oe rb pb q base (λb=>S b\/b=rb\/b=pb) S9 aq vL vP l p n x A c n5 aF b0 (HH.out.1.below aJ HH.out.1.lt) ((HH.out.2.1.wide (λb a7 e=>e.elim id (λe=>by have:=aK.out;have:=bn.out;omega))).below aJ) ⟨.inl HH.out.2.2.1,.inr (.inl rfl),.inr (.inr rfl)⟩ (λb a7=>by have h1:=HH.out.2.2.2;have h2:=aJ.size;have a1:=aF.lt;have h4:=b0.lt;exact a7.elim (λa7=>Nat.lt_of_lt_of_le (h1 b a7) h2) (λa7=>a7.elim (λe=>e▸a1) (λe=>e▸h4))) (Nat.le_trans av aJ.size) HN.out HX.out.2.2 HX.out.2.1 (HX.out.1.below aJ) a9 aX;exact vN
theorem l0(q base aq:Nat)(S S9:Nat->Prop)(vL vP:Value)(l p:List ae)(x:ae)(A:Option Addr)(c:Nat)(w:World)
 (hq:ai w q 49 (bp aq vL vP)) (h:cu w base S vL vP l p) (hS:S q) (az:∀b,S b->b<w.heap.size) (av:base<=w.heap.size)
 (aA:bd l x.id=false) (aL:bd p x.id=false) (hg:x.aH) (hx:SliceAt aN w S9 A x.events) (a9:l.length<=1000) (aX:p.length<=1):
 Calls Tryz.prog 73 #[aj q,ey x A c] w λe w'=>e=.returned (ag 0)/\∃aE aD,ai w' q 49 (bp aq aE aD)/\cu w' base S aE aD l (p++[x])/\aw (kX q vL vP) w w'/\
  (∀b,aE.ownBlock=some b->vL.ownBlock=some b\/w.heap.size<=b)/\∀b,aD.ownBlock=some b->vP.ownBlock=some b\/w.heap.size<=b:=by
 obtain⟨w0,ar⟩:=am ((w.alloc (.cells #[aj q] 165)).alloc (.cells (ey x A c) 161));have aU:Below w w w0:=by rw[ar];exact((Below.refl _ _).alloc (Nat.le_refl _) _).alloc (by simp) _
 have aS:ai w0 w 165 #[aj q]:=by rw[ar];exact(ai.made _ _ _).alloc _
 have ay:ai w0 (w.heap.size+1) 161 (ey x A c):=by
  rw[ar];have:=ai.made (w.alloc (.cells #[aj q] 165)) 161 (ey x A c);simpa using this
 have aC:w0.heap.size=w.heap.size+2:=by rw[ar];simp
 obtain⟨pb,bl⟩:=am w.heap.size;obtain⟨rb,bh⟩:=am (w.heap.size+1);rw[<-bl]at aS;rw[<-bh]at ay;have pk:=j3 x A c S9 w0 hg (hx.below aU);have HH:=dx hq h hS az;have aK:=Lib.hid bl;have bn:=Lib.hid bh;have b7:=Lib.hid aC;have HX:=fm hx hg aA;have HN:=Lib.hid aL;clear hq h hS az bl bh aC hx hg aA aL;go_enter Tryz.func73,Tryz.ntmps73;go_wp2_with fail;rw[<-ar,<-bn.out,<-aK.out];clear ar;refine pk.mono ?_;clear pk;rintro e w1 ⟨uu,rfl,aQ,b1⟩;have bz:=ay.below b1 ay.lt;have a8:=aS.below b1 aS.lt;have m0:dh (w1.alloc (.map #[] 0)) w1 (λ_=>none):=dh.made w1;obtain⟨B,hB⟩:=am w1.heap.size;rw[<-hB]at m0;obtain⟨n1,u1,m1,g1,s1⟩:=bo Tryz.underlying218 m0 (.func (.func 137) #[] #[aj rb,aj pb]) (hj 1 (by omega));obtain⟨aZ,u2,m2,g2,s2⟩:=bo Tryz.underlying218 m1 (.func (.func 138) #[] #[aj rb,aj pb]) (hj 2 (by omega));obtain⟨n3,u3,m3,g3,s3⟩:=bo Tryz.underlying218 m2 (.func (.func 141) #[] #[aj rb,aj pb]) (hj 3 (by omega));obtain⟨n4,u4,m4,g4,s4⟩:=bo Tryz.underlying218 m3 (.func (.func 143) #[] #[aj pb,aj rb]) (hj 4 (by omega));obtain⟨n5,u5,m5,g5,s5⟩:=bo Tryz.underlying218 m4 (.func (.func 144) #[] #[aj pb,aj rb]) (hj 5 (by omega));have aR:(Instr.makeMap 218 none).run Tryz.prog w1=.ok (.map (some B)) (w1.alloc (.map #[] 0)):=by rw[hB];rfl
 have lk:=dG Tryz.underlying218 m5 (hj 3 (by omega)) (v:=.func (.func 141) #[] #[aj rb,aj pb]) (by simp) true;simp only[if_true]at lk;have J:(w1.alloc (.map #[] 0)).grownBy n5 (some B):=bX (bX (bX (bX g1 g2) g3) g4) g5;have bC:=(Below.refl w1 w1).alloc (Nat.le_refl _) (.map #[] 0);have bm:Below w1 w1 n5:=bC.grown J bC.size (λk e=>by injection e with e;omega);have aF:=bz.below bm bz.lt;have b0:=a8.below bm a8.lt;have x0:=aF.cell 0;simp at x0;have HB:=Lib.hid hB;have aJ:Below w w n5:=aU.trans ((b1.mono aU.size).trans (bm.mono (Nat.le_trans aU.size b1.size)));have ah:∃A9 n9 c9,uu=Y A9 n9 c9:=by
  obtain⟨A9,n9,c9,e,_⟩:=aQ.open_;exact⟨A9,n9,c9,e⟩
 obtain⟨A9,n9,c9,rfl⟩:=ah;have cl:=lC rb pb q base (λb=>S b\/b=rb\/b=pb) S9 aq vL vP l p x A c n5 aF b0 (HH.out.1.below aJ HH.out.1.lt) ((HH.out.2.1.wide (λb a7 e=>e.elim id (λe=>by have:=aK.out;have:=bn.out;omega))).below aJ) ⟨.inl HH.out.2.2.1,.inr (.inl rfl),.inr (.inr rfl)⟩ (λb a7=>by have h1:=HH.out.2.2.2;have h2:=aJ.size;have a1:=aF.lt;have h4:=b0.lt;exact a7.elim (λa7=>Nat.lt_of_lt_of_le (h1 b a7) h2) (λa7=>a7.elim (λe=>e▸a1) (λe=>e▸h4))) (Nat.le_trans av aJ.size) HX.out.2.2 HN.out HX.out.2.1 (HX.out.1.below aJ) a9 aX;exact vN
theorem s6{P:Prop}(h:P:=by
 go_wp2_with fail;rw[<-a8,<-HQ.out];clear a8;refine oc.mono ?_;clear oc;rintro e w3 ⟨rfl,bm,bb,a0,aP,t3,a5,a2⟩;obtain⟨aZ,ao,ak,rfl,bv,bD⟩:=aP.L.form;obtain⟨aI,aS,aF,rfl,bB,bt⟩:=aP.P.form;have a3:¬kX q (Y AL nL cL) (Y AP nP cP) ob:=λe=>by
  have h1:=J.lt;rcases e with e | e | e
  ·omega
  ·have:=(aQ.L.lt e).1;omega
  ·have:=(aQ.P.lt e).1;omega
 have aY:=t3.aW bZ a3;have aR:q≠ob:=λe=>a3 (.inl e.symm);obtain⟨q0,q1,q2,q3⟩:=a0.c4;obtain⟨cl,bc,o2,o3⟩:=aY.c4;have bq:=aY.free 0;have bk:=aY.free 1;have bi:=aY.free 2;have bj:=aY.free 3;simp at q0 q1 q2 q3 cl bc o2 o3;clear r0 r1 bf r3 r4 r5 r6 r7 r8 r9 ce bX aD;go_wp2_with fail;have RZ:=(((aY.put 0 (av aq)).put 1 (Y aZ ao ak)).put 2 (Y aI aS aF)).put 3 aa;simp only[List.setIfInBounds_toArray,List.set_cons_zero,List.set_cons_succ]at RZ;have gz:=bl ob (bT aq aZ ao ak aI aS aF) w3 0;refine bodyPost_ret (bI rfl _ _ ob 49 _ (0,0) _ rfl RZ Tryz.underlying49 rfl (by kernel_rfl)) rfl ?_;have br:Below w w w3:=bo.trans (t3.below bo.size (λb a7 e=>by
  have hz:=HH.out.1;rcases e with e | e | e
  ·omega
  ·have:=(ad.L.lt e).1;have:=aU.size;omega
  ·have:=(ad.P.lt e).1;have:=aU.size;omega))
 have a1:w.heap.size<=ob:=by have:=aE.out;omega
 have aM:(λb=>b<w0.heap.size\/b=q) ob:=.inl J.lt;have aJ:=(((((aP.put aM 0 (av aq)).put aM 1 (Y aZ ao ak)).put aM 2 (Y aI aS aF)).put aM 3 aa).mono aU.size).wide (S':=λb=>b<w.heap.size) (λb _ a7=>.inl (Nat.lt_of_lt_of_le a7 aU.size));exact⟨_,_,rfl,aJ,br.grown gz br.size (λk e=>by injection e with e;omega)⟩
 ):P:=h
theorem rm(aq:Nat)(S1 S2 S9:Nat->Prop)(A9 A8:Option Addr)(n9 c9 bK c8:Nat)(l p:List ae)(n:Nat)(x:ae)(A:Option Addr)(c:Nat)(w:World)
 (h9:n9=l.length) (af:SliceAt aB w S1 A9 l) (M:∀x∈l,x.aH) (h8:bK=p.length) (ax:SliceAt aB w S2 A8 p) (au:∀x∈p,x.aH)
 (aL:n=l.length) (aA:bd l x.id=false) (hg:x.aH) (hx:SliceAt aN w S9 A x.events) (a9:l.length<=900) (aX:p.length<=1):
 Calls Tryz.prog 276 #[bT aq A9 n9 c9 A8 bK c8,eq n x A c] w λe w'=>∃vL vP,e=.returned (.tuple #[bp aq vL vP,ag 0])/\cu w' w (λb=>b<w.heap.size) vL vP (l++[x]) (p.filter λy=> !decide (y.id=x.id))/\Below w w w':=by
 have a9:l.length<=1000:=by omega
 obtain⟨w0,ar⟩:=am (((w.alloc (.cells (bT aq A9 n9 c9 A8 bK c8) 49)).alloc (.cells (eq n x A c) 161)).alloc (.cells (bp 0 aa aa) 49));have aU:Below w w w0:=by rw[ar];exact(((Below.refl _ _).alloc (Nat.le_refl _) _).alloc (by simp) _).alloc (by simp;omega) _
 have cg:ai w0 w 49 (bT aq A9 n9 c9 A8 bK c8):=by rw[ar];exact((ai.made _ _ _).alloc _).alloc _
 have ay:ai w0 (w.heap.size+1) 161 (eq n x A c):=by
  rw[ar];have:=(ai.made (w.alloc (.cells (bT aq A9 n9 c9 A8 bK c8) 49)) 161 (eq n x A c)).alloc (.cells (bp 0 aa aa) 49);simpa using this
 have J:ai w0 (w.heap.size+1+1) 49 (bp 0 aa aa):=by
  rw[ar];have:=ai.made ((w.alloc (.cells (bT aq A9 n9 c9 A8 bK c8) 49)).alloc (.cells (eq n x A c) 161)) 49 (bp 0 aa aa);simpa using this
 have aC:w0.heap.size=w.heap.size+3:=by rw[ar];simp
 obtain⟨tb,bg⟩:=am w.heap.size;obtain⟨rb,bh⟩:=am (w.heap.size+1);obtain⟨ob,bw⟩:=am (w.heap.size+1+1);rw[<-bg]at cg;rw[<-bh]at ay;rw[<-bw]at J;have cp:=jX S1 S2 aq A9 A8 n9 c9 bK c8 l p w0 h9 (by omega) (af.below aU) M h8 (by omega) (ax.below aU) au;have HH:=dx aC hx aL aA;have ch:=Lib.hid bg;have bn:=Lib.hid bh;have aE:=Lib.hid bw;clear h9 af M h8 ax au hx bg bh bw aC aL aA;go_enter Tryz.func276,Tryz.ntmps276;go_wp2_with fail;rw[<-ar,<-aE.out,<-bn.out,<-ch.out];clear ar;refine cp.mono ?_;clear cp;rintro e w1 ⟨vL,vP,rfl,aQ,b1⟩;obtain⟨w2,a8⟩:=am (w1.alloc (.cells (bp aq vL vP) 49));have bC:=aV a8;have bo:Below w w w2:=aU.trans ((b1.mono aU.size).trans (bC.mono (Nat.le_trans aU.size b1.size)));obtain⟨q,ah⟩:=am w1.heap.size;have aj:ai w2 q 49 (bp aq vL vP):=by rw[a8,ah];exact ai.made _ _ _
 have bN:=(ay.below b1 ay.lt).below bC (ay.below b1 ay.lt).lt;have bZ:=(J.below b1 J.lt).below bC (J.below b1 J.lt).lt;have cV:=(cg.below b1 cg.lt).below bC (cg.below b1 cg.lt).lt;have aK:w0.heap.size<=w2.heap.size:=Nat.le_trans b1.size bC.size;have bx:w0.heap.size<=q:=by rw[ah];exact b1.size
 have ad:cu w2 w0 (λb=>b<w0.heap.size\/b=q) vL vP l p:=
  (aQ.wide (λb a7 e=>e.elim id (λe=>by omega))).below bC
 have az:∀b,(b<w0.heap.size\/b=q)->b<w2.heap.size:=λb a7=>a7.elim (λh=>by omega) (λh=>by rw[h];exact aj.lt);have aT:=HH.out.2.1.below bo;have aO:=HH.out.2.2.1;have I:=HH.out.2.2.2;have oc:=o5 q w0 aq (λb=>b<w0.heap.size\/b=q) S9 _ _ l p n x A c w2 aj ad (.inr rfl) az aK aO I hg aT a9 aX;obtain⟨AL,nL,cL,rfl,bs,ba⟩:=ad.L.form;obtain⟨AP,nP,cP,rfl,bU,b9⟩:=ad.P.form;have HQ:=Lib.hid ah;have bz:=ay.below b1 ay.lt;have aG:=bz.lt;obtain⟨r0,r1,bf,r3,r4,r5,r6,r7,r8,r9,ce,bX,aD⟩:=bz.yH;simp at r0 r1 bf r3 r4 r5 r6 r7 r8 r9 ce bX aD;clear ah aT aO I az;exact s6
theorem oX(aq:Nat)(S1 S2 S9:Nat->Prop)(A9 A8:Option Addr)(n9 c9 bK c8:Nat)(l p:List ae)(x:ae)(A:Option Addr)(c:Nat)(w:World)
 (h9:n9=l.length) (af:SliceAt aB w S1 A9 l) (M:∀x∈l,x.aH) (h8:bK=p.length) (ax:SliceAt aB w S2 A8 p) (au:∀x∈p,x.aH)
 (aA:bd l x.id=false) (aL:bd p x.id=false) (hg:x.aH) (hx:SliceAt aN w S9 A x.events) (a9:l.length<=900) (aX:p.length<=1):
 Calls Tryz.prog 276 #[bT aq A9 n9 c9 A8 bK c8,ey x A c] w λe w'=>∃vL vP,e=.returned (.tuple #[bp aq vL vP,ag 0])/\cu w' w (λb=>b<w.heap.size) vL vP l (p++[x])/\Below w w w':=by
 have a9:l.length<=1000:=by omega
 obtain⟨w0,ar⟩:=am (((w.alloc (.cells (bT aq A9 n9 c9 A8 bK c8) 49)).alloc (.cells (ey x A c) 161)).alloc (.cells (bp 0 aa aa) 49));have aU:Below w w w0:=by rw[ar];exact(((Below.refl _ _).alloc (Nat.le_refl _) _).alloc (by simp) _).alloc (by simp;omega) _
 have cg:ai w0 w 49 (bT aq A9 n9 c9 A8 bK c8):=by rw[ar];exact((ai.made _ _ _).alloc _).alloc _
 have ay:ai w0 (w.heap.size+1) 161 (ey x A c):=by
  rw[ar];have:=(ai.made (w.alloc (.cells (bT aq A9 n9 c9 A8 bK c8) 49)) 161 (ey x A c)).alloc (.cells (bp 0 aa aa) 49);simpa using this
 have J:ai w0 (w.heap.size+1+1) 49 (bp 0 aa aa):=by
  rw[ar];have:=ai.made ((w.alloc (.cells (bT aq A9 n9 c9 A8 bK c8) 49)).alloc (.cells (ey x A c) 161)) 49 (bp 0 aa aa);simpa using this
 have aC:w0.heap.size=w.heap.size+3:=by rw[ar];simp
 obtain⟨tb,bg⟩:=am w.heap.size;obtain⟨rb,bh⟩:=am (w.heap.size+1);obtain⟨ob,bw⟩:=am (w.heap.size+1+1);rw[<-bg]at cg;rw[<-bh]at ay;rw[<-bw]at J;have cp:=jX S1 S2 aq A9 A8 n9 c9 bK c8 l p w0 h9 (by omega) (af.below aU) M h8 (by omega) (ax.below aU) au;have HH:=dx aC hx aA aL;have ch:=Lib.hid bg;have bn:=Lib.hid bh;have aE:=Lib.hid bw;clear h9 af M h8 ax au hx bg bh bw aC aA aL;go_enter Tryz.func276,Tryz.ntmps276;go_wp2_with fail;rw[<-ar,<-aE.out,<-bn.out,<-ch.out];clear ar;refine cp.mono ?_;clear cp;rintro e w1 ⟨vL,vP,rfl,aQ,b1⟩;obtain⟨w2,a8⟩:=am (w1.alloc (.cells (bp aq vL vP) 49));have bC:=aV a8;have bo:Below w w w2:=aU.trans ((b1.mono aU.size).trans (bC.mono (Nat.le_trans aU.size b1.size)));obtain⟨q,ah⟩:=am w1.heap.size;have aj:ai w2 q 49 (bp aq vL vP):=by rw[a8,ah];exact ai.made _ _ _
 have bN:=(ay.below b1 ay.lt).below bC (ay.below b1 ay.lt).lt;have bZ:=(J.below b1 J.lt).below bC (J.below b1 J.lt).lt;have cV:=(cg.below b1 cg.lt).below bC (cg.below b1 cg.lt).lt;have aK:w0.heap.size<=w2.heap.size:=Nat.le_trans b1.size bC.size;have bx:w0.heap.size<=q:=by rw[ah];exact b1.size
 have ad:cu w2 w0 (λb=>b<w0.heap.size\/b=q) vL vP l p:=
  (aQ.wide (λb a7 e=>e.elim id (λe=>by omega))).below bC
 have az:∀b,(b<w0.heap.size\/b=q)->b<w2.heap.size:=λb a7=>a7.elim (λh=>by omega) (λh=>by rw[h];exact aj.lt);have aT:=HH.out.2.1.below bo;have aw:=HH.out.2.2.2;have I:=HH.out.2.2.1;have oc:=l0 q w0 aq (λb=>b<w0.heap.size\/b=q) S9 _ _ l p x A c w2 aj ad (.inr rfl) az aK I aw hg aT a9 aX;obtain⟨AL,nL,cL,rfl,bs,ba⟩:=ad.L.form;obtain⟨AP,nP,cP,rfl,bU,b9⟩:=ad.P.form;have HQ:=Lib.hid ah;have bz:=ay.below b1 ay.lt;have aG:=bz.lt;obtain⟨r0,r1,bf,r3,r4,r5,r6,r7,r8,r9,ce,bX,aD⟩:=bz.yH;simp at r0 r1 bf r3 r4 r5 r6 r7 r8 r9 ce bX aD;clear ah aT aw I az;exact s6
inductive bG where
 | aq (n:Nat)
 | entry (n:Nat) (x:ae)
 | promise (x:ae)
def bG.enc:bG->List UInt8
 | .aq n=>Pk.az 1++(Pk.az n++[])
 | .entry n x=>Pk.az 2++(Pk.az n++(Pk.aQ x.enc++[]))
 | .promise x=>Pk.az 3++(Pk.az 0++(Pk.aQ x.enc++[]))
structure a4 where
 aq:Nat
 list:List ae
 ay:List ae
def a4.zero:a4:=⟨0,[],[]⟩
def a4.after(s:a4):bG->a4
 | .aq n=>⟨n,s.list,s.ay⟩
 | .entry _ x=>⟨s.aq,s.list++[x],s.ay.filter λy=> !decide (y.id=x.id)⟩
 | .promise x=>⟨s.aq,s.list,s.ay++[x]⟩
def a4.takes(s:a4):bG->Prop
 | .aq n=>s.aq<n/\n<18446744073709551616
 | .entry n x=>n=s.list.length/\bd s.list x.id=false/\x.aH/\s.list.length<=900/\s.ay.length<=1
 | .promise x=>bd s.list x.id=false/\bd s.ay x.id=false/\x.aH/\s.list.length<=900/\s.ay.length<=1
def a4.run(s:a4)(l:List bG):a4:=l.foldl a4.after s
def a4.e6(s:a4):List bG->Prop
 | []=>True
 | r::l=>s.takes r/\(s.after r).e6 l
theorem a4.pP:∀ (s:a4) (l:List bG) (i:Nat) (h:i<l.length),s.e6 l->(s.run (l.take i)).takes l[i]
 | s,[],i,h,_=>by simp at h
 | s,_::l,0,_,ha=>ha.1
 | s,r::l,i+1,h,ha=>a4.pP (s.after r) l i (by simpa using h) ha.2
theorem a4.xX(s:a4)(l:List bG)(i:Nat)(h:i<l.length):s.run (l.take (i+1))=(s.run (l.take i)).after l[i]:=by
 unfold a4.run;rw[List.take_succ_eq_append_getElem h,List.foldl_append];rfl
theorem a4.gp(s:a4):∀ (l:List bG) (r:bG),s.e6 l->(s.run l).takes r->s.e6 (l++[r])
 | [],_r,_,h=>⟨h,trivial⟩
 | _::l,r,h,h2=>⟨h.1,a4.gp _ l r h.2 h2⟩
theorem a4.fy(s:a4)(l:List bG)(r:bG):s.run (l++[r])=(s.run l).after r:=by
 unfold a4.run;rw[List.foldl_append];rfl
theorem qA{P:Prop}(h:P:=by
 clear d8;go_wp2_with fail;rw[<-a8];clear a8;refine on.mono ?_;clear on;rintro e w3 ⟨rfl,bm,bb,a0,aP,t3,a5,a2⟩;have aY:=t3.aW bZ (λe=>by
  rcases e with e | e | e
  ·omega
  ·have:=(ad.L.lt e).1;omega
  ·have:=(ad.P.lt e).1;omega)
 have M:Below w w w3:=(a7.trans (aK.mono a7.size)).trans (t3.below (Nat.le_trans a7.size aK.size) (λb aG e=>by
  rcases e with e | e | e
  ·omega
  ·have:=(ad.L.lt e).1;omega
  ·have:=(ad.P.lt e).1;omega))
 go_wp2
 go_round
 case rel=>exact⟨i+1,bm,bb,by go_num,rfl,by omega,by rw[aH.out];exact a0,by rw[aH.out];exact aP,aY,M,Nat.le_trans au t3.size⟩
 case measure=>simp[intOf];omega
 ):P:=h
theorem s9(S:Nat->Prop)(A:Option Addr)(n c:Nat)(rs:List bG)(w:World)(aL:n=rs.length)(hm:n<=1000)(h:SliceAt cf w S A (rs.map bG.enc))(ae:a4.zero.e6 rs):
 Calls Tryz.prog 42 #[Y A n c] w λe w'=>∃vL vP,e=.returned (.tuple #[bp (a4.zero.run rs).aq vL vP,ag 0])/\cu w' w (λb=>b<w.heap.size) vL vP (a4.zero.run rs).list (a4.zero.run rs).ay/\Below w w w':=by
 obtain⟨st,aB⟩:=am (a4.zero.run rs);rw[<-aB];have bM:=Lib.hid aB;clear aB;obtain⟨w0,ar⟩:=am ((w.alloc (.cells (bp 0 aa aa) 49)).alloc (.cells (bp 0 aa aa) 49));have aU:Below w w w0:=by rw[ar];exact((Below.refl _ _).alloc (Nat.le_refl _) _).alloc (by simp) _
 have J:ai w0 w 49 (bp 0 aa aa):=by rw[ar];exact(ai.made _ _ _).alloc _
 have aT:ai w0 (w.heap.size+1) 49 (bp 0 aa aa):=by
  rw[ar];have:=ai.made (w.alloc (.cells (bp 0 aa aa) 49)) 49 (bp 0 aa aa);simpa using this
 obtain⟨ob,bw⟩:=am w.heap.size;obtain⟨q,ah⟩:=am (w.heap.size+1);obtain⟨B0,aR⟩:=am (w.heap.size+2);have aC:w0.heap.size=B0:=by rw[ar,aR];simp
 rw[<-bw]at J;rw[<-ah]at aT;have a1:q<B0:=by omega
 have bd:ob<q:=by omega
 have bf:w.heap.size<=ob:=by omega
 have aO:B0<=w0.heap.size:=by omega
 have aE:=Lib.hid bw;have aX:=Lib.hid ah;have HN:=Lib.hid aL;have aA:=Lib.hid ae;have HH:=Lib.hid h;have aN:w.heap.size<=B0:=by omega
 clear aL ae h bw ah aC aR;go_enter Tryz.func42,Tryz.ntmps42;go_wp2_with fail;go_step3;go_wp2_with fail;rw[<-ar,<-aX.out,<-aE.out];clear ar;go_step3;go_wp2_with fail;have ba:cu w0 B0 (λb=>b<B0) aa aa [] []:=⟨aD.nil _ _ _ _ _,aD.nil _ _ _ _ _,(λb h=>by cases h),(λb h=>by cases h),(λb h=>by cases h)⟩
 go_loopw [5,12] (λf_ i_ wr=>∃ (i:Nat) (vL vP:Value),i_=I af i/\f_=I af 0/\i<=n/\ai wr q 49 (bp (a4.zero.run (rs.take i)).aq vL vP)/\cu wr B0 (λb=>b<B0) vL vP (a4.zero.run (rs.take i)).list (a4.zero.run (rs.take i)).ay/\ai wr ob 49 (bp 0 aa aa)/\Below w w wr/\B0<=wr.heap.size) (λ_ i _=>n- (intOf i).toNat)
 case atStart=>exact⟨0,aa,aa,rfl,rfl,by omega,aT,ba,J,aU,aO⟩
 case round=>
  obtain⟨i,vL,vP,rfl,rfl,hi,hQ,pr,hO,a7,bz⟩:=hrel;by_cases bA:i<n
  ·have bu:i<rs.length:=(by have:=HN.out;omega);have aQ:i<(rs.map bG.enc).length:=(by rw[List.length_map];exact bu);have bE:(i:Int)<(n:Int):=(by omega);have TK:=Lib.hid (a4.pP a4.zero rs i bu aA.out);have aH:=Lib.hid (a4.xX a4.zero rs i bu);obtain⟨b,off,u,rfl,bV,b8,bx,hcell,A2,c8,hu,h2,az⟩:=(HH.out.below a7).at_ aQ (by decide);rw[hu]at hcell;have d8:wr.cell? ⟨b,off+i,none⟩=some (.slice A2 (rs.map bG.enc)[i].length c8):=(by simpa[cf]using hcell 0 _ rfl);rw[List.getElem_map]at d8 h2 az;obtain⟨r,hr⟩:=am (rs[i]);rw[<-hr]at d8 h2 az TK aH;obtain⟨st,aw⟩:=am (a4.zero.run (rs.take i));rw[<-aw]at hQ pr TK aH;obtain⟨m2,a9⟩:=am r.enc.length;rw[<-a9]at d8 az;have ax:=a6.src h2;have hlen:=a9.symm;clear hcell bx hu hr aw a9 h2;cases r with
   | aq n=>
    have up:=qa A2 m2 c8 n wr hlen ax TK.out.2;clear hlen ax;go_wp2_with fail;refine up.mono ?_;clear up;rintro e w1 ⟨rfl,b1⟩;obtain⟨w2,a8⟩:=am (w1.alloc (.cells (ez n) 161));have bC:=aV a8;have aK:Below wr wr w2:=b1.trans (bC.mono b1.size);have aj:=hQ.below aK hQ.lt;have bZ:=hO.below aK hO.lt;have ad:=pr.below aK;have au:B0<=w2.heap.size:=Nat.le_trans bz aK.size;have on:=zv q B0 st.aq (λb=>b<B0) (λ_=>False) vL vP st.list st.ay n w2 aj ad a1 (λb a7=>Nat.lt_of_lt_of_le a7 au) au TK.out.1 TK.out.2;have bN:ai w2 w1 161 (ez n):=(by rw[a8];exact ai.made _ _ _);exact qA
   | entry n x=>
    have up:=oH A2 m2 c8 n x wr hlen ax (by have:=TK.out.1;have:=TK.out.2.2.2.1;omega) TK.out.2.2.1;clear hlen ax;go_wp2_with fail;refine up.mono ?_;clear up;rintro e w1 ⟨⟨A4,c4,rfl,h4⟩,b1⟩;obtain⟨w2,a8⟩:=am (w1.alloc (.cells (eq n x A4 c4) 161));have bC:=aV a8;have aK:Below wr wr w2:=b1.trans (bC.mono b1.size);have aj:=hQ.below aK hQ.lt;have bZ:=hO.below aK hO.lt;have ad:=pr.below aK;have au:B0<=w2.heap.size:=Nat.le_trans bz aK.size;have on:=o5 q B0 st.aq (λb=>b<B0) (λ_=>False) vL vP st.list st.ay n x A4 c4 w2 aj ad a1 (λb a7=>Nat.lt_of_lt_of_le a7 au) au TK.out.1 TK.out.2.1 TK.out.2.2.1 ((h4 _ (λ_ h=>h.elim)).below bC) (by have:=TK.out.2.2.2.1;omega) TK.out.2.2.2.2;have bN:ai w2 w1 161 (eq n x A4 c4):=(by rw[a8];exact ai.made _ _ _);exact qA
   | promise x=>
    have up:=mJ A2 m2 c8 x wr hlen ax TK.out.2.2.1;clear hlen ax;go_wp2_with fail;refine up.mono ?_;clear up;rintro e w1 ⟨⟨A4,c4,rfl,h4⟩,b1⟩;obtain⟨w2,a8⟩:=am (w1.alloc (.cells (ey x A4 c4) 161));have bC:=aV a8;have aK:Below wr wr w2:=b1.trans (bC.mono b1.size);have aj:=hQ.below aK hQ.lt;have bZ:=hO.below aK hO.lt;have ad:=pr.below aK;have au:B0<=w2.heap.size:=Nat.le_trans bz aK.size;have on:=l0 q B0 st.aq (λb=>b<B0) (λ_=>False) vL vP st.list st.ay x A4 c4 w2 aj ad a1 (λb a7=>Nat.lt_of_lt_of_le a7 au) au TK.out.1 TK.out.2.1 TK.out.2.2.1 ((h4 _ (λ_ h=>h.elim)).below bC) (by have:=TK.out.2.2.2.1;omega) TK.out.2.2.2.2;have bN:ai w2 w1 161 (ey x A4 c4):=(by rw[a8];exact ai.made _ _ _);exact qA
  ·obtain rfl:i=n:=(by omega);have HE:Hid (rs.take i=rs):=by
    show rs.take i=rs;rw[HN.out,List.take_length]
   rw[HE.out]at hQ pr;rw[<-bM.out]at hQ pr;obtain⟨aZ,ao,ak,rfl,bv,bD⟩:=pr.L.form;obtain⟨aI,aS,aF,rfl,bB,bt⟩:=pr.P.form;obtain⟨q0,q1,q2,q3⟩:=hQ.c4;obtain⟨cl,bc,o2,o3⟩:=hO.c4;have bq:=hO.free 0;have bk:=hO.free 1;have bi:=hO.free 2;have bj:=hO.free 3;simp at q0 q1 q2 q3 cl bc o2 o3;have a3:q≠ob:=(by omega);go_wp2_with fail;have RZ:=(((hO.put 0 (av st.aq)).put 1 (Y aZ ao ak)).put 2 (Y aI aS aF)).put 3 aa;simp only[List.setIfInBounds_toArray,List.set_cons_zero,List.set_cons_succ]at RZ;have gz:=bl ob (bT st.aq aZ ao ak aI aS aF) wr 0
   try rw[Exit.noGoto_ret]
   refine bodyPost_ret (bI rfl _ _ ob 49 _ (0,0) _ rfl RZ Tryz.underlying49 rfl (by kernel_rfl)) rfl ?_;have aM:(λb=>b<B0) ob:=(by show ob<B0;omega);have aJ:=(((((pr.put aM 0 (av st.aq)).put aM 1 (Y aZ ao ak)).put aM 2 (Y aI aS aF)).put aM 3 aa).mono aN).wide (S':=λb=>b<w.heap.size) (λb _ a7=>Nat.lt_of_lt_of_le a7 aN);exact⟨_,_,rfl,aJ,a7.grown gz a7.size (λk e=>by injection e with e;omega)⟩
theorem tu(n:Int):(Program.built Tryz.prog 161 [(0,I af 1),(1,I ak n)]).map Array.toList=some [I af 1,I ak n,I af 0,I af 0,I ak 0,I ak 0,I af 0,I ak 0,aa,aa,I af 0,I ak 0,I ak 0]:=by kernel_rfl
theorem tP(n:Int)(w:World):(Instr.build 161 #[(0,I af 1),(1,I ak n)]).run Tryz.prog w=.ok (ez n) w:=by
 obtain⟨cs,h1,h2⟩:=Option.map_eq_some_iff.1 (tu n);rw[run_build w 161 _ cs h1];rw[show cs=#[I af 1,I ak n,I af 0,I af 0,I ak 0,I ak 0,I af 0,I ak 0,aa,aa,I af 0,I ak 0,I ak 0] from Array.toList_inj.1 h2]
theorem oU(n:Nat)(A9 A8:Option Addr)(c9 c8:Nat)(w:World)(aL:0<n)(ad:n<18446744073709551616):
 Calls Tryz.prog 157 #[bT n A9 0 c9 A8 0 c8] w λe w'=>∃v,e=.returned (.tuple #[v,ag 0])/\aD cf 97 w' w (λb=>b<w.heap.size) v [bG.enc (.aq n)]/\Below w w w':=by
 obtain⟨i0,z0,bM,bL,bB,bJ,bR⟩:=aS Tryz.Ae;obtain⟨j0,aK,ba,bd,a6⟩:=info_parts Fr0.Tryz.mT;obtain⟨w1,aN⟩:=am ((w.alloc (.cells (bT n A9 0 c9 A8 0 c8) 49)).alloc (.cells (ez n) 161));have cg:ai w1 w 49 (bT n A9 0 c9 A8 0 c8):=by rw[aN];exact(ai.made _ _ _).alloc _
 have b1:Below w w w1:=by rw[aN];exact((Below.refl _ _).alloc (Nat.le_refl _) _).alloc (by simp) _
 have a3:Src w1 (some ⟨w.heap.size+1,0,none⟩) (ez n):=by
  rw[aN];have:=Src.made (w.alloc (.cells (bT n A9 0 c9 A8 0 c8) 49)) 161 (ez n);simpa using this
 have bF:=λw=>tP n w;have g0:((n:Int)==0)=false:=by rw[beq_eq_false_iff_ne];omega
 have g1:((n:Int) !=0)=true:=by rw[bne_iff_ne];omega
 have fK:∀u∈([I af 1,I ak n,I af 0,I af 0,I ak 0,I ak 0,I af 0,I ak 0,aa,aa,I af 0,I ak 0,I ak 0]:List Value),u.oneCell'=true:=by
  intro u hu;simp only[List.mem_cons,List.not_mem_nil,or_false]at hu;rcases hu with rfl | rfl | rfl | rfl | rfl | rfl | rfl | rfl | rfl | rfl | rfl | rfl | rfl<;>rfl
 go_enter Tryz.func157,Tryz.ntmps157;go_wp2_with (at_builtin;rw[<-aN];clear aN;refine ca _ rfl (.tmp 19) (.tmp 23) 274 rfl w1 13 161 i0 z0 136 Tryz.underlying274 bM bL bJ bR bB (by omega) aa 0 [] rfl (World.ownsRow_nil _ _ _ _) (some ⟨w.heap.size+1,0,none⟩) 1 1 (ez n) rfl rfl a3 fK (by unfold maxLen;omega) (by omega) (Nat.le_refl _) ?_;intro A5 c5 w5 ay g5 bP;(rw[Nat.zero_add,List.nil_append]at ay;simp only[Nat.zero_add];have cT:=cg.grown g5 (λe=>by cases e);have x1:=cT.cell 1;have x2:=cT.cell 2;have x3:=cT.cell 3;simp at x1 x2 x3));have bS:Below w w w5:=b1.trans ((Below.refl _ w1).grown g5 b1.size (λk e=>by cases e));obtain⟨g,rfl⟩:∃g,A5=some ⟨g,0,none⟩:=by
  rcases ay.2 with⟨e1,_⟩ | ⟨g',cap,cur,hv,_⟩
  ·cases e1
  ·injection hv with hv;exact⟨g',hv⟩
 have ae:=ay.cells (g:=g) rfl;have M:g<w5.heap.size:=(ay.lt g rfl).2;have bc:∀j u,([I af 1,I ak n,I af 0,I af 0,I ak 0,I ak 0,I af 0,I ak 0,aa,aa,I af 0,I ak 0,I ak 0]:List Value)[j]? =some u->w5.cell? ⟨g,j,none⟩=some u:=λj u hu=>by have:=ae j u hu;rwa [Addr.add_lit,Nat.zero_add]at this
 have J:=Lib.hid bc;clear ae bc ay bP g5 x1 cg a3 fK bF
 go_loop [4,28] (λl_ i=>l_=Y (aj g) 1 c5/\i=I af 0) (λ_ _=>0)
 case atStart=>exact⟨rfl,rfl⟩
 case round=>
  obtain⟨rfl,rfl⟩:=hrel;go_wp2_with fail
  go_loop [4,44] (λl_ i=>l_=Y (aj g) 1 c5/\i=I af 0) (λ_ _=>0)
  case atStart=>exact⟨rfl,rfl⟩
  case round=>
   obtain⟨rfl,rfl⟩:=hrel;go_wp2_with fail
   go_loop [4,57] (λl_ i=>l_=Y (aj g) 1 c5/\i=I af 0) (λ_ _=>0)
   case atStart=>exact⟨rfl,rfl⟩
   case round=>
    obtain⟨rfl,rfl⟩:=hrel;clear x2 x3 cT;go_wp2_with fail
    go_loopw [11,69] (λv_ i_ wr=>∃i:Nat,i_=I af i/\i<=1/\aD cf 97 wr w5 (λb=>b<w5.heap.size) v_ ([bG.enc (.aq n)].take i)/\Below w5 w5 wr) (λ_ i _=>1- (intOf i).toNat)
    case atStart=>exact⟨0,rfl,by omega,aD.nil _ _ _ _ _,.refl _ _⟩
    case round=>
     obtain⟨i,rfl,hi,O,a7⟩:=hrel;by_cases bA:i<1
     ·obtain rfl:i=0:=(by omega);have d0:wr.cell? (aj g)=some (I af 1):=(a7.cell (p:=⟨g,0,none⟩) M).trans (J.out 0 _ rfl);have d1:wr.cell? ⟨g,1,none⟩=some (I ak n):=(a7.cell (p:=⟨g,1,none⟩) M).trans (J.out 1 _ rfl);have d2:wr.cell? ⟨g,2,none⟩=some (I af 0):=(a7.cell (p:=⟨g,2,none⟩) M).trans (J.out 2 _ rfl);have d3:wr.cell? ⟨g,3,none⟩=some (I af 0):=(a7.cell (p:=⟨g,3,none⟩) M).trans (J.out 3 _ rfl);have d4:wr.cell? ⟨g,4,none⟩=some (I ak 0):=(a7.cell (p:=⟨g,4,none⟩) M).trans (J.out 4 _ rfl);have d5:wr.cell? ⟨g,5,none⟩=some (I ak 0):=(a7.cell (p:=⟨g,5,none⟩) M).trans (J.out 5 _ rfl);have d6:wr.cell? ⟨g,6,none⟩=some (I af 0):=(a7.cell (p:=⟨g,6,none⟩) M).trans (J.out 6 _ rfl);have d7:wr.cell? ⟨g,7,none⟩=some (I ak 0):=(a7.cell (p:=⟨g,7,none⟩) M).trans (J.out 7 _ rfl);have d8:wr.cell? ⟨g,8,none⟩=some (aa):=(a7.cell (p:=⟨g,8,none⟩) M).trans (J.out 8 _ rfl);have d9:wr.cell? ⟨g,9,none⟩=some (aa):=(a7.cell (p:=⟨g,9,none⟩) M).trans (J.out 9 _ rfl);have d10:wr.cell? ⟨g,10,none⟩=some (I af 0):=(a7.cell (p:=⟨g,10,none⟩) M).trans (J.out 10 _ rfl);have d11:wr.cell? ⟨g,11,none⟩=some (I ak 0):=(a7.cell (p:=⟨g,11,none⟩) M).trans (J.out 11 _ rfl);have d12:wr.cell? ⟨g,12,none⟩=some (I ak 0):=(a7.cell (p:=⟨g,12,none⟩) M).trans (J.out 12 _ rfl);obtain⟨w6,aY⟩:=am (wr.alloc (.cells (ez n) 161));have b6:=aV aY;have pk:=nV n w6 ad;have O6:=O.below b6;go_wp2_with fail;rw[<-aY];clear aY;refine pk.mono ?_;clear pk;rintro e w7 ⟨u7,rfl,aQ,bt⟩;obtain⟨A7,n7,c7,rfl,ax,aA⟩:=aQ.open_;obtain⟨A3,n3,c3,rfl,a2,bY⟩:=O.form;obtain rfl:n3=0:=a2.out;have O7:=O6.below bt;have bC:=(Below.refl w7 w7).alloc (Nat.le_refl _) (.cells #[Y A7 n7 c7] 97);have bI:cf.R (w7.alloc (.cells #[Y A7 n7 c7] 97)) (bm (λb=>b<w5.heap.size) (Y A3 0 c3)) [Y A7 n7 c7] (bG.enc (.aq n)):=by
       have e1:(bG.enc (.aq n))=Pk.az 1++Pk.az n:=(by simp[bG.enc]);rw[e1];refine⟨A7,c7,by rw[ax.out],?_,by rw[ax.out];exact aA⟩;exact(aQ.below bC).bytes (λb aG=>by
        rcases aG with aG | aG
        ·have:=a7.size;have:=b6.size;omega
        ·have:=(O.lt aG).2;have:=b6.size;omega)
      have ao:=Lib.hid aQ;have ar:=Lib.hid ax.out;clear aQ ax;go_wp2_with (at_builtin;refine a9 _ rfl (.tmp 81) (.tmp 83) 104 rfl cf w5 97 j0 _ 24 Tryz.underlying104 aK ba bd a6 rfl (by decide) (λb=>b<w5.heap.size) (Y A3 0 c3) ([bG.enc (.aq n)].take 0) rfl (O7.below bC) (aj w7) 1 [Y A7 n7 c7] (bG.enc (.aq n)) rfl (Src.made w7 _ _) bI (by simp[maxLen]) (by simp) (by simp;have:=a7.size;have:=b6.size;have:=bt.size;omega) ?_;intro av au w8 O8 cz gr bf;try simp only[List.take_zero,List.length_nil,Nat.zero_add,List.nil_append]at O8;try simp only[List.take_zero,List.length_nil,Nat.zero_add]);have ah:∀k,(Value.slice A3 0 c3).ownBlock=some k->w5.heap.size<=k:=λk hk=>(O.lt hk).1
      go_round
      case rel=>exact⟨1,rfl,by omega,O8,(a7.trans ((b6.mono a7.size).trans ((bt.mono (Nat.le_trans a7.size b6.size)).trans (bC.mono (Nat.le_trans a7.size (Nat.le_trans b6.size bt.size)))))).grown gr (by simp;have:=a7.size;have:=b6.size;have:=bt.size;omega) ah⟩
      case measure=>simp[intOf]
     ·obtain rfl:i=1:=(by omega);obtain⟨A3,n3,c3,rfl,a2,bY⟩:=O.form;go_wp2;go_ret2;exact⟨_,rfl,(O.mono bS.size).weak (λb aG=>Nat.lt_of_lt_of_le aG bS.size),bS.trans (a7.mono bS.size)⟩
def dZ(x:ae):Bool:=decide (3000<x.enc.length)
theorem m9(S:Nat->Prop)(x:ae)(A:Option Addr)(c:Nat)(w:World)(hg:x.aH)(h:SliceAt aN w S A x.events):
 Calls Tryz.prog 104 #[aE (x.cellsOf A c).toArray] w λe w'=>e=.returned (.bool (dZ x))/\Below w w w':=by
 obtain⟨r,hr⟩:=am (dZ x);rw[<-hr];have HR:=Lib.hid hr;obtain⟨w0,ar⟩:=am (w.alloc (.cells (a3 x A c) 132));have hC:ai w0 w 132 (a3 x A c):=by rw[ar];exact ai.made _ _ _
 have aU:=aV ar;obtain⟨cb,M⟩:=am w.heap.size;rw[<-M]at hC;have aF:=Lib.hid M;clear M;have en:=h4 S x A c w0 hg (h.below aU);unfold ae.cellsOf at en ⊢;obtain⟨x0,x1,x2,x3,x4,x5,x6,x7⟩:=hC.c8;simp at x0 x1 x2 x3 x4 x5 x6 x7;have hl:=x.bZ hg;clear h hr;go_enter Tryz.func104,Tryz.ntmps104;go_wp2_with fail;rw[<-ar];clear ar;refine en.mono ?_;clear en;rintro e w1 ⟨u1,rfl,r1,b1⟩;obtain⟨A1,n1,c1,rfl,bv,bU⟩:=r1.open_;by_cases a7:3000<n1
 ·have af:Hid (r=true):=by
   show r=true;rw[HR.out];unfold dZ;rw[bv.out];exact decide_eq_true a7
  have g:decide ((3000:Int)<(n1:Int))=true:=decide_eq_true (by omega);go_wp2;go_ret;exact⟨by rw[af.out];rfl,aU.trans (b1.mono aU.size)⟩
 ·have af:Hid (r=false):=by
   show r=false;rw[HR.out];unfold dZ;rw[bv.out];exact decide_eq_false a7
  have g:decide ((3000:Int)<(n1:Int))=false:=decide_eq_false (by omega);go_wp2;go_ret;exact⟨by rw[af.out];rfl,aU.trans (b1.mono aU.size)⟩
theorem hQ(S:Nat->Prop)(A:Option Addr)(n c i:Nat)(l:List ct)(id:PId)(w:World)(aL:n=l.length)(hm:n<=1000000)(h:SliceAt bg w S A l)(hi:i<l.length)(hs:dj l id=(i:Int))(ha:l[i].asked=false):
 Calls Tryz.prog 101 #[Y A n c,id.val] w λe w'=>e=.returned (ag i)/\Below w w w':=by
 unfold PId.val;obtain⟨w0,ar⟩:=am (w.alloc (.cells (bY id) 32));have hC:ai w0 w 32 (bY id):=by rw[ar];exact ai.made _ _ _
 have aU:=aV ar;obtain⟨cb,M⟩:=am w.heap.size;rw[<-M]at hC;have aF:=Lib.hid M;clear M;have sk:=iv S A n c l id w0 aL hm (h.below aU);rw[hs]at sk;unfold PId.val at sk;have HH:=Lib.hid (h.below aU);have HA:=Lib.hid ha;have az:i<n:=by omega
 have bG:(i:Int)<(n:Int):=by omega
 have bM:(0:Int)<=(i:Int):=by omega
 have g:decide ((0:Int)<=(i:Int))=true:=decide_eq_true bM;obtain⟨x0,x1,x2⟩:=hC.c3;simp at x0 x1 x2;clear h aL hs ha;go_enter Tryz.func101,Tryz.ntmps101;go_wp2_with fail;rw[<-ar];clear ar;refine sk.mono ?_;clear sk;rintro e w1 ⟨rfl,b1⟩;obtain⟨b,off,u,rfl,bV,b8,bx,hcell,A2,c8,hu,h2⟩:=(HH.out.below b1).at_ hi (by decide);rw[hu]at hcell;have d8:w1.cell? ⟨b,off+i*9+8,none⟩=some (.bool false):=by rw[<-HA.out];exact hcell 8 _ rfl
 clear hcell bx hu h2;go_wp2;go_ret;exact⟨rfl,aU.trans (b1.mono aU.size)⟩
theorem wo(S S2:Nat->Prop)(A A2:Option Addr)(n c c2:Nat)(l:List ct)(t:ct)(w:World)(aL:n=l.length)(hm:n<8)(h:SliceAt bg w S A l)(hg:∀x∈l,x.entry.aH)(av:t.entry.aH)(ht:SliceAt aN w S2 A2 t.entry.events)(aA:dj l t.entry.id= -1)(a7:dZ t.entry=false):
 Calls Tryz.prog 93 #[Y A n c,aE (t.cellsOf A2 c2).toArray] w λe w'=>∃v,e=.returned (.tuple #[v,ag 0])/\aD bg 148 w' w (λb=>b<w.heap.size) v (l++[t])/\Below w w w':=by
 obtain⟨i0,z0,bM,bL,bB,bJ,bR⟩:=aS Tryz.oi;unfold ct.cellsOf ae.cellsOf;simp only[List.cons_append,List.nil_append];obtain⟨w0,ar⟩:=am (w.alloc (.cells (gJ t.entry A2 t.entry.events.length c2 t.asked) 148));have hC:ai w0 w 148 (gJ t.entry A2 t.entry.events.length c2 t.asked):=by rw[ar];exact ai.made _ _ _
 have aU:=aV ar;obtain⟨cb,M⟩:=am w.heap.size;rw[<-M]at hC;have aF:=Lib.hid M;clear M;have cp:=eG S A n c l w0 aL (by omega) (h.below aU) hg;have HH:=lv (h.below aU) (ht.below aU) av aA a7 aL;obtain⟨x0,x1,x2,x3,x4,x5,x6,x7,x8⟩:=hC.c9;simp at x0 x1 x2 x3 x4 x5 x6 x7 x8;clear h hg av ht aA a7 aL;go_enter Tryz.func93,Tryz.ntmps93;go_wp2_with fail;go_step3;go_wp2_with fail;rw[<-ar,<-aF.out];clear ar;refine cp.mono ?_;clear cp;rintro e w1 ⟨v1,rfl,O1,b1⟩;obtain⟨A1,n1,c1,rfl,bv,bU⟩:=O1.form;obtain rfl:n1=n:=by rw[bv.out,HH.out.2.2.2.2.2]
 have sk:=iv S A n1 c l t.entry.id w1 HH.out.2.2.2.2.2 (by omega) (HH.out.1.below b1)
 rw[HH.out.2.2.2.1]at sk;unfold PId.val at sk;have ao:=hC.below b1 hC.lt;obtain⟨y0,y1,y2,bb,y4,y5,y6,y7,y8⟩:=ao.c9;simp at y0 y1 y2 bb y4 y5 y6 y7 y8;have ec:=fV S2 t.entry A2 c2
 have ay:=m9 S2 t.entry A2 c2
 rw[HH.out.2.2.2.2.1]at ay;unfold ae.cellsOf at ec ay;go_wp2_with fail;go_step3;go_wp2_with fail;refine sk.mono ?_;clear sk;rintro e w2 ⟨rfl,b2⟩;have aI:=ao.below b2 ao.lt;have bo:=(aU.trans (b1.mono aU.size)).trans (b2.mono (Nat.le_trans aU.size b1.size));obtain⟨z0,z1,z2,z3,z4,z5,z6,z7,z8⟩:=aI.c9;simp at z0 z1 z2 z3 z4 z5 z6 z7 z8;clear y0 y1 y2 bb y4 y5 y6 y7 y8 x0 x1 x2 x3 x4 x5 x6 x7 x8;have ck:=ec w2 HH.out.2.2.1 ((HH.out.2.1.below b1).below b2);go_wp2_with fail;refine ck.mono ?_;clear ck ec;rintro e w3 ⟨rfl,b3⟩;have aw:=aI.below b3 aI.lt;obtain⟨y0,y1,y2,bb,y4,y5,y6,y7,y8⟩:=aw.c9;simp at y0 y1 y2 bb y4 y5 y6 y7 y8;clear z0 z1 z2 z3 z4 z5 z6 z7 z8;have a0:=ay w3 HH.out.2.2.1 (((HH.out.2.1.below b1).below b2).below b3);have cP:decide ((8:Int)<=(n1:Int))=false:=decide_eq_false (by omega);go_wp2_with fail;refine a0.mono ?_;clear a0 ay;rintro e w4 ⟨rfl,bK⟩;have aW:=aw.below bK aw.lt;clear y0 y1 y2 bb y4 y5 y6 y7 y8;have aT:Below w1 w1 w4:=b2.trans ((b3.mono b2.size).trans (bK.mono (Nat.le_trans b2.size b3.size)));have az:=(HH.out.2.1.below b1).below aT;have wh:=iT S2 t.entry A2 c2 w4.drew az.fX HH.out.2.2.1.lays.1 HH.out.2.2.1.lays.2
 unfold ae.cellsOf at wh;have O4:=O1.below aT;go_wp2_with fail;refine wp_region_held_drew (S:=(λw'=>w'.cell? (aj cb)=some (I af t.entry.kind)/\w'.cell? ⟨cb,1,none⟩=some (I af t.entry.id.au)/\w'.cell? ⟨cb,2,none⟩=some (I ak t.entry.id.aq)/\w'.cell? ⟨cb,3,none⟩=some (I ak t.entry.id.ax)/\w'.cell? ⟨cb,4,none⟩=some (I af t.entry.ah)/\w'.cell? ⟨cb,5,none⟩=some (I ak t.entry.sub)/\w'.cell? ⟨cb,6,none⟩=some (aa)/\w'.cell? ⟨cb,7,none⟩=some (Y A2 t.entry.events.length c2)/\w'.cell? ⟨cb,8,none⟩=some (.bool t.asked))) (by kernel_rfl) (fj aW) (λJ=>?_);refine tk 0 J ?_;refine tk 1 J ?_;refine tk 2 J ?_;refine tk 4 J ?_;refine tk 5 J ?_;refine aP 3 (λK ad=>?_);clear J;go_simp;refine wh.mono ?_;clear wh;rintro e w5 ⟨A4,c4,rfl,h4,bS⟩;have bS:=a8 bS;have aC:=aW.below bS aW.lt
 try dsimp only
 refine ad.out _ _ (fj aC) (λJ=>?_);clear ad K;refine aP 6 (λK ad=>?_);clear J;have bF:=λw=>lw t.entry.kind t.entry.id.au t.entry.id.aq t.entry.id.ax t.entry.ah t.entry.sub A4 t.entry.events.length c4 t.asked w
 go_simp;refine ad.out _ _ (fj aC) (λJ=>?_);clear ad K;have O5:=O4.below bS;have bC:=(Below.refl w5 w5).alloc (Nat.le_refl _) (.cells (gJ t.entry A4 t.entry.events.length c4 t.asked) 148);have aO:=aC.below bC aC.lt;have bI:bg.R (w5.alloc (.cells (gJ t.entry A4 t.entry.events.length c4 t.asked) 148)) (bm (λb=>b<w0.heap.size) (Y A1 n1 c1)) (gJ t.entry A4 t.entry.events.length c4 t.asked) t:=
  ⟨A4,c4,rfl,(h4.below bC).weak (λb aG=>by
   show b<w4.heap.size;rcases aG with aG | aG
   ·have:=b1.size;have:=aT.size;omega
   ·have:=(O4.lt aG).2;omega)⟩
 refine aP 7 (λK ad=>?_);clear J;go_simp;refine ad.out _ _ (fj aO) (λJ=>?_);clear ad K;refine aP 8 (λK ad=>?_);clear J;refine dW _ rfl (.tmp 28) (.tmp 35) 124 rfl bg w0 148 i0 z0 104 Tryz.underlying124 bM bL bJ bR bB (by decide) (λb=>b<w0.heap.size) (Y A1 n1 c1) l (by rfl) (O5.below bC) (aj w5) 1 (gJ t.entry A4 t.entry.events.length c4 t.asked) t (by rfl) (Src.made w5 _ _) bI (by rw[<-HH.out.2.2.2.2.2];unfold maxLen;omega) (by rw[<-HH.out.2.2.2.2.2];omega) (by simp;have:=b1.size;have:=aT.size;have:=bS.size;omega) ?_;intro A6 bX w6 O6 cz gr aZ;have bT:=aO.grown gr (λe=>by have:=(O4.lt e.symm).1;have:=hC.lt;omega);refine ad.out _ _ (fj bT) (λJ=>?_);clear ad K;refine aP 9 (λK ad=>?_);clear J;go_simp;refine ad.out _ _ (fj bT) (λJ=>?_);clear ad K;refine cB ?_ _;have aJ:Below w w (w5.alloc (.cells (gJ t.entry A4 t.entry.events.length c4 t.asked) 148)):=(aU.trans ((b1.trans (aT.mono b1.size)).mono aU.size)).trans ((bS.trans (bC.mono bS.size)).mono (Nat.le_trans aU.size (Nat.le_trans b1.size aT.size)));go_wp2;rw[Exit.noGoto_ret];go_ret2;exact⟨_,rfl,(O6.mono aU.size).weak (λb a7=>Nat.lt_of_lt_of_le a7 aU.size),aJ.grown gr aJ.size (λk hk=>by have:=(O4.lt hk).1;have:=aU.size;omega)⟩
theorem uQ:(Program.built Tryz.prog 148 []).map Array.toList=some [I af 0,I af 0,I ak 0,I ak 0,I af 0,I ak 0,aa,aa,.bool false]:=by kernel_rfl
theorem tU(w:World):(Instr.build 148 #[]).run Tryz.prog w=.ok (gB false) w:=by
 obtain⟨cs,h1,h2⟩:=Option.map_eq_some_iff.1 uQ;rw[run_build w 148 _ cs h1];rw[show cs=#[I af 0,I af 0,I ak 0,I ak 0,I af 0,I ak 0,aa,aa,.bool false] from Array.toList_inj.1 h2]
theorem aD.set{α:Type}{r:dD α}{e:TypeId}{w w':World}{base:Nat}{S:Nat->Prop}{g n c i:Nat}{l:List α}{cur ah:Array Value}(h:aD r e w base S (Y (aj g) n c) l)(hk:0<r.k)(a7:ai w g e cur)(J:ai w' g e ah)(hi:i<l.length)
 (u':List Value) (b:α) (bJ:ah.size=cur.size) (az:∀j,j<r.k->ah[i*r.k+j]? =u'[j]?) (av:∀m,(m<i*r.k\/i*r.k+r.k<=m)->ah[m]? =cur[m]?)
 (aI:r.R w' (bm S (Y (aj g) n c)) u' b) (I:w.grownBy w' (some g)):aD r e w' base S (Y (aj g) n c) (l.set i b):=by
 obtain⟨us,h1,h2,a1⟩:=h;have hl:∀u∈us,u.length=r.k:=λu hu=>by
  obtain⟨j,hj,rfl⟩:=List.getElem_of_mem hu;exact r.len (a1 j _ _ (List.getElem?_eq_getElem hj) (List.getElem?_eq_getElem (by omega)))
 have aa:∀u∈us.set i u',u.length=r.k:=λu hu=>by
  rcases List.mem_or_eq_of_mem_set hu with hu | rfl
  ·exact hl u hu
  ·exact r.len aI
 rcases h1.2 with⟨e1,_⟩ | ⟨g',cap,ae,hv,hg,hh,aA,ao,hcs,M⟩
 ·cases e1
 ·injection hv with e1 a5 e3;injection e1 with e1;injection e1 with e1;subst e1;have aq:ae=cur:=by
   have aG:w.heap[g]? =some (.cells cur e (0,0)):=a7;rw[aG]at hh;injection hh with hh;injection hh with hh;exact hh.symm
  rw[aq]at M hcs;have hG:Goes (bm S (Y (aj g) n c)) w (bm S (Y (aj g) n c)) w':=⟨I.os,I.tape,I.output,I.size,λb a7 aL=>I.block b a7 (λe=>aL (.inr (by rw[e];rfl))),λb a7 hs=>hs⟩;refine⟨us.set i u',⟨by rw[cd _ aa];simp[h2],.inr ⟨g,cap,ah,by rw[List.length_set,a5,e3],hg,J,by rw[List.length_set];exact aA,ao,bJ.trans hcs,?_⟩⟩,by simp[h2],λj u a hu ha=>?_⟩
  ·rw[List.length_set];apply List.ext_getElem?;intro m;by_cases hm:m<l.length*r.k
   ·have hdiv:m / r.k<l.length:=(Nat.div_lt_iff_lt_mul hk).2 hm;have ad:m % r.k<r.k:=Nat.mod_lt _ hk;have af:m=m / r.k*r.k+m % r.k:=(by have:=Nat.div_add_mod m r.k;rw[Nat.mul_comm]at this;omega);have hq:m / r.k<us.length:=(by omega);rw[List.getElem?_take_of_lt hm,Array.getElem?_toList];by_cases he:m / r.k=i
    ·have f1:=eh (us.set i u') aa i (m % r.k) u' (by rw[List.getElem?_set_self (by omega)]) ad;have df:i*r.k+m % r.k=m:=(by rw[<-he];exact af.symm);rw[df]at f1;rw[f1];have f2:=az (m % r.k) ad;rw[df]at f2;exact f2
    ·have f1:=eh (us.set i u') aa (m / r.k) (m % r.k) us[m / r.k] (by rw[List.getElem?_set_ne (Ne.symm he),List.getElem?_eq_getElem hq]) ad;rw[<-af]at f1;have f2:=eh us hl (m / r.k) (m % r.k) us[m / r.k] (List.getElem?_eq_getElem hq) ad;rw[<-af,<-M,List.getElem?_take_of_lt hm,Array.getElem?_toList]at f2;rw[f1,<-f2];refine av m ?_;rcases Nat.lt_or_gt_of_ne he with h | h
     ·left;have:(m / r.k+1)*r.k<=i*r.k:=Nat.mul_le_mul_right _ (by omega);rw[Nat.add_mul,Nat.one_mul]at this;omega
     ·right;have:(i+1)*r.k<=m / r.k*r.k:=Nat.mul_le_mul_right _ (by omega);rw[Nat.add_mul,Nat.one_mul]at this;omega
   ·rw[List.getElem?_eq_none (by rw[List.length_take];omega),List.getElem?_eq_none (by rw[cd _ aa,List.length_set,h2];omega)]
  ·by_cases he:i=j
   ·subst he;rw[List.getElem?_set_self (by omega)]at hu;rw[List.getElem?_set_self hi]at ha;injection hu with hu;injection ha with ha;subst hu;subst ha;exact aI
   ·rw[List.getElem?_set_ne he]at hu ha;exact r.goes (a1 j u a hu ha) hG
theorem aD.block{α:Type}{r:dD α}{e:TypeId}{w:World}{base n c:Nat}{S:Nat->Prop}{A:Option Addr}{l:List α}(h:aD r e w base S (Y A n c) l)(aL:0<n):∃g cur,A=some ⟨g,0,none⟩/\ai w g e cur/\n<=c/\cur.size=c*r.k/\n=l.length:=by
 obtain⟨us,h1,h2,a1⟩:=h;rcases h1.2 with⟨hv,aO⟩ | ⟨g,cap,cur,hv,hg,hh,aA,ao,hcs,M⟩
 ·injection hv with _ hv;omega
 ·injection hv with e1 a5 e3;exact⟨g,cur,e1,hh,by omega,by rw[hcs,e3],a5⟩
theorem uL(k:Int)(b l s:Int)(c:Int):(Program.built Tryz.prog 132 [(0,I af k),(1,aE #[ag b,av l,av s]),(2,I af c)]).map Array.toList=some [I af k,I af b,I ak l,I ak s,I af c,I ak 0,aa,aa]:=by kernel_rfl
theorem uM(k:Int)(b l s:Int)(c:Int)(w:World):(Instr.build 132 #[(0,I af k),(1,aE #[ag b,av l,av s]),(2,I af c)]).run Tryz.prog w=.ok (aE #[ag k,ag b,av l,av s,ag c,av 0,aa,aa]) w:=by
 obtain⟨cs,h1,h2⟩:=Option.map_eq_some_iff.1 (uL k b l s c);rw[run_build w 132 _ cs h1];rw[show cs=#[I af k,I af b,I ak l,I ak s,I af c,I ak 0,aa,aa] from Array.toList_inj.1 h2]
theorem ug(a b c d e f:Int)(A:Option Addr)(n m:Nat):(Program.built Tryz.prog 148 [(0,aE #[ag a,ag b,av c,av d,ag e,av f,aa,Y A n m])]).map Array.toList=some [I af a,I af b,I ak c,I ak d,I af e,I ak f,aa,Y A n m,.bool false]:=by kernel_rfl
theorem tt(a b c d e f:Int)(A:Option Addr)(n m:Nat)(w:World):(Instr.build 148 #[(0,aE #[ag a,ag b,av c,av d,ag e,av f,aa,Y A n m])]).run Tryz.prog w=.ok (aE #[ag a,ag b,av c,av d,ag e,av f,aa,Y A n m,.bool false]) w:=by
 obtain⟨cs,h1,h2⟩:=Option.map_eq_some_iff.1 (ug a b c d e f A n m);rw[run_build w 148 _ cs h1];rw[show cs=#[I af a,I af b,I ak c,I ak d,I af e,I ak f,aa,Y A n m,.bool false] from Array.toList_inj.1 h2]
theorem nf{P:Prop}(h:P:=by
 clear ar;refine ad.mono ?_;clear ad;rintro e w1 ⟨v,rfl,O,b1⟩;obtain⟨A1,n1,c1,rfl,bv,bU⟩:=O.form;go_wp2;go_ret2;exact⟨_,rfl,(O.mono aU.size).weak (λb a7=>Nat.lt_of_lt_of_le a7 aU.size),aU.trans (b1.mono aU.size)⟩
 ):P:=h
theorem wP(S:Nat->Prop)(A:Option Addr)(n c:Nat)(l:List ct)(id:PId)(ah:Nat)(w:World)(aL:n=l.length)(hm:n<8)(h:SliceAt bg w S A l)(hg:∀x∈l,x.entry.aH)(av:(⟨1,id,ah,0,[]⟩:ae).aH)(aA:dj l id= -1)(a7:dZ ⟨1,id,ah,0,[]⟩=false):
 Calls Tryz.prog 56 #[Y A n c,id.val,ag ah] w λe w'=>∃v,e=.returned (.tuple #[v,ag 0])/\aD bg 148 w' w (λb=>b<w.heap.size) v (l++[⟨⟨1,id,ah,0,[]⟩,false⟩])/\Below w w w':=by
 unfold PId.val;obtain⟨w0,ar⟩:=am (w.alloc (.cells (bY id) 32));have hC:ai w0 w 32 (bY id):=by rw[ar];exact ai.made _ _ _
 have aU:=aV ar;obtain⟨cb,M⟩:=am w.heap.size;rw[<-M]at hC;have aF:=Lib.hid M;clear M;have ad:=wo S (λ_=>False) A none n c 0 l ⟨⟨1,id,ah,0,[]⟩,false⟩ w0 aL hm (h.below aU) hg av (SliceAt.nil _ _ _ _) aA a7;simp only[ct.cellsOf,ae.cellsOf,List.cons_append,List.nil_append,List.length_nil]at ad;have J:=λw=>uM 1 id.au id.aq id.ax ah w;have I:=λw=>tt 1 id.au id.aq id.ax ah 0 none 0 0 w;have x0:=hC.cell 0;have bh:w.heap.size<w0.heap.size:=by rw[ar];simp
 clear h hg av aA a7 aL;go_enter Tryz.func56,Tryz.ntmps56;go_wp2_with fail
 try rw[<-ar]
 exact nf
theorem wc(S S2:Nat->Prop)(A A2:Option Addr)(n c c2:Nat)(l:List ct)(x:ae)(w:World)(aL:n=l.length)(hm:n<8)(h:SliceAt bg w S A l)(hg:∀x∈l,x.entry.aH)(av:x.aH)(ht:SliceAt aN w S2 A2 x.events)(aA:dj l x.id= -1)(a7:dZ x=false):
 Calls Tryz.prog 49 #[Y A n c,aE (x.cellsOf A2 c2).toArray] w λe w'=>∃v,e=.returned (.tuple #[v,ag 0])/\aD bg 148 w' w (λb=>b<w.heap.size) v (l++[⟨x,true⟩])/\Below w w w':=by
 unfold ae.cellsOf;obtain⟨w0,ar⟩:=am (w.alloc (.cells (a3 x A2 c2) 132));have hC:ai w0 w 132 (a3 x A2 c2):=by rw[ar];exact ai.made _ _ _
 have aU:=aV ar;obtain⟨cb,M⟩:=am w.heap.size;rw[<-M]at hC;have aF:=Lib.hid M;clear M;have ad:=wo S S2 A A2 n c c2 l ⟨x,true⟩ w0 aL hm (h.below aU) hg av (ht.below aU) aA a7;simp only[ct.cellsOf,ae.cellsOf,List.cons_append,List.nil_append]at ad;have I:=λw=>lw x.kind x.id.au x.id.aq x.id.ax x.ah x.sub A2 x.events.length c2 true w;clear h hg av aA a7 aL ht;go_enter Tryz.func49,Tryz.ntmps49;go_wp2_with fail;rw[<-ar];exact nf
theorem aD.cur{α:Type}{r:dD α}{e:TypeId}{w:World}{base n c g i:Nat}{S:Nat->Prop}{l:List α}{cur:Array Value}(h:aD r e w base S (Y (aj g) n c) l)(a7:ai w g e cur)(hi:i<l.length):
 ∃u,(∀j,j<r.k->cur[i*r.k+j]? =u[j]?)/\r.R w (bm S (Y (aj g) n c)) u l[i]:=by
 obtain⟨us,h1,h2,a1⟩:=h;have hl:∀u∈us,u.length=r.k:=λu hu=>by
  obtain⟨j,hj,rfl⟩:=List.getElem_of_mem hu;exact r.len (a1 j _ _ (List.getElem?_eq_getElem hj) (List.getElem?_eq_getElem (by omega)))
 rcases h1.2 with⟨e1,_⟩ | ⟨g',cap,ae,hv,hg,hh,aA,ao,hcs,M⟩
 ·cases e1
 ·injection hv with e1 a5 e3;injection e1 with e1;injection e1 with e1;subst e1;have aq:ae=cur:=by
   have aG:w.heap[g]? =some (.cells cur e (0,0)):=a7;rw[aG]at hh;injection hh with hh;injection hh with hh;exact hh.symm
  rw[aq]at M;refine⟨us[i]'(by omega),λj hj=>?_,a1 i _ _ (List.getElem?_eq_getElem (by omega)) (List.getElem?_eq_getElem hi)⟩;have f2:=eh us hl i j _ (List.getElem?_eq_getElem (by omega)) hj;have bA:i*r.k+j<l.length*r.k:=by
   have:(i+1)*r.k<=l.length*r.k:=Nat.mul_le_mul_right _ (by omega);rw[Nat.add_mul,Nat.one_mul]at this;omega
  rw[<-M,List.getElem?_take_of_lt bA,Array.getElem?_toList]at f2;exact f2
def ct.ask(t:ct):ct:=⟨t.entry,true⟩
theorem ui(S:Nat->Prop)(A:Option Addr)(n c i:Nat)(l:List ct)(id:PId)(w:World)(aL:n=l.length)(hm:n<=1000)(h:SliceAt bg w S A l)(hg:∀x∈l,x.entry.aH)(hi:i<l.length)(hs:dj l id=(i:Int))(ha:l[i].asked=false):
 Calls Tryz.prog 59 #[Y A n c,id.val] w λe w'=>∃v,e=.returned (.tuple #[v,ag 0])/\aD bg 148 w' w (λb=>b<w.heap.size) v (l.set i l[i].ask)/\Below w w w':=by
 unfold PId.val;obtain⟨w0,ar⟩:=am (w.alloc (.cells (bY id) 32));have hC:ai w0 w 32 (bY id):=by rw[ar];exact ai.made _ _ _
 have aU:=aV ar;obtain⟨cb,M⟩:=am w.heap.size;rw[<-M]at hC;have aF:=Lib.hid M;clear M;have cp:=eG S A n c l w0 aL (by omega) (h.below aU) hg;have az:i<n:=by omega
 have bG:(i:Int)<(n:Int):=by omega
 have bM:(0:Int)<=(i:Int):=by omega
 have g:decide ((i:Int)<0)=false:=decide_eq_false (by omega);have HH:=dx aL (h.below aU) hs ha;clear h hg hs ha aL;go_enter Tryz.func59,Tryz.ntmps59;go_wp2_with fail;rw[<-ar,<-aF.out];clear ar;refine cp.mono ?_;clear cp;rintro e w1 ⟨v1,rfl,O1,b1⟩;have op:=hQ S A n c i l id w1 HH.out.1 (by omega) (HH.out.2.1.below b1) hi HH.out.2.2.1 HH.out.2.2.2;unfold PId.val at op;have ao:=hC.below b1 hC.lt;obtain⟨x0,x1,x2⟩:=ao.c3;simp at x0 x1 x2;obtain⟨A1,n1,c1,rfl,bv,bU⟩:=O1.form;obtain rfl:n1=n:=by rw[bv.out,HH.out.1]
 go_wp2_with fail;refine op.mono ?_;clear op;rintro e w2 ⟨rfl,b2⟩;have O2:=O1.below b2;obtain⟨gb,cur,rfl,aG,aA,hcs,cu⟩:=O2.block (by omega);clear cu;have bq:cur.size=c1*9:=hcs;have J:i*9+8<cur.size:=by omega
 have y8:w2.cell? ⟨gb,i*9+8,none⟩=some cur[i*9+8]:=by rw[aG.cell,Array.getElem?_eq_getElem J]
 have yf:w2.frozen? ⟨gb,i*9+8,none⟩=false:=aG.free _;have HS:=di hcs bq;clear hcs bq;go_wp2_with fail;go_ret2;obtain⟨u,hu,A3,c3,bb,bN⟩:=O2.cur aG hi;have bf:=aG.put (i*9+8) (.bool true);have I:=aR w2 gb (i*9+8) (.bool true);have e9:bg.k=9:=rfl;have cO:(l[i].ask.cellsOf A3 c3)=(l[i].cellsOf A3 c3).set 8 (.bool true):=rfl;have hG:Goes (bm (λb=>b<w0.heap.size) (Y (aj gb) n1 c1)) w2 (bm (λb=>b<w0.heap.size) (Y (aj gb) n1 c1)) (w2.setCell ⟨gb,i*9+8,none⟩ (.bool true)):=aJ I (.inr rfl);have O3:=O2.set (by decide) aG bf hi (l[i].ask.cellsOf A3 c3) l[i].ask (by simp) (λj hj=>by
  rw[e9]at hj;rw[e9,cO,List.getElem?_set,Array.getElem?_setIfInBounds];have aa:=hu j hj;rw[e9]at aa;by_cases h8:8=j
  ·subst h8;rw[if_pos rfl,if_pos rfl,if_pos J,if_pos (by show 8<9;omega)]
  ·rw[if_neg (by omega),if_neg h8,aa,bb]) (λm hm=>by
  rw[e9]at hm;rw[Array.getElem?_setIfInBounds,if_neg (by omega)]) ⟨A3,c3,rfl,bN.goes hG⟩ I
 refine⟨_,rfl,(O3.mono aU.size).weak (λb a7=>Nat.lt_of_lt_of_le a7 aU.size),?_⟩;have bo:Below w w w2:=aU.trans ((b1.trans (b2.mono b1.size)).mono aU.size);exact bo.grown I bo.size (λk hk=>by injection hk with hk;have:=(O2.lt (g:=gb) rfl).1;have:=aU.size;omega)
theorem vd(S:Nat->Prop)(A:Option Addr)(n c:Nat)(l:List ct)(id:PId)(w:World)(aL:n=l.length)(hm:n<=1000000)(h:SliceAt bg w S A l)(hs:dj l id= -1):
 Calls Tryz.prog 64 #[Y A n c,id.val] w λe w'=>e=.returned (.tuple #[gB false,.bool false])/\Below w w w':=by
 unfold PId.val;obtain⟨w0,ar⟩:=am ((w.alloc (.cells (bY id) 32)).alloc (.cells (gB false) 148));have aU:Below w w w0:=by rw[ar];exact((Below.refl _ _).alloc (Nat.le_refl _) _).alloc (by simp) _
 have hC:ai w0 w 32 (bY id):=by rw[ar];exact(ai.made _ _ _).alloc _
 have hO:ai w0 (w.heap.size+1) 148 (gB false):=by
  rw[ar];have:=ai.made (w.alloc (.cells (bY id) 32)) 148 (gB false);simpa using this
 have sk:=iv S A n c l id w0 aL hm (h.below aU);rw[hs]at sk;unfold PId.val at sk;obtain⟨cb,M⟩:=am w.heap.size;obtain⟨ob,bw⟩:=am (w.heap.size+1);rw[<-M]at hC;rw[<-bw]at hO;have aF:=Lib.hid M;have aE:=Lib.hid bw;have ad:∀w,(Instr.build 148 #[]).run Tryz.prog w=.ok (gB false) w:=tU;obtain⟨x0,x1,x2⟩:=hC.c3;simp at x0 x1 x2;clear h aL hs M bw;go_enter Tryz.func64,Tryz.ntmps64;go_wp2_with fail;rw[<-ar,<-aE.out,<-aF.out];clear ar;refine sk.mono ?_;clear sk;rintro e w1 ⟨rfl,b1⟩;have aQ:=hO.below b1 hO.lt;obtain⟨cl,bc,o2,o3,o4,J,o6,I,o8⟩:=aQ.c9;have bq:=aQ.free 0;have bk:=aQ.free 1;have bi:=aQ.free 2;have bj:=aQ.free 3;have af:=aQ.free 4;have ae:=aQ.free 5;have b0:=aQ.free 6;have aj:=aQ.free 7;have ah:=aQ.free 8;simp at cl bc o2 o3 o4 J o6 I o8;go_wp2_with fail;have RZ:=((((((((aQ.put 0 (ag 0)).put 1 (ag 0)).put 2 (av 0)).put 3 (av 0)).put 4 (ag 0)).put 5 (av 0)).put 6 aa).put 7 aa).put 8 (.bool false);simp only[List.setIfInBounds_toArray,List.set_cons_zero,List.set_cons_succ]at RZ;have gz:=bl ob (gB false) w1 0;refine bodyPost_ret (bI rfl _ _ ob 148 _ (0,0) _ rfl RZ Tryz.underlying148 rfl (by kernel_rfl)) rfl ?_;have a6:=aU.trans (b1.mono aU.size);exact⟨rfl,a6.grown gz a6.size (λk hk=>by injection hk with hk;have:=aE.out;omega)⟩
end Go.Proofs.YtgblliofomgggaaGreat
