/- TopSilent: for all parents, all ints a and b and all events the law returns true, and the arguments read behind the call as before. No conditions. -/
import Derived.Test.YtgblliofomgggaaGreatRows
import Derived.Test.YtgblliofomgggaaGreatM01
import Derived.Test.YtgblliofomgggaaGreatM25
import Derived.Test.YtgblliofomgggaaGreatM05
namespace Go.Proofs.YtgblliofomgggaaGreat
set_option maxRecDepth 100000
set_option maxHeartbeats 8000000
open Go.RowKit a7 bA
open Go.IntKind renaming i64 -> af,u64 -> ak
open Go.Value renaming int -> I,slice -> Y,pointer -> aL,agg -> aE
theorem jG{x:ae}(hg:x.aH)(he:x.events=[]):x.enc.length<=200:=by
 unfold ae.enc PId.enc;rw[he];have h1:=aG x.kind (by have:=hg.kind;omega);have h2:=aG x.id.au (by have:=hg.id.b;omega);have a1:=aG x.id.aq hg.id.l;have h4:=aG x.id.ax hg.id.s;have bi:=aG x.ah (by have:=hg.ah;omega);have h6:=aG x.sub hg.sub;have h7:(if x.kind=1 then Pk.az ([]:List (List aO)).length++(([]:List (List aO)).map λe=>Pk.aQ (c0 e)).flatten else if x.kind=2 then Pk.aQ (Pk.az 0)else []).length<=60:=by
  split
  ·have:=aG 0 (by omega);simp;omega
  ·split
   ·exact Nat.le_of_ble_eq_true (by kernel_rfl)
   ·simp
 simp only[List.length_append]at h7 ⊢;omega
theorem jD{x:ae}(hg:x.aH)(he:x.events=[]):dZ x=false:=by
 unfold dZ;exact decide_eq_false (by have:=jG hg he;omega)
theorem ie(k i n c s:Nat)(hk:k=1\/k=2\/k=3)(hi:i<16)(aL:n<1000)(hc:c<32)(hs:s<1000)(h1:k=1->s=0):(⟨k,⟨i,1,n⟩,c,s,[]⟩:ae).aH:=
 ⟨hk,⟨hi,(by decide:1<18446744073709551616),by show n<_;omega⟩,hc,by show s<_;omega,h1,Nat.zero_le _,λ_=>rfl,λe he=>by cases he⟩
def nb(x:ae)(ev:List aO):ae:=if ev.length<=16 then gI x ev else x
def jY(x:ae)(l:List (List aO)):ae:=l.foldl nb x
structure fH (x:ae) (id:PId) (k:Nat):Prop where
 aH:x.aH
 big:dZ x=false
 id:x.id=id
 kind:x.kind=1
 ah:x.ah=0
 ev:x.events.length<=k
theorem fH.next{x:ae}{id:PId}{k:Nat}(h:fH x id k)(hk:k<8){ev:List aO}(hf:∀a∈ev,a.fits):fH (gI x ev) id (k+1):=by
 unfold gI;split
 ·rename_i e;exact⟨ae.kk h.aH h.kind (by have:=h.ev;omega) e.1 hf,e.2,h.id,h.kind,h.ah,by show(x.events++[ev]).length<=_;have:=h.ev;simp;omega⟩
 ·exact⟨h.aH,h.big,h.id,h.kind,h.ah,by have:=h.ev;omega⟩
theorem fH.more{x:ae}{id:PId}{k:Nat}(h:fH x id k):fH x id (k+1):=⟨h.aH,h.big,h.id,h.kind,h.ah,by have:=h.ev;omega⟩
theorem oA{id:PId}:∀ (l:List (List aO)) (x:ae) (k:Nat),fH x id k->k+l.length<=8->(∀e∈l,∀a∈e,a.fits)->fH (jY x l) id (k+l.length)
 | [],_,_,h,_,_=>h
 | e::l,x,k,h,hl,hf=>by
  have hl:k+(l.length+1)<=8:=hl;have h1:fH (nb x e) id (k+1):=by
   unfold nb;split
   ·exact h.next (by omega) (hf e (by simp))
   ·exact h.more
  have:=oA l (nb x e) (k+1) h1 (by omega) (λe he=>hf e (by simp[he]));rw[show k+(e::l).length=k+1+l.length by simp;omega];exact this
theorem vp(x:ae)(l:List (List aO))(i:Nat)(h:i<l.length):jY x (l.take (i+1))=nb (jY x (l.take i)) l[i]:=by
 unfold jY;rw[List.take_succ_eq_append_getElem h,List.foldl_append];rfl
def zT(n:Nat)(p:Nat->Nat)(a b:Nat):aM:=⟨0,n,p,[0,a,b],3100,1048576⟩
def zG(n:Nat)(p:Nat->Nat)(a b:Nat):aM:=⟨0,n,p,[0,a,b],400,60000⟩
theorem qm{n:Nat}{p:Nat->Nat}{a b:Nat}(n1:1<=n)(n6:n<=6)(hg:Tr.Good p n)(ha:a<n)(a7:b<n):Shape (zT n p a b):=
 ⟨n1,n6,hg,λi hi=>⟨hi,(by show n<=16;omega),(by decide:1<=3),(by decide:3<=32),λk hk=>by
  show k<n;have hk:k∈[0,a,b]:=hk;simp only[List.mem_cons,List.not_mem_nil,or_false]at hk;omega,(by decide:3100<=4000),(by decide:1048576<=1048576)⟩,(by decide:8*3100<=1048576),(by decide:60<=3100)⟩
theorem DA{n:Nat}{p:Nat->Nat}{a b:Nat}(n1:1<=n)(n6:n<=6)(ha:a<n)(a7:b<n):∀i,i<(zG n p a b).n->((zG n p a b).at_ i).ok:=
 λi hi=>⟨hi,(by show n<=16;omega),(by decide:1<=3),(by decide:3<=32),λk hk=>by
  show k<n;have hk:k∈[0,a,b]:=hk;simp only[List.mem_cons,List.not_mem_nil,or_false]at hk;omega,(by decide:400<=4000),(by decide:60000<=1048576)⟩
def e8(a:Nat):Nat:=if a=0 then 3 else 1
def eT(a:Nat)(P:ae):Nat->ae:=λt=>if t=0 then⟨2,⟨a,1,1⟩,1,7,[]⟩else if t=1 then⟨3,⟨a,1,2⟩,1,7,[]⟩else P
theorem B2{a:Nat}{P:ae}{k:Nat}(ha:a<6)(h:fH P ⟨0,1,e8 a⟩ k):cG (eT a P) 3100:=by
 have hid:(eT a P 2).id=⟨0,1,e8 a⟩:=h.id;have gb:(eT a P 2).bare.aH:=⟨h.aH.kind,h.aH.id,h.aH.ah,h.aH.sub,h.aH.yw,Nat.zero_le _,λ_=>rfl,λe he=>by cases he⟩;refine⟨λe=>?_,λe=>?_,λe=>?_,rfl,rfl,h.kind,rfl,rfl,λt ht=>?_⟩
 ·have e:(⟨a,1,1⟩:PId)=⟨a,1,2⟩:=e;simp at e
 ·rw[hid]at e;have e:(⟨a,1,1⟩:PId)=⟨0,1,e8 a⟩:=e;unfold e8 at e;injection e with e1 a5 e3;split at e3<;>omega
 ·rw[hid]at e;have e:(⟨a,1,2⟩:PId)=⟨0,1,e8 a⟩:=e;unfold e8 at e;injection e with e1 a5 e3;split at e3<;>omega
 ·have g0:(eT a P 0).aH:=ie 2 a 1 1 7 (by omega) (by omega) (by omega) (by omega) (by omega) (by omega);have g1:(eT a P 1).aH:=ie 3 a 2 1 7 (by omega) (by omega) (by omega) (by omega) (by omega) (by omega);obtain rfl | rfl | rfl:t=0\/t=1\/t=2:=by omega
  ·have:=jG g0 rfl;exact⟨⟨g0,by omega⟩,g0,by show(eT a P 0).enc.length+70<=_;omega⟩
  ·have:=jG g1 rfl;exact⟨⟨g1,by omega⟩,g1,by show(eT a P 1).enc.length+70<=_;omega⟩
  ·have h2:=jG gb rfl;have a7:=h.big;unfold dZ at a7;have a7:=of_decide_eq_false a7;exact⟨⟨h.aH,by show P.enc.length+70<=_;omega⟩,gb,by omega⟩
theorem sO(bs:Nat->aC)(i:Nat)(s t:aC):put (put bs i s) i t=put bs i t:=by
 funext j;unfold put;split<;>rfl
theorem Bl(bs:Nat->aC)(i:Nat)(s:aC):put bs i s i=s:=if_pos rfl
theorem sX(AP AH:Option Addr)(n cP h cH:Nat)(r:Int)(f:Nat->Int)(w:World)(hA:Tr.kH w w AP n f)(hm:n<=9223372036854775807)(ht:¬Tr.iy n f):
 Calls Tryz.prog 6 #[Y AP n cP,Y AH h cH,ag r] w λe w'=>e=.returned (.tuple #[.pointer none,ag 120])/\w=w':=by
 have ck:=Tr.tI AP cP n w f w hA hm ht;clear hA ht;go_enter Tryz.func6,Tryz.ntmps6;go_wp2_with fail;go_fit ck;clear ck;rintro e w1 ⟨rfl,rfl⟩;go_wp2;go_ret2;exact⟨rfl,rfl⟩
theorem zQ(AP AH:Option Addr)(n cP cH:Nat)(f:Nat->Int)(w:World)(hA:Tr.kH w w AP n f)(hm:n<=9223372036854775807)(ht:6<n\/¬Tr.iy n f):
 Calls Tryz.prog 5 #[Y AP n cP,Y AH 3 cH] w λe w'=>e=.returned (.bool false)/\w=w':=by
 by_cases h6:6<n
 ·have I:(6:Int)<(n:Int):=(by omega);clear hA ht h6;go_enter Tryz.func5,Tryz.ntmps5;go_wp2;go_ret;exact⟨rfl,rfl⟩
 ·have I:¬ ((6:Int)<(n:Int)):=(by omega);have nb:=sX AP AH n cP 3 cH 60000 f w hA hm (ht.resolve_left h6);clear hA ht h6;go_enter Tryz.func5,Tryz.ntmps5;go_wp2_with fail;go_fit nb;clear nb;rintro e w1 ⟨rfl,rfl⟩;go_wp2;go_ret;exact⟨rfl,rfl⟩
theorem nA{w:World}{g a b:Nat}(h:ai w g 3 #[ag 0,ag a,ag b]):SliceAt b5 w (λ_=>False) (aj g) [0,a,b]:=
 SliceAt.qF (us:=[[I af 0],[I af a],[I af b]]) h rfl (λi u y hu hy=>by
  have hi:i<3:=(List.getElem?_eq_some_iff.1 hu).1;obtain rfl | rfl | rfl:i=0\/i=1\/i=2:=by omega
  all_goals (injection hu with hu;injection hy with hy;subst hu;subst hy;rfl))
theorem xH(AP:Option Addr)(n cP a7 a b:Nat)(p:Nat->Nat)(w:World)(n6:n<=6)(ha:a<n)(J:b<n)(ht:Tr.c6 w w AP n p)(hH:ai w a7 3 #[ag 0,ag a,ag b]):
 Calls Tryz.prog 5 #[Y AP n cP,Y (aj a7) 3 3] w λe w'=>e=.returned (.bool true)/\Below w w w':=by
 have I:¬ ((6:Int)<(n:Int)):=by omega
 have nw:Calls Tryz.prog 6 #[Y AP n cP,Y (aj a7) 3 3,ag 60000] w _:=uw (zG n p a b) AP (aj a7) cP 3 w (DA (by omega) n6 ha J) n6 ht (nA hH) (by decide:200<=60000);clear ht hH ha J n6;go_enter Tryz.func5,Tryz.ntmps5;go_wp2_with fail;go_fit nw;clear nw;rintro e w1 ⟨y,rfl,_,b1,_⟩;go_wp2;go_ret;exact⟨rfl,b1⟩
section
structure nu (w0:World) (zz:aM) (wb:Nat) (bs:Nat->aC) (a:WA) (cs:List Nat) (gs:Array Value) (W:World):Prop where
 at_:bB W zz bs a (λ_=>[]) cs gs
 lo:∀b,a.all zz.n b->w0.heap.size<=b
 lI:Below w0 w0 W
 eY:a.wb=wb
structure hH (zz:aM) (a:WA) (W:World) (ib:Nat) (id:PId):Prop where
 aW:ai W ib 32 (bY id)
 off:¬a.all zz.n ib
section
variable {w0 w w':World}{zz:aM}{wb ib:Nat}{bs iI:Nat->aC}{a a':WA}{cs j5:List Nat}{gs jQ:Array Value}{id:PId}
theorem nu.hJ(h:nu w0 zz wb bs a cs gs w)(h1:bB w' zz iI a' (λ_=>[]) cs gs)(f:bR zz.n a w a' w'):nu w0 zz wb iI a' cs gs w':=by
 obtain⟨t,o,e⟩:=f.jr;have s:=h.lI.size;refine⟨h1,λb a7=>?_,?_,e.1.trans h.eY⟩
 ·by_cases bA:b<w.heap.size
  ·exact h.lo b (o b bA a7)
  ·omega
 ·exact((aw.ao h.lI λb=>w0.heap.size<=b).trans t (λb _ e=>h.lo b e)).below (Nat.le_refl _) (λb _ e=>e)
theorem nu.below(h:nu w0 zz wb bs a cs gs w)(b:Below w w w'):nu w0 zz wb bs a cs gs w':=⟨h.at_.below b,h.lo,h.lI.trans (b.mono h.lI.size),h.eY⟩
theorem pi{b:Nat}{n:Nat}(h:b=a.cb\/b=a.gb):a.all n b:=.inr (h.elim (λe=>.inr (.inr (.inr (.inr (.inl e))))) (λe=>.inr (.inr (.inr (.inr (.inr e))))))
theorem nu.bj(h:nu w0 zz wb bs a cs gs w)(h1:bB w' zz bs a (λ_=>[]) j5 jQ)(t:aw (λb=>b=a.cb\/b=a.gb) w w'):nu w0 zz wb bs a j5 jQ w':=
 ⟨h1,h.lo,((aw.ao h.lI λb=>w0.heap.size<=b).trans t (λb _ e=>h.lo b (pi e))).below (Nat.le_refl _) (λ_b _ e=>e),h.eY⟩
theorem hH.hJ(h:hH zz a w ib id)(f:bR zz.n a w a' w'):hH zz a' w' ib id:=
 ⟨f.jr.1.aW h.aW h.off,λe=>h.off (f.jr.2.1 ib h.aW.lt e)⟩
theorem hH.below(h:hH zz a w ib id)(b:Below w w w'):hH zz a w' ib id:=⟨h.aW.below b h.aW.lt,h.off⟩
theorem hH.bj(h:hH zz a w ib id)(t:aw (λb=>b=a.cb\/b=a.gb) w w'):hH zz a w' ib id:=⟨t.aW h.aW (λe=>h.off (pi e)),h.off⟩
theorem hH.made(h:bB w zz bs a (λ_=>[]) cs gs)(he:ib=w.heap.size):hH zz a (w.alloc (.cells (bY id) 32)) ib id:=
 ⟨ai.kW he,λe=>by
  have:ib<w.heap.size:=by
   rcases e with e | e
   ·exact h.lt ib e
   ·exact h.jn ib e
  omega⟩
end
def dL(bs:Nat->aC)(x:ae)(c:Nat):Nat->aC:=put bs 0 {bs 0 with aF:=[⟨x,false⟩],calls:=c}
theorem mc{zz:aM}{bs:Nat->aC}{x:ae}{c:Nat}(h:Fit (zz.at_ 0) (bs 0))(hx:ch (zz.at_ 0) x):Fit (zz.at_ 0) (dL bs x c 0):=by
 unfold dL;rw[Bl];exact⟨h.list,h.ay,λt ht=>by rw[List.mem_singleton.1 ht];exact hx,h.waits,h.bU,h.lX,h.l1,h.l2,(by decide:1<=8),h.l4,h.run,h.enc⟩
theorem p0(x:ae)(y:Bool)(id:PId)(h:x.id=id):dj [⟨x,y⟩] id=((0:Nat):Int):=by
 unfold dj idxOf;simp[ef,h]
section
variable {zz:aM}{bs:Nat->aC}{A:WA}{cs:List Nat}{gs:Array Value}{W:World}(h:bB W zz bs A (λ_=>[]) cs gs)
include h
theorem CR{a k:Nat}(hc:1<zz.homes.length)(hi:zz.homes[1]=a)(ha:a<16)(hf:Fit (zz.at_ a) (bs a))(ht:(bs a).aF=[])(hk:(bs a).calls=k)(I:k<900):
 Calls Tryz.prog 7 #[aj A.wb,ag 1,av 7,aa] W λe w'=>e=.returned (.tuple #[(⟨a,1,k+1⟩:PId).val,ag 0])/\∃a':WA,bB w' zz (dB bs a ⟨2,⟨a,1,k+1⟩,1,7,[]⟩ (k+1)) a' (λ_=>[]) cs gs/\bR zz.n A W a' w':=by
 have hg:=ie 2 a (k+1) 1 7 (by omega) ha (by omega) (by omega) (by omega) (by omega);have:=yZ zz bs A (λ_=>[]) cs gs 1 W h hc a hi 7 hf (by rw[ht];decide) (by omega) (by rw[hk];exact hg) (by rw[hk];exact jD hg rfl) (by rw[ht];rfl);rw[ht,hk]at this;exact this
theorem zn{a k:Nat}(hc:1<zz.homes.length)(hi:zz.homes[1]=a)(ha:a<16)(hf:Fit (zz.at_ a) (bs a))(ht:(bs a).aF=[])(hk:(bs a).calls=k)(I:k<900):
 Calls Tryz.prog 9 #[aj A.wb,ag 1,av 7] W λe w'=>e=.returned (.tuple #[(⟨a,1,k+1⟩:PId).val,ag 0])/\∃a':WA,bB w' zz (dB bs a ⟨3,⟨a,1,k+1⟩,1,7,[]⟩ (k+1)) a' (λ_=>[]) cs gs/\bR zz.n A W a' w':=by
 have hg:=ie 3 a (k+1) 1 7 (by omega) ha (by omega) (by omega) (by omega) (by omega);have:=zY zz bs A (λ_=>[]) cs gs 1 W h hc a hi 7 hf (by rw[ht];decide) (by omega) (by rw[hk];exact hg) (by rw[hk];exact jD hg rfl) (by rw[ht];rfl);rw[ht,hk]at this;exact this
theorem zr{k:Nat}(hc:0<zz.homes.length)(hi:zz.homes[0]=0)(hf:Fit (zz.at_ 0) (bs 0))(ht:(bs 0).aF=[])(hk:(bs 0).calls+1=k)(I:k<900):
 Calls Tryz.prog 10 #[aj A.wb,ag 0] W λe w'=>e=.returned (.tuple #[(⟨0,1,k⟩:PId).val,ag 0])/\∃a':WA,bB w' zz (dL bs ⟨1,⟨0,1,k⟩,0,0,[]⟩ k) a' (λ_=>[]) cs gs/\bR zz.n A W a' w':=by
 have hg:=ie 1 0 k 0 0 (by omega) (by omega) (by omega) (by omega) (by omega) (by omega);have:=rE zz bs A (λ_=>[]) cs gs 0 W h hc 0 hi hf (by rw[ht];decide) (by omega) (by rw[hk];exact hg) (by rw[hk];exact jD hg rfl) (by rw[ht];rfl);rw[ht,hk]at this;exact this
end
section
variable {zz:aM}{bs:Nat->aC}{x:ae}{c:Nat}{A:WA}{cs:List Nat}{gs:Array Value}{W:World}(h:bB W zz (dL bs x c) A (λ_=>[]) cs gs)
include h
theorem CU{id:PId}{k n3 c3:Nat}{A3:Option Addr}{ev:List aO}(hc:0<zz.homes.length)(hi:zz.homes[0]=0)(hx:fH x id k)(hk:k<8)(hid:id.au=0)(hf:Fit (zz.at_ 0) (bs 0))(ah:ch (zz.at_ 0) x)(aL:n3=ev.length)(he:SliceAt cy W (λ_=>False) A3 ev):
 Calls Tryz.prog 11 #[aj A.wb,ag 0,id.val,Y A3 n3 c3] W λe w'=>(∃r:Int,e=.returned (ag r))/\∃a':WA,bB w' zz (dL bs (gI x ev) c) a' (λ_=>[]) cs gs/\bR zz.n A W a' w':=by
 have:=nB zz (dL bs x c) A (λ_=>[]) cs gs 0 W h hc 0 hi id hid (λ_=>False) A3 n3 c3 0 ev (mc hf ah) (by decide:0<1) (p0 x false id hx.id) rfl hx.kind (by have:=hx.ev;show x.events.length<8;omega) aL he;have e:put (dL bs x c) 0 {dL bs x c 0 with aF:=(dL bs x c 0).aF.set 0 ⟨gI x ev,false⟩}=dL bs (gI x ev) c:=by
  unfold dL;rw[sO];rfl
 rw[<-e];exact this
theorem xa{id:PId}(hc:0<zz.homes.length)(hi:zz.homes[0]=0)(hx:x.id=id)(hid:id.au=0)(hf:Fit (zz.at_ 0) (bs 0))(ah:ch (zz.at_ 0) x):
 Calls Tryz.prog 12 #[aj A.wb,ag 0,id.val] W λe w'=>e=.returned (ag 0)/\∃a':WA,bB w' zz (dB bs 0 x c) a' (λ_=>[]) cs gs/\bR zz.n A W a' w':=by
 have:=pJ zz (dL bs x c) A (λ_=>[]) cs gs 0 W h hc 0 hi id hid 0 (mc hf ah) (by decide:0<1) (p0 x false id hx) rfl;have e:put (dL bs x c) 0 {dL bs x c 0 with aF:=(dL bs x c 0).aF.set 0 (⟨x,false⟩:ct).ask}=dB bs 0 x c:=by
  unfold dL dB;rw[sO];rfl
 rw[<-e];exact this
end
end
theorem iV(bs:Nat->aC)(a:Nat)(x:ae)(c i:Nat):(dB bs a x c i).calls=if i=a then c else(bs i).calls:=by
 unfold dB put;split<;>rfl
structure Db (zz:aM) (a:Nat) (P:ae) (nS mE kh:Nat->aC):Prop where
 c1:c7 zz 60 (dB (λ_=>aC.new) a ⟨2,⟨a,1,0+1⟩,1,7,[]⟩ (0+1))
 e1:bM zz 60 (dB (λ_=>aC.new) a ⟨2,⟨a,1,0+1⟩,1,7,[]⟩ (0+1))=nS
 f2:Fit (zz.at_ a) (nS a)
 t2:(nS a).aF=[]
 k2:(nS a).calls=1
 c3:c7 zz 60 (dB nS a ⟨3,⟨a,1,1+1⟩,1,7,[]⟩ (1+1))
 e3:bM zz 60 (dB nS a ⟨3,⟨a,1,1+1⟩,1,7,[]⟩ (1+1))=mE
 f4:Fit (zz.at_ 0) (mE 0)
 t4:(mE 0).aF=[]
 k4:(mE 0).calls+1=e8 a
 c5:c7 zz 60 (dB mE 0 P (e8 a))
 e5:bM zz 60 (dB mE 0 P (e8 a))=kh
 f7:∀i,i<zz.n->Fit (zz.at_ i) (kh i)
 l7:∀i,i<zz.n->(kh i).list.length=3/\(kh i).aF=[]/\bd (kh i).list P.id=true/\∀c,ju (kh i).list c 3/\fU (kh i).list c 3=[]
theorem AM{n:Nat}{p:Nat->Nat}{a b k:Nat}{P:ae}(n1:1<=n)(n6:n<=6)(hg:Tr.Good p n)(ha:a<n)(a7:b<n)(bv:fH P ⟨0,1,e8 a⟩ k):∃nS mE kh,Db (zT n p a b) a P nS mE kh:=by
 have hz:=qm n1 n6 hg ha a7;have hE:cG (eT a P) (zT n p a b).g:=B2 (by omega) bv;have h0:0<(zT n p a b).n:=n1;have I:a<(zT n p a b).n:=ha;obtain⟨c1,r1⟩:=sd hz hE ha (bs:=λ_=>aC.new) (λ_ _=>rfl) 1;obtain⟨c3,r3⟩:=rj hz hE ha r1 2;obtain⟨c5,r5⟩:=oT hz hE r3 (e8 a);refine⟨_,_,_,⟨c1,rfl,(r1.inv a I).fit,(r1.calm I).aF,?_,c3,rfl,(r3.inv 0 h0).fit,(r3.calm h0).aF,?_,c5,rfl,λi hi=>(r5.inv i hi).fit,λi hi=>s4 hE r5 hi⟩⟩
 ·rw[fP,iV,if_pos rfl]
 ·rw[fP,iV,fP,iV];unfold e8;by_cases h:a=0
  ·subst h;rfl
  ·rw[if_neg (λe=>h e.symm),if_neg (λe=>h e.symm),if_neg h];rfl
theorem o9(w:World)(a b:Nat):ai (w.alloc (.cells #[ag 0,ag a,ag b] 3)) w 3 #[ag 0,ag a,ag b]:=ai.made _ _ _
theorem x3(n cP a b m ba:Nat)(p:Nat->Nat)(AP AE:Option Addr)(aX:List (List aO))(w:World)(n6:n<=6)(ha:a<n)(a7:b<n)(aR:m<=4)(hm:m=aX.length)(ht:Tr.c6 w w AP n p)(hE:SliceAt aN w (λ_=>False) AE aX):
 Calls Tryz.prog 3 #[Y AP n cP,ag a,ag b,Y AE m ba] w λe w'=>e=.returned (.bool true)/\Below w w w':=by
 have aI:∀e∈aX,∀x∈e,x.fits:=λe he=>by
  obtain⟨i,hi,rfl⟩:=List.getElem_of_mem he;obtain⟨_,_,u,_,_,_,_,_,hu⟩:=hE.at_ hi (by decide);obtain⟨A',c',_,hs⟩:=hu;exact hs.fits
 have aS:fH (⟨1,⟨0,1,e8 a⟩,0,0,[]⟩:ae) ⟨0,1,e8 a⟩ 0:=by
  have hg:=ie 1 0 (e8 a) 0 0 (by omega) (by omega) (by unfold e8;split<;>omega) (by omega) (by omega) (by omega);exact⟨hg,jD hg rfl,rfl,rfl,rfl,Nat.zero_le _⟩
 have aD:=λ(i:Nat) (hi:i<=aX.length)=>oA (aX.take i) _ 0 aS (by rw[List.length_take];omega) (λe he=>aI e (List.mem_of_mem_take he));have ar:=oA aX _ 0 aS (by omega) aI;obtain⟨nS,mE,kh,PL⟩:=AM (b:=b) (by omega) n6 ht.2.2.1 ha a7 ar;obtain⟨P0,au⟩:=am (⟨1,⟨0,1,e8 a⟩,0,0,[]⟩:ae);rw[<-au]at aD ar PL;have az:e8 a<900:=by unfold e8;split<;>omega
 have ay:∀ (x:ae) (k:Nat),fH x ⟨0,1,e8 a⟩ k->ch ((zT n p a b).at_ 0) x:=λx k hx=>by
  have:=(B2 (a:=a) (by omega) hx).fit 2 (by omega);exact⟨this.1.1,this.1.2⟩
 have bq:=mZ w;have HH:=CX n6 ha a7 ht hE aD ar PL ay hm az au;have l1:¬ ((a:Int)<0):=by omega
 have l2:¬ ((b:Int)<0):=by omega
 have l3:¬ ((n:Int)<=(a:Int)):=by omega
 have l4:¬ ((n:Int)<=(b:Int)):=by omega
 have l5:¬ ((4:Int)<(m:Int)):=by omega
 clear ht hE aD ar PL ay hm aI aS az au n6 ha a7;go_enter Tryz.func3,Tryz.ntmps3;go_wp2_with fail;go_fit bq;clear bq;rintro e w1 ⟨rfl,b1⟩;obtain⟨w2,a8⟩:=am (w1.alloc (.cells #[ag 0,ag a,ag b] 3));have b2:=aV a8;have gy:=xH AP n cP w1 a b p w2 HH.out.1 HH.out.2.1 HH.out.2.2.1 (eS.goes (⟨HH.out.2.2.2.1,λ_ _ _ e=>e⟩:eS w (λ_=>False) AP n p) (Goes.ao (b1.trans (b2.mono b1.size)) _)).1 (by rw[a8];exact o9 _ _ _);have bI:=di b1 b2;clear b1 b2;go_wp2_with fail;rw[<-a8];clear a8;go_fit gy;clear gy;rintro e w3 ⟨rfl,b3⟩;obtain⟨b1,b2⟩:=bI.out;have M:Below w w w3:=(b1.trans (b2.mono b1.size)).trans (b3.mono (Nat.le_trans b1.size b2.size));obtain⟨w4,bd⟩:=am (w3.alloc (.cells #[ag 0,ag a,ag b] 3));have bK:=aV bd;have aT:Below w w w4:=M.trans (bK.mono M.size);have nw:Calls Tryz.prog 6 #[Y AP n cP,Y (aj w3) 3 3,ag 1048576] w4 _:=uw (zT n p a b) AP (aj w3) cP 3 w4 (qm (by have:=HH.out.2.1;omega) HH.out.1 HH.out.2.2.2.1.2.2.1 HH.out.2.1 HH.out.2.2.1).ok HH.out.1 (eS.goes (⟨HH.out.2.2.2.1,λ_ _ _ e=>e⟩:eS w (λ_=>False) AP n p) (Goes.ao aT _)).1 (nA (by rw[bd];exact o9 _ _ _)) (by decide:200<=1048576);have B4:=Lib.hid aT;clear b1 b2 b3 M bK aT bI;go_wp2_with fail;rw[<-bd];clear bd;go_fit nw;clear nw;rintro e w5 ⟨bO,rfl,W5,bS,b5⟩;obtain⟨wb,eY⟩:=am bO.wb;have A5:nu w (zT n p a b) wb (λ_=>aC.new) bO [0,0,0] (List.replicate (zT n p a b).homes.length aa).toArray w5:=⟨W5,λb a7=>Nat.le_trans B4.out.size (b5 b (.inl a7)),B4.out.trans (bS.mono B4.out.size),eY.symm⟩;rw[<-eY];obtain⟨gs,aH⟩:=am ((List.replicate (zT n p a b).homes.length aa).toArray);rw[<-aH]at A5;clear W5 bS b5 eY aH B4;have bX:Calls Tryz.prog 7 #[aj bO.wb,ag 1,av 7,aa] w5 λe w'=>e=.returned (.tuple #[aE #[ag a,av 1,av 1],ag 0])/\∃a':WA,bB w' (zT n p a b) (dB (λ_=>aC.new) a ⟨2,⟨a,1,0+1⟩,1,7,[]⟩ (0+1)) a' (λ_=>[]) [0,0,0] gs/\bR (zT n p a b).n bO w5 a' w':=CR A5.at_ (a:=a) (k:=0) (by decide:1<3) rfl (by have:=HH.out.1;have:=HH.out.2.1;omega) (ir (E:=eT a P0) (qm (by have:=HH.out.2.1;omega) HH.out.1 HH.out.2.2.2.1.2.2.1 HH.out.2.1 HH.out.2.2.1) a).fit rfl rfl (by omega);rw[A5.eY]at bX;have H5:=Lib.hid A5;clear A5;go_wp2_with fail;go_fit bX;clear bX;rintro e w6 ⟨rfl,bk,W6,f6⟩;have A6:=H5.out.hJ W6 f6;clear W6 f6;obtain⟨w7,bf⟩:=am (w6.alloc (.cells #[ag a,av 1,av 1] 32));have A7:=A6.below (w':=w7) (by rw[bf];exact(Below.refl _ _).alloc (Nat.le_refl _) _);obtain⟨cl,aL⟩:=am bk;rw[<-aL]at A7;clear A6 aL;have c8:Calls Tryz.prog 8 #[aj cl.wb,ag n] w7 λe w'=>e=.returned (.bool true)/\∃a':WA,bB w' (zT n p a b) nS a' (λ_=>[]) [0,0,0] gs/\bR (zT n p a b).n cl w7 a' w':=by
  have:=kl (zT n p a b) _ cl _ gs n w7 A7.at_ rfl HH.out.2.2.2.2.2.2.2.1.c1;rw[HH.out.2.2.2.2.2.2.2.1.e1]at this;exact this
 rw[A7.eY]at c8;have H7:=Lib.hid A7;clear A7;go_wp2_with fail;rw[<-bf];clear bf;go_fit c8;clear c8;rintro e w8 ⟨rfl,a9,W8,f8⟩;have A8:=H7.out.hJ W8 f8;clear W8 f8;have c9:Calls Tryz.prog 9 #[aj a9.wb,ag 1,av 7] w8 λe w'=>e=.returned (.tuple #[aE #[ag a,av 1,av 2],ag 0])/\∃a':WA,bB w' (zT n p a b) (dB nS a ⟨3,⟨a,1,1+1⟩,1,7,[]⟩ (1+1)) a' (λ_=>[]) [0,0,0] gs/\bR (zT n p a b).n a9 w8 a' w':=zn A8.at_ (a:=a) (k:=1) (by decide:1<3) rfl (by have:=HH.out.1;have:=HH.out.2.1;omega) HH.out.2.2.2.2.2.2.2.1.f2 HH.out.2.2.2.2.2.2.2.1.t2 HH.out.2.2.2.2.2.2.2.1.k2 (by omega);rw[A8.eY]at c9;have H8:=Lib.hid A8;clear A8;go_wp2_with fail;go_fit c9;clear c9;rintro e w9 ⟨rfl,aK,W9,f9⟩;have A9:=H8.out.hJ W9 f9;clear W9 f9;obtain⟨bs,bi⟩:=am (w9.alloc (.cells #[ag a,av 1,av 2] 32));have cd:=A9.below (w':=bs) (by rw[bi];exact(Below.refl _ _).alloc (Nat.le_refl _) _);obtain⟨bw,bn⟩:=am aK;rw[<-bn]at cd;clear A9 bn;have cu:Calls Tryz.prog 8 #[aj bw.wb,ag n] bs λe w'=>e=.returned (.bool true)/\∃a':WA,bB w' (zT n p a b) mE a' (λ_=>[]) [0,0,0] gs/\bR (zT n p a b).n bw bs a' w':=by
  have:=kl (zT n p a b) _ bw _ gs n bs cd.at_ rfl HH.out.2.2.2.2.2.2.2.1.c3;rw[HH.out.2.2.2.2.2.2.2.1.e3]at this;exact this
 rw[cd.eY]at cu;have cv:=Lib.hid cd;clear cd;go_wp2_with fail;rw[<-bi];clear bi;go_fit cu;clear cu;rintro e bD ⟨rfl,ce,ck,f11⟩;have cj:=cv.out.hJ ck f11;clear ck f11;obtain⟨sr,ax⟩:=am (e8 a);have a0:=Lib.hid ax;clear ax;have b4:Calls Tryz.prog 10 #[aj ce.wb,ag 0] bD λe w'=>e=.returned (.tuple #[aE #[ag 0,av 1,av sr],ag 0])/\∃a':WA,bB w' (zT n p a b) (dL mE P0 sr) a' (λ_=>[]) [0,0,0] gs/\bR (zT n p a b).n ce bD a' w':=by
  have:=zr cj.at_ (k:=e8 a) (by decide:0<3) rfl HH.out.2.2.2.2.2.2.2.1.f4 HH.out.2.2.2.2.2.2.2.1.t4 HH.out.2.2.2.2.2.2.2.1.k4 HH.out.2.2.2.2.2.2.2.2.2.2.1;rw[<-HH.out.2.2.2.2.2.2.2.2.2.2.2,<-a0.out]at this;exact this
 rw[cj.eY]at b4;have cy:=Lib.hid cj;clear cj;go_wp2_with fail;go_fit b4;clear b4;rintro e aF ⟨rfl,ct,b9,f12⟩;have b0:=cy.out.hJ b9 f12;clear b9 f12;obtain⟨a5,aJ⟩:=am (aF.alloc (.cells #[ag 0,av 1,av sr] 32));have bt:=b0.below (w':=a5) (by rw[aJ];exact(Below.refl _ _).alloc (Nat.le_refl _) _);obtain⟨cb,aM⟩:=am ct;rw[<-aM]at bt;obtain⟨ib,aQ⟩:=am aF.heap.size;have bU:hH (zT n p a b) cb a5 ib ⟨0,1,sr⟩:=by rw[aJ,aM];exact hH.made (id:=⟨0,1,sr⟩) b0.at_ aQ
 have a4:=Lib.hid aQ;clear aQ;clear b0 aM;go_wp2_with fail;rw[<-aJ]
 try rw[<-a4.out]
 clear aJ
 go_loopw [20] (λi_ wr=>∃ (i:Nat) (cr:WA),i_=I af i/\i<=m/\nu w (zT n p a b) wb (dL mE (jY P0 (aX.take i)) sr) cr [0,0,0] gs wr/\hH (zT n p a b) cr wr ib ⟨0,1,sr⟩) (λi _=>m- (intOf i).toNat)
 case atStart=>exact⟨0,cb,rfl,Nat.zero_le _,bt,bU⟩
 case round=>
  obtain⟨i,cr,rfl,hi,Ai,Xi⟩:=hrel;clear bt bU;by_cases bA:i<m
  ·have bE:(i:Int)<(m:Int):=(by omega);obtain⟨n6,ha,a7,ht,hE,aD,ar,PL,ay,hm,az,au⟩:=HH.out;have bu:i<aX.length:=(by omega);obtain⟨eb,off,u,rfl,bV,b8,bx,hcell,A2,c2,hu,h2⟩:=hE.at_ bu (by decide);rw[hu]at hcell;obtain⟨le,hle⟩:=am (aX[i].length);have dw:w.cell? ⟨eb,off+i,none⟩=some (Y A2 le c2):=(by rw[hle];simpa[aN]using hcell 0 _ rfl);have d0:wr.cell? ⟨eb,off+i,none⟩=some (Y A2 le c2):=(Ai.lI.cell (p:=⟨eb,off+i,none⟩) bV).trans dw;have a3:=vp P0 aX i bu;have hx:=aD i (by omega);rw[<-a0.out]at hx ay;have aB:0+(aX.take i).length<8:=(by rw[List.length_take];omega);have ah:=ay _ _ hx;have f4:=PL.f4;by_cases cz:le<=16
   ·have bY:(le:Int)<=16:=(by omega);have cp:=CU (Ai.at_.below (w':=wr.drew) ⟨rfl,rfl,rfl,Nat.le_refl _,λ_ _=>rfl⟩) (id:=⟨0,1,sr⟩) (by decide:0<3) rfl hx aB rfl f4 ah (c3:=c2) hle ((h2.below Ai.lI).below (w':=wr.drew) ⟨rfl,rfl,rfl,Nat.le_refl _,λ_ _=>rfl⟩);rw[Ai.eY]at cp;unfold PId.val at cp;have b6:ai wr.drew ib 32 #[ag 0,av 1,av sr]:=Xi.aW;have a1:wr.drew.cell? ⟨eb,off+i,none⟩=some (Y A2 le c2):=d0;have e1:jY P0 (aX.take (i+1))=gI (jY P0 (aX.take i)) aX[i]:=(by rw[a3];unfold nb;rw[if_pos (by omega)]);have cc:Below wr wr wr.drew:=⟨rfl,rfl,rfl,Nat.le_refl _,λ_ _=>rfl⟩;have HI:=ja e1 (Ai.below cc) (Xi.below cc) bV dw;clear n6 ha a7 ht hE aD ar PL ay hm az au b8 bx hcell hu h2 a3 hx aB ah f4 hle e1 Ai Xi cc bV dw;go_wp2_with fail;refine wp_region_held_drew (S:=(λw'=>w'.cell? (aj ib)=some (I af 0)/\w'.cell? ⟨ib,1,none⟩=some (I ak 1)/\w'.cell? ⟨ib,2,none⟩=some (I ak sr)/\w'.cell? ⟨eb,off+i,none⟩=some (Y A2 le c2))) (by kernel_rfl) (⟨b6.cell 0,b6.cell 1,b6.cell 2,a1⟩) (λJ=>?_);generalize wr.drew=wd at b6 a1 cp HI J ⊢;refine tk 0 J ?_;refine tk 1 J ?_;refine tk 2 J ?_;refine tk 3 J ?_;refine tk 4 J ?_;refine tk 5 J ?_;refine aP 6 (λK ad=>?_);clear J;go_simp;refine cp.mono ?_;clear cp;rintro e bm ⟨⟨r,rfl⟩,cw,cA,f14⟩;have ca:=HI.out.2.1.hJ cA f14;have bc:=HI.out.2.2.1.hJ f14;have y1:bm.cell? ⟨eb,off+i,none⟩=some (Y A2 le c2):=(ca.lI.cell (p:=⟨eb,off+i,none⟩) HI.out.2.2.2.1).trans HI.out.2.2.2.2;refine ad.out _ _ (⟨bc.aW.cell 0,bc.aW.cell 1,bc.aW.cell 2,y1⟩) (λJ=>?_);clear ad K;refine cB ?_ _;clear J;go_wp2_with fail
    go_round
    case rel=>exact⟨i+1,cw,by go_num,by omega,by rw[HI.out.1];exact ca,bc⟩
    case measure=>simp[intOf];omega
   ·have bY:¬ ((le:Int)<=16):=(by omega);have e1:jY P0 (aX.take (i+1))=jY P0 (aX.take i):=(by rw[a3];unfold nb;rw[if_neg (by omega)]);have HI:=fm e1 Ai Xi;clear n6 ha a7 ht hE aD ar PL ay hm az au b8 bx hcell hu h2 a3 hx aB ah f4 hle e1 Ai Xi bV dw;go_wp2_with fail
    go_round
    case rel=>exact⟨i+1,cr,by go_num,by omega,by rw[HI.out.1];exact HI.out.2.1,HI.out.2.2⟩
    case measure=>simp[intOf];omega
  ·obtain rfl:i=m:=(by omega);have bE:¬ ((i:Int)<(i:Int)):=(by omega);obtain⟨n6,ha,a7,ht,hE,aD,ar,PL,ay,hm,az,au⟩:=HH.out;rw[hm,List.take_length]at Ai;obtain⟨PP,bM⟩:=am (jY P0 aX);rw[<-bM]at Ai ar PL;have ax:=a0.out;rw[<-ax]at ar ay;have bl:=xa Ai.at_ (id:=⟨0,1,sr⟩) (by decide:0<3) rfl ar.id rfl PL.f4 (ay _ _ ar);rw[Ai.eY]at bl;unfold PId.val at bl;have x0:=Xi.aW.cell 0;have x1:=Xi.aW.cell 1;have x2:=Xi.aW.cell 2;simp at x0 x1 x2;have HX:=dx Ai Xi ar.id bM;clear n6 ha a7 ht hE aD ar PL ay hm az au Ai Xi bM ax;go_wp2_with fail;go_fit bl;clear bl x0 x1 x2;rintro e bF ⟨rfl,br,cq,f20⟩;have a2:=HX.out.1.hJ cq f20;have bZ:=HX.out.2.1.hJ f20;have bz:Calls Tryz.prog 8 #[aj br.wb,ag n] bF λe w'=>e=.returned (.bool true)/\∃a':WA,bB w' (zT n p a b) kh a' (λ_=>[]) [0,0,0] gs/\bR (zT n p a b).n br bF a' w':=by
    have PL:=HH.out.2.2.2.2.2.2.2.1;rw[<-HX.out.2.2.2]at PL;have:=kl (zT n p a b) _ br _ gs n bF a2.at_ rfl (by have:=PL.c5;rw[<-a0.out]at this;exact this);have e5:=PL.e5;rw[<-a0.out]at e5;rw[e5]at this;exact this
   rw[a2.eY]at bz;have bN:=di a2 bZ;clear a2 bZ cq f20;go_wp2_with fail;go_fit bz;clear bz;rintro e bC ⟨rfl,aA,bP,f21⟩;have bh:=bN.out.1.hJ bP f21;have cg:=bN.out.2.hJ f21;have L7:=HH.out.2.2.2.2.2.2.2.1.l7;have F7:=HH.out.2.2.2.2.2.2.2.1.f7;rw[<-HX.out.2.2.2,HX.out.2.2.1]at L7;have aG:a<(zT n p a b).n:=HH.out.2.1;have bo:b<(zT n p a b).n:=HH.out.2.2.1;have bp:0<(zT n p a b).n:=(Nat.lt_of_le_of_lt (Nat.zero_le _) HH.out.2.1:0<n);have bJ:Calls Tryz.prog 13 #[aj aA.wb,ag 1] bC _:=nY (zT n p a b) kh aA [0,0,0] gs 1 bC bh.at_ (by decide:1<3) a rfl 3 (F7 a aG) rfl ((L7 a aG).2.2.2 1).1 ((L7 a aG).2.2.2 1).2;rw[bh.eY]at bJ;have aq:=kz bh cg L7 F7 aG bo bp;clear bh cg bP f21 L7 F7 aG bo bp;go_wp2_with fail;go_fit bJ;clear bJ;rintro e cm ⟨⟨A1,n1,rfl⟩,bW,t22⟩;have bb:=aq.out.1.bj bW t22;have cn:=aq.out.2.1.bj t22;have bH:Calls Tryz.prog 13 #[aj aA.wb,ag 2] cm _:=nY (zT n p a b) kh aA _ gs 2 cm bb.at_ (by decide:2<3) b rfl 3 (aq.out.2.2.2.1 b aq.out.2.2.2.2.2.1) rfl ((aq.out.2.2.1 b aq.out.2.2.2.2.2.1).2.2.2 2).1 ((aq.out.2.2.1 b aq.out.2.2.2.2.2.1).2.2.2 2).2;rw[bb.eY]at bH;have b7:=di bb cn;clear bb cn bW t22;go_wp2_with fail;go_fit bH;clear bH;rintro e bQ ⟨⟨A2,aZ,rfl⟩,cf,t23⟩;have bg:=b7.out.1.bj cf t23;have aY:=b7.out.2.bj t23;have bL:Calls Tryz.prog 14 #[aj aA.wb,ag 0,aE #[ag 0,av 1,av sr]] bQ _:=xo (zT n p a b) kh aA _ _ gs 0 bQ bg.at_ (by decide:0<3) 0 rfl ⟨0,1,sr⟩ rfl (aq.out.2.2.2.1 0 aq.out.2.2.2.2.2.2) (aq.out.2.2.1 0 aq.out.2.2.2.2.2.2).2.1 (aq.out.2.2.1 0 aq.out.2.2.2.2.2.2).2.2.1;rw[bg.eY]at bL;have x0:=aY.aW.cell 0;have x1:=aY.aW.cell 1;have x2:=aY.aW.cell 2;simp at x0 x1 x2;have cC:=di bg aY;clear bg aY cf t23;go_wp2_with fail;go_fit bL;clear bL x0 x1 x2;rintro e bG ⟨rfl,aU⟩;have a6:=cC.out.1.below aU;have bv:Calls Tryz.prog 15 #[aj aA.wb,ag 0] bG _:=zu (zT n p a b) kh aA _ _ gs 0 bG a6.at_ aq.out.2.2.2.2.2.2 (aq.out.2.2.2.1 0 aq.out.2.2.2.2.2.2);rw[a6.eY,(aq.out.2.2.1 0 aq.out.2.2.2.2.2.2).1]at bv;have fd:∀A A2 c aZ c2 w,(Instr.field 49 (bT 1 A 3 c A2 aZ c2) 1).run Tryz.prog w=.ok (Y A 3 c) w:=λA A2 c aZ c2 w=>sq 1 A A2 3 c aZ c2 w;have cx:=Lib.hid a6;clear a6 aU;go_wp2_with fail;go_fit bv;clear bv;rintro e cD ⟨⟨A3,c3,A4,n4,c4,rfl⟩,t25⟩;go_wp2;go_ret;exact⟨rfl,((aw.ao cx.out.lI λ_=>False).trans t25 (λ_ _ e=>e)).below (Nat.le_refl _) (λ_ _ e=>e.elim)⟩
theorem jg(n cP m ba:Nat)(a b:Int)(AP AE:Option Addr)(w:World)(h:a<0\/¬a<0/\b<0\/(¬a<0/\¬b<0)/\((n:Int)<=a\/¬ (n:Int)<=a/\((n:Int)<=b\/¬ (n:Int)<=b/\(4:Int)<m))):
 Calls Tryz.prog 3 #[Y AP n cP,ag a,ag b,Y AE m ba] w λe w'=>e=.returned (.bool true)/\Below w w w':=by
 have bq:=mZ w;rcases h with h1 | ⟨h1,h2⟩ | ⟨⟨h1,h2⟩,a1 | ⟨a1,h4 | ⟨h4,bi⟩⟩⟩
 all_goals
  go_enter Tryz.func3,Tryz.ntmps3;go_wp2_with fail;go_fit bq;clear bq;rintro e w1 ⟨rfl,b1⟩;go_wp2;go_ret;exact⟨rfl,b1⟩
theorem AG(n cP m ba a b:Nat)(AP AE:Option Addr)(f:Nat->Int)(w:World)(hA:Tr.kH w w AP n f)(hm:n<=9223372036854775807)(ht:6<n\/¬Tr.iy n f)(ha:a<n)(a7:b<n)(aR:m<=4):
 Calls Tryz.prog 3 #[Y AP n cP,ag a,ag b,Y AE m ba] w λe w'=>e=.returned (.bool true)/\Below w w w':=by
 have bq:=mZ w;have l1:¬ ((a:Int)<0):=by omega
 have l2:¬ ((b:Int)<0):=by omega
 have l3:¬ ((n:Int)<=(a:Int)):=by omega
 have l4:¬ ((n:Int)<=(b:Int)):=by omega
 have l5:¬ ((4:Int)<(m:Int)):=by omega
 have HH:=fm hA hm ht;clear hA hm ht ha a7 aR;go_enter Tryz.func3,Tryz.ntmps3;go_wp2_with fail;go_fit bq;clear bq;rintro e w1 ⟨rfl,b1⟩;obtain⟨w2,a8⟩:=am (w1.alloc (.cells #[ag 0,ag a,ag b] 3));have b2:Below w w w2:=b1.trans ((show Below w1 w1 w2 by rw[a8];exact(Below.refl _ _).alloc (Nat.le_refl _) _).mono b1.size);have I:=zQ AP (aj w1) n cP 3 f w2 ((HH.out.1.below b2).more b2.size) HH.out.2.1 HH.out.2.2;have bI:=Lib.hid b2;clear b1 b2;go_wp2_with fail;rw[<-a8];clear a8;go_fit I;clear I;rintro e w3 ⟨rfl,rfl⟩;go_wp2;go_ret;exact⟨rfl,bI.out⟩
theorem Ch(n cP:Nat)(a b:Int)(ba:Nat)(AP AE:Option Addr)(f:Nat->Int)(aX:List (List aO))(w:World)(hm:n<=9223372036854775807)(hA:Tr.kH w w AP n f)(hE:SliceAt aN w (λ_=>False) AE aX):
 Calls Tryz.prog 3 #[Y AP n cP,ag a,ag b,Y AE aX.length ba] w λe w'=>e=.returned (.bool true)/\Below w w w':=by
 by_cases h1:a<0
 ·exact jg n cP _ ba a b AP AE w (.inl h1)
 by_cases h2:b<0
 ·exact jg n cP _ ba a b AP AE w (.inr (.inl ⟨h1,h2⟩))
 by_cases a1:(n:Int)<=a
 ·exact jg n cP _ ba a b AP AE w (.inr (.inr ⟨⟨h1,h2⟩,.inl a1⟩))
 by_cases h4:(n:Int)<=b
 ·exact jg n cP _ ba a b AP AE w (.inr (.inr ⟨⟨h1,h2⟩,.inr ⟨a1,.inl h4⟩⟩))
 by_cases bi:(4:Int)<(aX.length:Nat)
 ·exact jg n cP _ ba a b AP AE w (.inr (.inr ⟨⟨h1,h2⟩,.inr ⟨a1,.inr ⟨h4,bi⟩⟩⟩))
 obtain⟨x,rfl⟩:=Int.eq_ofNat_of_zero_le (by omega:0<=a);obtain⟨y,rfl⟩:=Int.eq_ofNat_of_zero_le (by omega:0<=b);by_cases ht:6<n\/¬Tr.iy n f
 ·exact AG n cP _ ba x y AP AE f w hA hm ht (by omega) (by omega) (by omega)
 ·have h6:n<=6:=Nat.le_of_not_lt λh=>ht (.inl h);have hT:Tr.iy n f:=Classical.not_not.1 λh=>ht (.inr h);exact x3 n cP x y _ ba _ AP AE aX w h6 (by omega) (by omega) (by omega) rfl (hA.tree hT) hE
namespace topSilent
open Go.Conc Go.ChangeShapes Go.WideShapes Go.ChangeAt Go.RowKit
theorem own:ownKnob Tryz.prog.godebug=none:=by kernel_rfl
theorem laidOut:laidOutB Tryz.prog=true:=by kernel_rfl
theorem lifted(os:Os)(started:os.Started)(H:Type)(enc:TypeId×Value->H):
 ReturnsInHanded {} Tryz.checked os 3 .any (Rows.topSilentSpec.pre6 enc Tryz.prog Tryz.f3 Rows.topSilentRow.domain false) (Rows.topSilentSpec.post enc Tryz.prog Tryz.f3 false true false false):=by
 refine returnsInHanded_of_change (C:=Tryz.checked) own started (by kernel_rfl) Tryz.func3
  (ChangeSpec.witness6 (enc:=enc) (C:=Tryz.checked) false ⟨#[],#[Y none 0 0,I af 0,I af 0,Y none 0 0],[]⟩ 8 (by kernel_rfl) (by kernel_rfl) (by kernel_rfl) (by kernel_rfl)) ?_
 intro W base args ds gs before J aP _ _;have hval:∀ (j:Nat) t v,Tryz.f3.params[j]? =some t->args[j]? =some v->Value.okWide Tryz.prog W .any base t v:=J;have ah:=aP;obtain⟨p,q,M,hV,rfl,_,_⟩:=aP;have hA:DataW.TrodAll enc Tryz.prog W 0 (λ_=>true) true Tryz.f3.params.toList args.toList ds p:=M;rw[Tryz.params3]at hA hval;obtain⟨v0,aq,d0,aw,p0,q0,ai,rfl,rfl,h0,r0⟩:=trodAll_cons hA;obtain⟨v1,ay,d1,au,p1,q1,rfl,rfl,rfl,h1,r1⟩:=trodAll_cons r0;obtain⟨v2,ar,d2,ax,p2,q2,rfl,rfl,rfl,h2,bf⟩:=trodAll_cons r1;obtain⟨v3,av,d3,ao,p3,q3,rfl,rfl,rfl,a1,r3⟩:=trodAll_cons bf;obtain⟨rfl,rfl,rfl⟩:=trodAll_nil r3;obtain rfl:args=#[v0,v1,v2,v3]:=by cases args;simp_all
 obtain⟨rfl,rfl⟩:=trodVars_none hV;obtain⟨a0,ae,ad,rfl⟩:=okWide_slice Tryz.underlying22 (hval 0 22 v0 rfl rfl);have k0:=h0;have aj:∀x∈p0,x.block<W.heap.size:=by obtain⟨m,hm⟩:=k0;exact DataW.trod_lt m _ _ _ hm
 obtain⟨l0,re,az,ak⟩:=xe Tryz.underlying22 Tryz.underlying3 (by kernel_rfl) h0;obtain⟨bg,rfl,rfl,rfl,w1⟩:=open_int Tryz.underlying3 (hval 1 3 v1 rfl rfl) h1;obtain⟨a2,rfl,rfl,rfl,w2⟩:=open_int Tryz.underlying3 (hval 2 3 v2 rfl rfl) h2;obtain⟨bG,am,aa,rfl⟩:=okWide_slice Tryz.underlying23 (hval 3 23 v3 rfl rfl);have k3:=a1;have ag:∀x∈p3,x.block<W.heap.size:=by obtain⟨m,hm⟩:=k3;exact DataW.trod_lt m _ _ _ hm
 obtain⟨aX,b5,_,hE⟩:=qQ a1;subst b5;clear M J;refine(Ch ae ad bg a2 aa a0 bG l0 aX W (by omega) ak hE).mono λe W' ⟨he,lI⟩=>?_;subst he;exact⟨_,rfl,_,_,_,[],_,[],ah,trodAll_mk1 (shut_bool Tryz.underlying4 _),(trodAll_cons_mk (Below.trod laidOut (by kernel_rfl) (of_decide_eq_true (by kernel_rfl)) k0 lI aj) (trodAll_cons_mk (shut_int Tryz.underlying3 w1) (trodAll_cons_mk (shut_int Tryz.underlying3 w2) (trodAll_cons_mk (Below.trod laidOut (by kernel_rfl) (of_decide_eq_true (by kernel_rfl)) k3 lI ag) trodAll_mk0)))),rfl,lI.frame _,λh=>by cases h⟩
theorem CE:(Rows.topSilentRow.wf (OpenSpec.ofChange Rows.topSilentSpec))=true:=by kernel_rfl
theorem Cs:(laidOutB Tryz.prog)=true:=by kernel_rfl
theorem CS:(mapsRowed Tryz.prog)=true:=by kernel_rfl
theorem Cx:(Tryz.f3.params.all (Tryz.prog.readableRec ·))=true:=by kernel_rfl
theorem Cl:(namedTie Tryz.prog Rows.topSilentRow.named Rows.topSilentSpec.vars)=true:=by kernel_rfl
theorem Cz:(Rows.topSilentRow.stops==[])=true:=by kernel_rfl
theorem CD:(Tryz.prog.stops==[])=true:=by kernel_rfl
theorem CB:(Rows.topSilentRow.knobs==[])=true:=by kernel_rfl
theorem CH:(Tryz.prog.stopKnobs==[])=true:=by kernel_rfl
theorem CG:(Rows.topSilentRow.inPlace==Tryz.prog.inPlace 3)=true:=by kernel_rfl
theorem AB:(Rows.topSilentRow.unfollowed==Tryz.prog.unfollowed 3)=true:=by kernel_rfl
theorem BN:(Rows.topSilentRow.recurses==Tryz.prog.recurses 3)=true:=by kernel_rfl
theorem A8:(Rows.topSilentRow.named==Tryz.prog.varsNamed 3)=true:=by kernel_rfl
theorem BV:(Rows.topSilentRow.maps==(Tryz.f3.params.toList++Rows.topSilentSpec.plain.varTypes Tryz.prog).any (Tryz.prog.mapsRec ·))=true:=by kernel_rfl
theorem BB:(Rows.topSilentRow.ifaces==(Tryz.f3.params.toList++Rows.topSilentSpec.plain.varTypes Tryz.prog).any (Tryz.prog.ifacesRec ·))=true:=by kernel_rfl
theorem AA:(Rows.topSilentRow.mapsOut==Tryz.prog.mapsAmong Tryz.f3.resultTypes.toList)=true:=by kernel_rfl
theorem BF:(Rows.topSilentRow.loops==(Tryz.f3.params.toList++Rows.topSilentSpec.plain.varTypes Tryz.prog).any (Tryz.prog.loopsFrom ·))=true:=by kernel_rfl
theorem BS:(Rows.topSilentRow.wideKeys==(Tryz.f3.params.toList++Rows.topSilentSpec.plain.varTypes Tryz.prog++Tryz.f3.resultTypes.toList).any (Tryz.prog.wideKeysFrom ·))=true:=by kernel_rfl
theorem Bw:(Rows.topSilentSpec.vars.all (Tryz.prog.varReadable ·))=true:=by kernel_rfl
theorem BU:(Tryz.f3.resultTypes.all (λt=>Tryz.prog.readableRec t&&decide (t<Tryz.prog.types.size)))=true:=by kernel_rfl
theorem BT:(Rows.topSilentRow.ifacesOut==Tryz.f3.resultTypes.toList.any (Tryz.prog.ifacesRec ·))=true:=by kernel_rfl
theorem AO:(Rows.topSilentRow.loopsOut==Tryz.f3.resultTypes.toList.any (Tryz.prog.loopsFrom ·))=true:=by kernel_rfl
theorem AZ:(Rows.topSilentRow.plainKeys==Tryz.prog.plainKeys)=true:=by kernel_rfl
theorem AJ:(Rows.topSilentRow.shortTexts.isNone)=true:=by kernel_rfl
theorem AV:(Tryz.prog.stopsHeard)=true:=by kernel_rfl
theorem Aw:(Tryz.prog.mayEnter)=true:=by kernel_rfl
theorem AY:(Rows.topSilentRow.lifted==Tryz.prog.liftsFinal)=true:=by kernel_rfl
theorem Bf:(Tryz.prog.make==some Rows.topSilentRow.make)=true:=by kernel_rfl
theorem BO:(Rows.topSilentRow.kinds==(if Rows.topSilentRow.domain.isEmpty then []else Tryz.f3.params.toList.map λt=>match Tryz.prog.underlying t with | some (.int k)=>some k | _=>none))=true:=by kernel_rfl
theorem Bi:(Rows.topSilentRow.pinned==Rows.topSilentRow.pinnedBy)=true:=by kernel_rfl
theorem BK:(Rows.topSilentRow.veiled==(Tryz.f3.params.toList++Rows.topSilentSpec.plain.varTypes Tryz.prog++Tryz.f3.resultTypes.toList).any (Tryz.prog.veiledRec ·))=true:=by kernel_rfl
theorem BG:(Rows.topSilentRow.veiledFits Tryz.prog Tryz.f3.params.toList (Tryz.f3.params.toList++Rows.topSilentSpec.plain.varTypes Tryz.prog++Tryz.f3.resultTypes.toList))=true:=by kernel_rfl
theorem both{a b:Bool}(h:a=true)(k:b=true):(a&&b)=true:=by rw[h,k];rfl
theorem closed:joinedFacts Tryz.prog 3 Tryz.f3 Rows.topSilentSpec Rows.topSilentRow=true:=by
 unfold joinedFacts;exact both (both (both (both (both (both (both (both (both (both (both (both (both (both (both (both (both (both (both (both (both (both (both (both (both (both (both (both (both (both (both CE Cs) CS) Cx) Cl) Cz) CD) CB) CH) CG) AB) BN) A8) BV) BB) AA) BF) BS) Bw) BU) BT) AO) AZ) AJ) AV) Aw) AY) Bf) BO) Bi) BK) BG
theorem over:Rows.topSilentRow.holds Tryz.pinned (OpenSpec.ofChange Rows.topSilentSpec):=
 OpenClaim.holds_of_wide 3 Tryz.f3 rfl rfl rfl rfl rfl rfl rfl ⟨rfl,rfl,rfl,rfl,rfl⟩ rfl rfl rfl rfl rfl (by kernel_rfl) Tryz.func3 closed
  (of_decide_eq_true (by kernel_rfl)) (by unfold Func.isWrapper;first | (rw[if_pos (by decide+kernel)];kernel_rfl) | (rw[if_neg (by decide+kernel)];exact⟨rfl,rfl⟩))
  (λos started H enc _=>lifted os started H enc)
theorem proved:Rows.TopSilentSaid:=over
end topSilent
end Go.Proofs.YtgblliofomgggaaGreat
