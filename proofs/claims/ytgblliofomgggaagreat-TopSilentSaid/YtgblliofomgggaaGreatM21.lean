import Derived.RangeFuncWrites
import Derived.RangeFuncNested
import Derived.RangeFuncBound
import Derived.RangeFuncCalls
import Derived.RangeFuncLeaves
import Derived.Shelf.Abstract
import Derived.Shelf.RegionOpen
import Derived.WalkKit
import Derived.OwnWalkIn
import Derived.TacticsInMore
import Derived.LoopNIn
import Derived.LoopIn
import Derived.Test.YtgblliofomgggaaGreatM01
import Derived.Test.YtgblliofomgggaaGreatM18
import Derived.Test.YtgblliofomgggaaGreatM20
namespace Go.Proofs.YtgblliofomgggaaGreat
set_option maxRecDepth 100000
set_option maxHeartbeats 4000000
open Go.RowKit a7
open Go.IntKind renaming i64 -> af,u64 -> ak
open Go.Value renaming int -> I,slice -> Y,pointer -> aL,agg -> aE
namespace Sk
def Cc(a b:R):Bool:=Nat.beq a.h b.h&&(ky a.v b.v&&ky a.q b.q)
def C1:Option R->Option R->Bool
 | none,none=>true
 | some a,some b=>Cc a b
 | _,_=>false
def q8{α:Type}(f:α->α->Bool):List α->List α->Bool
 | [],[]=>true
 | x::a,y::b=>f x y&&q8 f a b
 | _,_=>false
def Ci(a b:B):Bool:=ky a.l b.l&&(ky a.pr b.pr&&(ky a.tx b.tx&&(ky a.wt b.wt&&(q8 C1 a.r b.r&&Nat.beq a.n b.n))))
def is(a:Option (List B))(b:List B):Bool:=match a with
 | some a=>q8 Ci a b
 | none=>false
theorem iK{α:Type}{f:α->α->Bool}(h:∀a b,f a b=true->a=b):∀ {a b:List α},q8 f a b=true->a=b
 | [],[],_=>rfl
 | x::a,y::b,k=>by
  rw[q8,Bool.and_eq_true]at k;rw[h _ _ k.1,iK h k.2]
 | [],_::_,h=>by cases h
 | _::_,[],h=>by cases h
theorem BL:∀a b,Cc a b=true->a=b:=λ⟨bg,a2,bG⟩ ⟨b1,b2,b3⟩ h=>by
 unfold Cc at h;simp only[Bool.and_eq_true,Nat.beq_eq]at h;rw[h.1,e2 h.2.1,e2 h.2.2]
theorem BQ:∀a b,C1 a b=true->a=b
 | none,none,_=>rfl
 | some a,some b,h=>by rw[BL a b h]
 | none,some _,h=>by cases h
 | some _,none,h=>by cases h
theorem vE:∀a b,Ci a b=true->a=b:=λ⟨bg,a2,bG,bw,bO,bk⟩ ⟨b1,b2,b3,bK,bS,b6⟩ h=>by
 unfold Ci at h;simp only[Bool.and_eq_true,Nat.beq_eq]at h;rw[e2 h.1,e2 h.2.1,e2 h.2.2.1,e2 h.2.2.2.1,iK BQ h.2.2.2.2.1,h.2.2.2.2.2]
theorem lF{a:Option (List B)}{b:List B}(h:is a b=true):a=some b:=by
 cases a with
 | none=>cases h
 | some a=>rw[iK vE h]
def bU(p:List Nat)(l:List Nat)(i:Nat):List (Option R):=(List.range p.length).map λk=>bif Nat.ble 1 k&&Nat.beq (p.getD k 0) i then some ⟨l.length,[],[]⟩else none
def canon(p:List Nat)(l:List Nat)(n0 n1:Nat):List B:=(List.range p.length).map λi=>⟨l,[],[],[],bU p l i,bif Nat.beq i 0 then n0 else n1⟩
def start(p:List Nat):List B:=(List.range p.length).map λ_=>⟨[],[],[],[],(List.range p.length).map λ_=>none,1⟩
def B.ask(b:B)(l:List Nat):B:=⟨b.l,b.pr,l,b.wt,b.r,b.n⟩
def ask(g:List B)(a:Nat)(l:List Nat):List B:=g.set a ((g.getD a sQ).ask l)
def trees:Nat->List (List Nat)
 | 0=>[[0]]
 | n+1=>(trees n).flatMap λp=>(List.range (n+1)).map λk=>p++[k]
def CJ(p:List Nat)(a:Nat):Bool:=is (round p (ask (start p) a [0])) (canon p [0] 2 2)&&is (round p (ask (canon p [0] 2 2) a [1])) (canon p [0,1] 3 3)
def C5(p:List Nat):Bool:=is (round p (canon p [0] 2 2)) (canon p [0] 2 2)&&(is (round p (canon p [0,1] 3 3)) (canon p [0,1] 3 3)&&
 (is ((round p (ask (canon p [0,1] 3 3) 0 [2])).bind (round p)) (canon p [0,1,2] 4 5)&&is (round p (canon p [0,1,2] 4 5)) (canon p [0,1,2] 4 5)))
def ck(p:List Nat):Bool:=fL p λp=>(List.range p.length).all (CJ p)&&C5 p
theorem tA{p:Nat->Bool}{n:Nat}(h:(List.range n).all p=true){i:Nat}(hi:i<n):p i=true:=List.all_eq_true.1 h i (List.mem_range.2 hi)
def ext(p:List Nat):List (List Nat):=(List.range p.length).map λk=>p++[k]
theorem og:∀ (n:Nat) (p:List Nat),p.length=n+1->p.getD 0 0=0->(∀i,1<=i->i<p.length->p.getD i 0<i)->p∈trees n
 | 0,p,hl,h0,_=>by
  match p,hl with
  | [x],_=>
   have:x=0:=h0;rw[this];simp[trees]
 | n+1,p,hl,h0,hp=>by
  have ay:p≠[]:=(by intro e;rw[e]at hl;cases hl);have e:=List.dropLast_concat_getLast ay;have ax:p.dropLast.length=n+1:=(by rw[List.length_dropLast,hl];rfl);have hg:∀i,i<n+1->p.dropLast.getD i 0=p.getD i 0:=λi hi=>by
   rw[List.getD_eq_getElem?_getD,List.getD_eq_getElem?_getD,List.getElem?_dropLast,if_pos (by omega)]
  have hm:=og n p.dropLast ax ((hg 0 (by omega)).trans h0) (λi h1 h2=>by rw[hg i (by omega)];exact hp i h1 (by omega));rw[trees,List.mem_flatMap];refine⟨p.dropLast,hm,List.mem_map.2 ⟨p.getLast ay,List.mem_range.2 ?_,e⟩⟩;have:=hp (n+1) (by omega) (by omega);rw[List.getD_eq_getElem?_getD,List.getElem?_eq_getElem (by omega)]at this;rw[List.getLast_eq_getElem];simpa[hl]using this
end Sk
section
def bM(zz:aM):Nat->(Nat->aC)->Nat->aC
 | 0,bs=>bs
 | k+1,bs=>bM zz k (eX zz bs)
def c7(zz:aM):Nat->(Nat->aC)->Prop
 | 0,_=>True
 | k+1,bs=>fz zz (Sk.turns zz.n) bs/\c7 zz k (eX zz bs)
def dB(bs:Nat->aC)(a:Nat)(x:ae)(c:Nat):Nat->aC:=put bs a {bs a with aF:=[⟨x,true⟩],calls:=c}
section
variable {E:Nat->ae}{zz:aM}{p:List Nat}
theorem mm(aP:mG E zz p)(aL:0<zz.n){c:List Sk.B}(hc:Sk.round p c=some c):∀ (k:Nat) (bs:Nat->aC),ec E zz bs->dK E zz bs=c->c7 zz k bs/\ec E zz (bM zz k bs)/\dK E zz (bM zz k bs)=c
 | 0,bs,a7,e=>⟨trivial,a7,e⟩
 | k+1,bs,a7,e=>by
  have h:=hc;rw[<-e]at h;obtain⟨c1,i1,e1⟩:=iU aP aL a7 h;rw[e]at e1;obtain⟨c2,i2,a5⟩:=mm aP aL hc k _ i1 e1;exact⟨⟨c1,c2⟩,i2,a5⟩
theorem jb(aP:mG E zz p)(aL:0<zz.n){ba c:List Sk.B}(h0:Sk.round p ba=some c)(hc:Sk.round p c=some c)(k:Nat)(bs:Nat->aC)(a7:ec E zz bs)(e:dK E zz bs=ba):c7 zz (k+1) bs/\ec E zz (bM zz (k+1) bs)/\dK E zz (bM zz (k+1) bs)=c:=by
 rw[<-e]at h0;obtain⟨c1,i1,e1⟩:=iU aP aL a7 h0;obtain⟨c2,i2,a5⟩:=mm aP aL hc k _ i1 e1;exact⟨⟨c1,c2⟩,i2,a5⟩
theorem ra(aP:mG E zz p)(aL:0<zz.n){ba c:List Sk.B}(h0:(Sk.round p ba).bind (Sk.round p)=some c)(hc:Sk.round p c=some c)(k:Nat)(bs:Nat->aC)(a7:ec E zz bs)(e:dK E zz bs=ba):c7 zz (k+2) bs/\ec E zz (bM zz (k+2) bs)/\dK E zz (bM zz (k+2) bs)=c:=by
 obtain⟨c',h1,h2⟩:=bind_some h0;rw[<-e]at h1;obtain⟨c1,i1,e1⟩:=iU aP aL a7 h1;obtain⟨c2,i2,a5⟩:=jb aP aL h2 hc k _ i1 e1;exact⟨⟨c1,c2⟩,i2,a5⟩
theorem nj(aP:mG E zz p){bs:Nat->aC}(a7:ec E zz bs){a:Nat}(ha:a<zz.n){x:ae}(hx:In E x)(c:Nat):ec E zz (dB bs a x c)/\dK E zz (dB bs a x c)=Sk.ask (dK E zz bs) a [tok E x]:=by
 have h:=a7 a ha;have f:=h.fit;refine⟨a7.put ⟨h.list,h.ay,λt ht=>?_,h.waits,h.bU,⟨f.list,f.ay,λt ht=>?_,f.waits,f.bU,f.lX,f.l1,f.l2,by simp,f.l4,f.run,f.enc⟩⟩,?_⟩
 ·rw[List.mem_singleton.1 ht];exact⟨rfl,hx⟩
 ·rw[List.mem_singleton.1 ht];exact(aP.z a ha).env.ch rfl hx
 ·unfold dB Sk.ask;rw[jB,jI bs ha];rfl
structure Calm (E:Nat->ae) (s:aC) (l:List Nat):Prop where
 list:s.list.map (tok E)=l
 ay:s.ay=[]
 aF:s.aF=[]
 waits:s.waits=[]
theorem zD{bs:Nat->aC}{l:List Nat}{n0 n1:Nat}(h:dK E zz bs=Sk.canon p l n0 n1)(hp:p.length=zz.n){i:Nat}(hi:i<zz.n):Calm E (bs i) l/\(bs i).recs.length<=max n0 n1:=by
 have e:=jI (E:=E) (zz:=zz) bs hi;rw[h]at e;unfold Sk.canon at e;rw[List.getD_eq_getElem?_getD,List.getElem?_map,List.getElem?_range (by omega)]at e;simp only[Option.map_some,Option.getD_some,bV,Sk.B.mk.injEq]at e;obtain⟨e1,a5,e3,e4,_,I⟩:=e;refine⟨⟨e1.symm,List.map_eq_nil_iff.1 a5.symm,List.map_eq_nil_iff.1 e3.symm,List.map_eq_nil_iff.1 e4.symm⟩,?_⟩;rw[<-I];cases Nat.beq i 0
 ·exact Nat.le_max_right _ _
 ·exact Nat.le_max_left _ _
theorem r0{bs:Nat->aC}(h:∀i,i<zz.n->(bs i).list=[]/\(bs i).ay=[]/\(bs i).aF=[]/\(bs i).waits=[]/\(∀k,(bs i).bU k=none)/\(bs i).recs.length=1)(hp:p.length=zz.n):dK E zz bs=Sk.start p:=by
 unfold dK Sk.start;rw[hp];apply List.map_congr_left;intro i hi;obtain⟨h1,h2,a1,h4,bi,h6⟩:=h i (List.mem_range.1 hi);unfold bV;rw[h1,h2,a1,h4,h6];simp[bi]
structure vI (p:List Nat):Prop where
 one:∀a,a<p.length->Sk.round p (Sk.ask (Sk.start p) a [0])=some (Sk.canon p [0] 2 2)
 two:∀a,a<p.length->Sk.round p (Sk.ask (Sk.canon p [0] 2 2) a [1])=some (Sk.canon p [0,1] 3 3)
 C9:Sk.round p (Sk.canon p [0] 2 2)=some (Sk.canon p [0] 2 2)
 CW:Sk.round p (Sk.canon p [0,1] 3 3)=some (Sk.canon p [0,1] 3 3)
 three:(Sk.round p (Sk.ask (Sk.canon p [0,1] 3 3) 0 [2])).bind (Sk.round p)=some (Sk.canon p [0,1,2] 4 5)
 Dg:Sk.round p (Sk.canon p [0,1,2] 4 5)=some (Sk.canon p [0,1,2] 4 5)
theorem ut(h:Sk.ck p=true):vI p:=by
 unfold Sk.ck at h;rw[Sk.h6,Bool.and_eq_true]at h;obtain⟨h1,h2⟩:=h;unfold Sk.C5 at h2;simp only[Bool.and_eq_true]at h2;have I:=λa (ha:a<p.length)=>Sk.tA h1 ha;refine⟨λa ha=>?_,λa ha=>?_,Sk.lF h2.1,Sk.lF h2.2.1,Sk.lF h2.2.2.1,Sk.lF h2.2.2.2⟩
 ·have:=I a ha;unfold Sk.CJ at this;rw[Bool.and_eq_true]at this;exact Sk.lF this.1
 ·have:=I a ha;unfold Sk.CJ at this;rw[Bool.and_eq_true]at this;exact Sk.lF this.2
end
end
section
def hO:dD Nat:=⟨1,λ_ _ u q=>u=[.pointer (aj q)],λh=>by
 subst h;rfl,λh v hv=>by
 subst h;rw[List.mem_singleton.1 hv];rfl,λh _=>h⟩
structure WA where
 wb:Nat
 qn:Nat
 Bn:Nat
 mb:Nat
 cb:Nat
 gb:Nat
 AP:Option Addr
 cP:Nat
 AH:Option Addr
 cH:Nat
 AD:Option Addr
 cD:Nat
 L:List Nt.cj
 br:Nat->b4
 F:Nat->Nat->Prop
def WA.live(a:WA)(n:Nat):Nat->Prop:=λb=>(∃i,i<n/\a.F i b)\/∃x∈a.L,b=x.c
def bS(zz:aM)(a:WA):List Value:=
 [Y a.AP zz.n a.cP,Y a.AH zz.homes.length a.cH,.pointer (aj a.qn),Y a.AD zz.n a.cD,.map (some a.mb),Y (aj a.cb) zz.homes.length zz.homes.length,Y (aj a.gb) zz.homes.length zz.homes.length]
def fQ(n:Nat)(br:Nat->b4):Int->Option Value:=λk=>if 0<=k/\k<n then some (.pointer (aj (br k.toNat).bb))else none
def WA.bj(a:WA)(b:Nat):Prop:=b=a.wb\/b=a.qn\/b=a.Bn\/b=a.mb\/b=a.cb\/b=a.gb
def WA.all(a:WA)(n:Nat):Nat->Prop:=λb=>a.live n b\/a.bj b
structure bB (w:World) (zz:aM) (bs:Nat->aC) (a:WA) (Q:Nat->List Nt.cX) (cs:List Nat) (gs:Array Value):Prop where
 aW:ai w a.wb 73 (bS zz a).toArray
 ok:∀i,i<zz.n->(zz.at_ i).ok
 n6:zz.n<=6/\1<=zz.n
 par:eS w (a.all zz.n) a.AP zz.n zz.p
 homes:SliceAt b5 w (a.all zz.n) a.AH zz.homes
 fF:SliceAt hO w (a.all zz.n) a.AD ((List.range zz.n).map λi=>(a.br i).L.q)
 map:dh w a.mb (fQ zz.n a.br)
 cur:ai w a.cb 3 (cs.map λk:Nat=>Value.int .i64 k).toArray
 cl:cs.length=zz.homes.length
 got:ai w a.gb 90 gs
 gl:gs.size=zz.homes.length
 br:∀i,i<zz.n->bk w (a.F i) (zz.at_ i) (bs i) (a.br i)
 apart:∀i j,i<zz.n->j<zz.n->i≠j->∀b,a.F i b->¬a.F j b
 nr:∀i,i<zz.n->∀b,a.F i b->∀x∈a.L,b≠x.c
 fix:∀b,a.live zz.n b->¬a.bj b
 net:Nt.cA w 0 a.qn a.Bn a.L Q
 eJ:Nt.dy zz.p zz.n a.L
 je:∀x∈a.L,∀m∈Q x.c,∀b off,m.A=some ⟨b,off,none⟩->b<w.heap.size/\¬a.live zz.n b
structure bR (n:Nat) (a:WA) (w:World) (a':WA) (w':World):Prop where
 ba:aw (a.live n) w w'
 old:∀b,b<w.heap.size->a'.live n b->a.live n b
 L:a'.L=a.L
 bj:a'.wb=a.wb/\a'.qn=a.qn/\a'.Bn=a.Bn/\a'.mb=a.mb/\a'.cb=a.cb/\a'.gb=a.gb/\a'.AD=a.AD/\a'.cD=a.cD
 maps:∀i,(a'.br i).mr=(a.br i).mr/\(a'.br i).mt=(a.br i).mt/\(a'.br i).bb=(a.br i).bb/\(a'.br i).L.q=(a.br i).L.q
 ap:a'.AP=a.AP/\a'.AH=a.AH
theorem bR.refl(n:Nat)(a:WA)(w:World):bR n a w a w:=⟨aw.refl _ _,λ_ _ h=>h,rfl,⟨rfl,rfl,rfl,rfl,rfl,rfl,rfl,rfl⟩,λ_=>⟨rfl,rfl,rfl,rfl⟩,⟨rfl,rfl⟩⟩
theorem bR.trans{n:Nat}{a a' I:WA}{w w' w'':World}(h:bR n a w a' w')(k:bR n a' w' I w''):bR n a w I w'':=
 ⟨h.ba.trans k.ba (λb a7 e=>h.old b a7 e),λb a7 e=>h.old b a7 (k.old b (Nat.lt_of_lt_of_le a7 h.ba.size) e),k.L.trans h.L,
  ⟨k.bj.1.trans h.bj.1,k.bj.2.1.trans h.bj.2.1,k.bj.2.2.1.trans h.bj.2.2.1,k.bj.2.2.2.1.trans h.bj.2.2.2.1,k.bj.2.2.2.2.1.trans h.bj.2.2.2.2.1,k.bj.2.2.2.2.2.1.trans h.bj.2.2.2.2.2.1,k.bj.2.2.2.2.2.2.1.trans h.bj.2.2.2.2.2.2.1,k.bj.2.2.2.2.2.2.2.trans h.bj.2.2.2.2.2.2.2⟩,
  λi=>⟨(k.maps i).1.trans (h.maps i).1,(k.maps i).2.1.trans (h.maps i).2.1,(k.maps i).2.2.1.trans (h.maps i).2.2.1,(k.maps i).2.2.2.trans (h.maps i).2.2.2⟩,⟨k.ap.1.trans h.ap.1,k.ap.2.trans h.ap.2⟩⟩
theorem bR.below{n:Nat}{a:WA}{w w':World}(a7:Below w w w'):bR n a w a w':=⟨aw.ao a7 _,λ_ _ h=>h,rfl,⟨rfl,rfl,rfl,rfl,rfl,rfl,rfl,rfl⟩,λ_=>⟨rfl,rfl,rfl,rfl⟩,⟨rfl,rfl⟩⟩
theorem bR.link{n:Nat}{a:WA}{w w':World}{x:Nt.cj}(hx:x∈a.L)(t:aw (λb=>b=x.c) w w'):bR n a w a w':=⟨t.wide (λ_b _ e=>.inr ⟨x,hx,e⟩),λ_ _ h=>h,rfl,⟨rfl,rfl,rfl,rfl,rfl,rfl,rfl,rfl⟩,λ_=>⟨rfl,rfl,rfl,rfl⟩,⟨rfl,rfl⟩⟩
section
variable {w w':World}{zz:aM}{bs:Nat->aC}{a:WA}{Q Q':Nat->List Nt.cX}{cs:List Nat}{gs:Array Value}
theorem bB.lt(h:bB w zz bs a Q cs gs):∀b,a.live zz.n b->b<w.heap.size:=by
 rintro b (⟨i,hi,a7⟩ | ⟨x,hx,rfl⟩)
 ·exact(h.br i hi).lt b a7
 ·obtain⟨⟨s,r,hc⟩,_⟩:=h.net.q x hx;exact(Array.getElem?_eq_some_iff.1 hc).1
theorem bB.jn(h:bB w zz bs a Q cs gs):∀b,a.bj b->b<w.heap.size:=by
 rintro b (rfl | rfl | rfl | rfl | rfl | rfl)
 ·exact h.aW.lt
 ·exact(h.net.aW:ai w a.qn 118 _).lt
 ·obtain⟨es,h1,_⟩:=h.net.map;exact(Array.getElem?_eq_some_iff.1 h1).1
 ·exact h.map.lt
 ·exact h.cur.lt
 ·exact h.got.lt
theorem bB.below(h:bB w zz bs a Q cs gs)(a7:Below w w w'):bB w' zz bs a Q cs gs:=
 ⟨h.aW.below a7 h.aW.lt,h.ok,h.n6,h.par.goes (.ao a7 _),h.homes.below a7,h.fF.below a7,h.map.below a7,h.cur.below a7 h.cur.lt,h.cl,h.got.below a7 h.got.lt,h.gl,λi hi=>(h.br i hi).below a7,h.apart,h.nr,h.fix,h.net.below a7,h.eJ,λx hx m hm b off hA=>⟨Nat.lt_of_lt_of_le (h.je x hx m hm b off hA).1 a7.size,(h.je x hx m hm b off hA).2⟩⟩
theorem bB.step(h:bB w zz bs a Q cs gs){i:Nat}(hi:i<zz.n){s':aC}{a':b4}(st:aY w w' (a.F i) (zz.at_ i) s' (a.br i) a'):
 bB w' zz (put bs i s') {a with br:=upd a.br i a',F:=upd a.F i (New (a.F i) w w')} Q cs gs/\bR zz.n a w {a with br:=upd a.br i a',F:=upd a.F i (New (a.F i) w w')} w':=by
 have t:aw (a.F i) w w':=st.Cb (h.br i hi);have bA:=h.lt;have bJ:=t.size;obtain⟨a2,ae⟩:∃a2:WA,a2={a with br:=upd a.br i a',F:=upd a.F i (New (a.F i) w w')}:=⟨_,rfl⟩;have hF:∀j,a2.F j=if j=i then New (a.F i) w w' else a.F j:=λj=>by rw[ae];rfl
 have ag:∀j,a2.br j=if j=i then a' else a.br j:=λj=>by rw[ae];rfl
 have hL:a2.L=a.L:=by rw[ae]
 have live:∀b,a2.live zz.n b->a.live zz.n b\/(w.heap.size<=b/\b<w'.heap.size):=by
  rintro b (⟨j,hj,a7⟩ | hx)
  ·rw[hF]at a7;split at a7
   ·exact a7.elim (λe=>.inl (.inl ⟨i,hi,e⟩)) .inr
   ·exact .inl (.inl ⟨j,hj,a7⟩)
  ·rw[hL]at hx;exact .inl (.inr hx)
 have bj:∀b,a.bj b->¬a.F i b:=λb hf a7=>h.fix b (.inl ⟨i,hi,a7⟩) hf;have aI:∀ {b:Nat} {ty:TypeId} {cs:Array Value},ai w b ty cs->a.bj b->ai w' b ty cs:=λa7 hf=>t.aW a7 (bj _ hf);rw[<-ae];have hq:((List.range zz.n).map λi=>(a2.br i).L.q)=(List.range zz.n).map λi=>(a.br i).L.q:=List.map_congr_left λj _=>by
  rw[ag];split
  ·rename_i e;subst e;exact st.q.1
  ·rfl
 have hm:fQ zz.n a2.br=fQ zz.n a.br:=by
  funext k;unfold fQ;split
  ·rename_i hk;rw[ag];split
   ·rename_i e;rw[e,st.bb]
   ·rfl
  ·rfl
 have e1:a2.wb=a.wb/\a2.qn=a.qn/\a2.Bn=a.Bn/\a2.mb=a.mb/\a2.cb=a.cb/\a2.gb=a.gb/\a2.AP=a.AP/\a2.AH=a.AH/\a2.AD=a.AD:=by rw[ae];exact⟨rfl,rfl,rfl,rfl,rfl,rfl,rfl,rfl,rfl⟩
 have a5:bS zz a2=bS zz a:=by rw[ae];rfl
 have e3:a2.bj=a.bj:=by rw[ae];rfl
 have g:Goes (a.all zz.n) w (a2.all zz.n) w':=⟨t.os,t.tape,t.output,t.size,λb a7 aL=>t.aI b a7 (λe=>aL (.inl (.inl ⟨i,hi,e⟩))),λb a7 e=>e.imp (λe=>(live b e).elim id (λe=>by omega)) (λe=>by rw[e3]at e;exact e)⟩;obtain⟨q1,q2,q3,q4,q5,q6,q7,q8,q9⟩:=e1;have hJ:bR zz.n a w a2 w':=⟨t.wide (λb _ e=>.inl ⟨i,hi,e⟩),λb a7 e=>(live b e).elim id (λe=>by omega),hL,⟨q1,q2,q3,q4,q5,q6,q9,by rw[ae]⟩,λj=>by
  rw[ag];split
  ·rename_i e;subst e;exact⟨st.q.2.1,st.q.2.2,st.bb,st.q.1⟩
  ·exact⟨rfl,rfl,rfl,rfl⟩,⟨q7,q8⟩⟩
 refine⟨?_,hJ⟩;refine⟨?_,h.ok,h.n6,?_,?_,?_,?_,?_,h.cl,?_,h.gl,λj hj=>?_,λj k hj hk ay b a7=>?_,λj hj b a7 x hx=>?_,λb a7=>?_,?_,?_,λx hx m aR b off hA=>?_⟩
 ·rw[q1,a5];exact aI h.aW (.inl rfl)
 ·rw[q7];exact h.par.goes g
 ·rw[q8];exact h.homes.goes g
 ·rw[hq,q9];exact h.fF.goes g
 ·rw[hm,q4];exact h.map.aI (t.aI _ h.map.lt (bj _ (.inr (.inr (.inr (.inl rfl))))))
 ·rw[q5];exact aI h.cur (.inr (.inr (.inr (.inr (.inl rfl)))))
 ·rw[q6];exact aI h.got (.inr (.inr (.inr (.inr (.inr rfl)))))
 ·rw[hF,ag];unfold put;by_cases e:j=i
  ·subst e;rw[if_pos rfl,if_pos rfl,if_pos rfl];exact st.at_
  ·rw[if_neg e,if_neg e,if_neg e];exact(h.br j hj).ba t (λb a7 aG=>h.apart j i hj hi e b a7 aG)
 ·rw[hF]at a7 ⊢;split at a7
  ·rename_i e;rw[if_neg (λa5=>ay (e.trans a5.symm))];intro aG;rcases a7 with a7 | a7
   ·exact h.apart i k hi hk (λa5=>ay (e.trans a5)) b a7 aG
   ·have:=(h.br k hk).lt b aG;omega
  ·split
   ·rename_i e a5;intro aG;rcases aG with aG | aG
    ·exact h.apart j i hj hi e b a7 aG
    ·have:=(h.br j hj).lt b a7;omega
   ·exact h.apart j k hj hk ay b a7
 ·rw[hL]at hx;rw[hF]at a7;split at a7
  ·rcases a7 with a7 | a7
   ·exact h.nr i hi b a7 x hx
   ·have:=bA x.c (.inr ⟨x,hx,rfl⟩);omega
  ·exact h.nr j hj b a7 x hx
 ·rw[e3];rcases live b a7 with a7 | a7
  ·exact h.fix b a7
  ·intro hf;have:=h.jn b hf;omega
 ·rw[q2,q3,hL];exact h.net.other t (bj _ (.inr (.inl rfl))) (bj _ (.inr (.inr (.inl rfl)))) (λx hx a7=>h.nr i hi _ a7 x hx rfl) (λx hx m aR b off hA a7=>(h.je x hx m aR b off hA).2 (.inl ⟨i,hi,a7⟩))
 ·rw[hL];exact h.eJ
 ·rw[hL]at hx;have hp:=h.je x hx m aR b off hA;exact⟨Nat.lt_of_lt_of_le hp.1 bJ,λa7=>(live b a7).elim hp.2 (λe=>by have:=hp.1;omega)⟩
theorem bB.link(h:bB w zz bs a Q cs gs){x:Nt.cj}(hx:x∈a.L)(t:aw (λb=>b=x.c) w w')(au:Nt.cA w' 0 a.qn a.Bn a.L Q')(hp:∀y∈a.L,∀m∈Q' y.c,∀b off,m.A=some ⟨b,off,none⟩->b<w'.heap.size/\¬a.live zz.n b):bB w' zz bs a Q' cs gs:=by
 have hl:a.live zz.n x.c:=.inr ⟨x,hx,rfl⟩;have g:Goes (a.all zz.n) w (a.all zz.n) w':=⟨t.os,t.tape,t.output,t.size,λb a7 aL=>t.aI b a7 (λe=>aL (by rw[e];exact .inl hl)),λ_ _ e=>e⟩;have bj:∀b,a.bj b->¬ (b=x.c):=λb hf e=>h.fix b (by rw[e];exact hl) hf;have aI:∀ {b:Nat} {ty:TypeId} {cs:Array Value},ai w b ty cs->a.bj b->ai w' b ty cs:=λa7 hf=>t.aW a7 (bj _ hf);exact⟨aI h.aW (.inl rfl),h.ok,h.n6,h.par.goes g,h.homes.goes g,h.fF.goes g,h.map.aI (t.aI _ h.map.lt (bj _ (.inr (.inr (.inr (.inl rfl)))))),aI h.cur (.inr (.inr (.inr (.inr (.inl rfl))))),h.cl,aI h.got (.inr (.inr (.inr (.inr (.inr rfl))))),h.gl,
  λi hi=>(h.br i hi).ba t (λb a7 e=>h.nr i hi b a7 x hx e),h.apart,h.nr,h.fix,au,h.eJ,hp⟩
end
end
section
def ea(w:World)(b:Nat):Prop:=∀o,w.heap[b]? =some o->o.isCells=false
def jU(w:World)(S S':Nat->Prop):Prop:=∀b,b<w.heap.size->S' b->S b\/ea w b
theorem mi{w:World}{a:Addr}{v:Value}(h:w.cell? a=some v):¬ea w a.block:=by
 intro aL;unfold World.cell? at h;cases ho:w.heap[a.block]? with
 | none=>rw[ho]at h;cases h
 | some o=>
  rw[ho]at h;have:=aL o ho;cases o<;>simp_all[Obj.isCells]
section
variable {w:World}{S S':Nat->Prop}
theorem a6.dX{A:Option Addr}{xs:List Value}(h:a6 w S A xs)(n:jU w S S'):a6 w S' A xs:=by
 by_cases hx:xs=[]
 ·exact .inl hx
 ·rcases h with h | ⟨b,off,hA,a7,hs,hc⟩
  ·exact absurd h hx
  ·refine .inr ⟨b,off,hA,a7,λe=>?_,hc⟩;rcases n b a7 e with h1 | h1
   ·exact hs h1
   ·have h0:0<xs.length:=List.length_pos_iff.2 hx;exact mi (hc 0 xs[0] (List.getElem?_eq_getElem h0)) h1
def iM{α:Type}(r:dD α):Prop:=∀ {w:World} {S S':Nat->Prop} {u:List Value} {x:α},r.R w S u x->jU w S S'->r.R w S' u x
theorem SliceAt.dX{α:Type}{r:dD α}(hr:iM r){A:Option Addr}{l:List α}(h:SliceAt r w S A l)(n:jU w S S'):SliceAt r w S' A l:=by
 obtain⟨us,h1,h2,a1⟩:=h;exact⟨us,h1.dX n,h2,λi u a hu ha=>hr (a1 i u a hu ha) n⟩
theorem sm:iM cy:=λh _=>h
theorem pZ:iM aN:=λh n=>by
 obtain⟨A,c,hu,h⟩:=h;exact⟨A,c,hu,h.dX sm n⟩
theorem gh:iM aB:=λh n=>by
 obtain⟨A,c,hu,h⟩:=h;exact⟨A,c,hu,h.dX pZ n⟩
theorem uh:iM bg:=λh n=>by
 obtain⟨A,c,hu,h⟩:=h;exact⟨A,c,hu,h.dX pZ n⟩
theorem r6:iM dm:=λh _=>h
theorem ny:iM b5:=λh _=>h
theorem vq:iM hO:=λh _=>h
theorem yt:iM cf:=λh n=>by
 obtain⟨A,c,hu,h,hc⟩:=h;exact⟨A,c,hu,h.dX n,hc⟩
theorem cI.dX{m:bc}{a:fu}(h:cI w S m a)(n:jU w S S'):cI w S' m a:=
 ⟨h.a5.dX r6 n,h.asks.dX gh n,h.entries.dX gh n,h.aK.dX gh n⟩
theorem eS.dX{A:Option Addr}{n:Nat}{p:Nat->Nat}(h:eS w S A n p)(k:jU w S S'):eS w S' A n p:=by
 obtain⟨⟨h1,h2,a1,b,off,hA,a7,hc,hk⟩,hs⟩:=h;refine⟨⟨h1,h2,a1,b,off,hA,a7,hc,hk⟩,λb' aq e=>?_⟩;rw[hA]at e;injection e with e;injection e with e;subst e;intro e;rcases k b a7 e with h4 | h4
 ·exact hs b off hA h4
 ·exact mi hc h4
theorem oG.dX{z:aM}{s:aC}{v:yl}(h:oG w S z s v)(n:jU w S S'):oG w S' z s v:=
 ⟨h.par.dX n,h.homes.dX ny n,h.list.dX gh n,h.cap,h.prom.dX gh n,h.aF.dX uh n,h.waits.dX gh n,h.mX,h.nx⟩
theorem gz.dX{mr:Nat}{bU:Nat->Option bc}(h:gz w S mr bU)(n:jU w S S'):gz w S' mr bU:=by
 obtain⟨f,hm,hf⟩:=h.ex;refine⟨f,hm,λk=>⟨(hf k).1,λm hk=>?_⟩⟩;obtain⟨a,h1,h2⟩:=(hf k).2 m hk;exact⟨a,h1,h2.dX n⟩
theorem b8.dX{L:cc}{recs:List (List UInt8)}{last room:Nat}(h:b8 w S L recs last room)(n:jU w S S')(hs:∀b,L.bE b->S' b):b8 w S' L recs last room:=by
 obtain⟨u,h1,h2,us,k1,k2,k3⟩:=h.ex;refine⟨⟨u,h1,h2,us,k1,k2,λi u' x hu hx=>yt (k3 i u' x hu hx) (λb a7 hp=>?_)⟩,h.eN,h.small,hs⟩;rcases hp with hp | hp
 ·exact(n b a7 hp).imp .inl id
 ·exact .inl (.inr hp)
end
section
variable {w w':World}{F F':Nat->Prop}{z:aM}{s:aC}{a:b4}
theorem bk.cells(h:bk w F z s a):∀b,a.mut b->b=a.mr\/b=a.mt\/¬ea w b:=by
 obtain⟨v,hB,D⟩:=h.ex;have hl:=h.log;obtain⟨u,l1,l2,l3⟩:=hl.ex;obtain⟨A,c,d1,d2,d3,_⟩:=hl.eN;have one:∀ {b:Nat} {t:TypeId} {cs:Array Value},ai w b t cs->¬ea w b:=λa7 aL=>by
  have:=aL _ a7;cases this
 have own:∀ {base e k n:Nat} {v:Value} {xs:List Value} {b:Nat},w.ownsRow base e k v n xs->v.ownBlock=some b->¬ea w b:=λ{base e k n v xs b} ho a7=>by
  rcases ho.2 with⟨rfl,_⟩ | ⟨g,cap,cur,hv,hg,hh,_⟩
  ·cases a7
  ·rw[hv]at a7;have:g=b:=(by simpa[Value.ownBlock]using a7);subst this;exact one hh
 rintro b (rfl | rfl | rfl | rfl | rfl | e | e)
 ·exact .inr (.inr (one hB))
 ·exact .inl rfl
 ·exact .inr (.inl rfl)
 ·exact .inr (.inr (one l1))
 ·exact .inr (.inr (one d2))
 ·rw[l2]at e;obtain⟨us,k1,_⟩:=l3;exact .inr (.inr (own k1 e))
 ·rw[d1]at e;exact .inr (.inr (own d3 e))
theorem bk.zj(h:bk w F z s a)(h1:∀b,F' b->F b)(h2:∀b,F b->F' b\/ea w b)(a1:∀b,a.mut b->F' b):bk w F' z s a:=by
 have n:jU w (bO F a) (bO F' a):=λb _ a7=>by
  rcases a7 with a7 | a7
  ·by_cases hF:F b
   ·exact .inr ((h2 b hF).resolve_left a7)
   ·exact .inl (.inl hF)
  ·exact .inl (.inr a7)
 obtain⟨v,k1,k2⟩:=h.ex;have hl:=h.log;exact⟨⟨v,k1,k2.dX n⟩,h.bU.dX n,h.told,hl.dX n (λb a7=>.inr (.inr (.inr (.inr a7)))),h.apart,a1,λb a7=>h.lt b (h1 b a7)⟩
end
end
def zx{α:Type}(F:Fence)(n:Nat)(P:Program)(g:Nat)(lb:Array Value)(pQ:α->Array Value)(zs:List α)(Rd:World->Prop)(w:World):Prop:=
 ∀ (l:Nat) (J:Nat->World->Prop) (W:World),Below w w W->AbidesFrom W J->(∀k W1,J k W1->Rd W1)->
  (∀ (k:Nat) (hk:k<zs.length) (W1:World),J k W1->YieldAt F (n-1) P l (pQ zs[k]) W1 λe W'=>e=.returned (.bool true)/\J (k+1) W')->J 0 W->
  CallsIn F n P g (#[.func (.yield l) #[] #[]]++lb) W λe W'=>(∃v,e=.returned v)/\J zs.length W'
theorem se{α:Type}{F:Fence}{n:Nat}{P:Program}{g:Operand}{ps:Array Tmp}{assign body:Code}{Q:Exit->Act->World->Prop}{a:Act}{w:World}
 (ad:F.round=none) (h1:1<=n) {gf:Nat} {lb:Array Value} (hg:a.eval g=.func (.func gf) #[] lb) (av:F.fn gf) (eg:∀args w,(callFunc gf args).run P w=.ok (.enter gf args) w)
 {pQ:α->Array Value} {zs:List α} {Rd:World->Prop} (ao:zx F (n-1) P gf lb pQ zs Rd w) (aS:∀x,(pQ x).size=ps.size)
 (bc:Nat->World->Prop) (hI:OwnFrom w bc) (aA:∀k W,bc k W->Rd W) (h0:bc 0 w) (ah:α->Act)
 (af:∀ (l:Nat) (x:α) (W:World) (K:Act->World->Prop),K (ah x) W->assign.wpIn (F.inRound l) (n-1-1) P (Exit.then K (λ_ _ _=>False)) {tmps:=(ps.zip (pQ x)).foldl (λt (p,v)=>t.setIfInBounds p v) a.tmps,defers:=[]} W)
 (am:∀ (l k:Nat) (hk:k<zs.length) (W:World),bc k W->body.wpIn (F.inRound l) (n-1-1) P (λe _ W'=>e=.normal/\KeepsFrom w W W'/\bc (k+1) W') (ah zs[k]) W)
 (J:∀ (D:Nat) (W:World),w.heap.size<=D->bc zs.length W->W.heap[D]? =some (.deferred (some []))->Q .normal {a with defers:={target:=.collected D,args:=#[]}::a.defers} W):
 (Code.rangeFunc g ps assign body).wpIn F n P Q a w:=by
 refine wpIn_rangeFunc (λfn M=>?_);rw[ad]
 let D:=w.heap.size
 let l:=w.heap.size+1
 let lp:LoopState->Loop:=λst=>{state:=st,pending:=none,fn:=fn,tmps:=a.tmps,params:=ps,assign:=assign,body:=body,defers:=D}
 let W0:=(w.alloc (.deferred (some []))).alloc (.loop (lp .ready))
 have aU:Below w w W0:=((Below.refl _ w).alloc (Nat.le_refl _) _).alloc (by simp) _;have ar:W0.heap[D]? =some (.deferred (some [])):=(Below.heap_alloc _ _ _ (by simp[D])).trans (World.alloc_heap_new w _);have ai:W0.heap[l]? =some (.loop (lp .ready)):=by
  have:=World.alloc_heap_new (w.alloc (.deferred (some []))) (.loop (lp .ready))
  rwa [World.size_alloc]at this
 have bJ:W0.heap.size=w.heap.size+2:=by simp[W0]
 refine⟨l,[{target:=.collected D,args:=#[]}],W0,{target:=.fn (.func gf) lb,args:=#[.func (.yield l) #[] #[]]},W0,gf,#[.func (.yield l) #[] #[]]++lb,W0,run_enterLoop_outer _ _ _ _ _,by simp only[resolve,hg];simp[go_sem],λf' Y=>?_,by simp[invoke,go_sem,eg],λ_=>h1,?_⟩
 ·simp[Target.leads]at Y;subst Y;exact av
 refine(ao l (λk W=>bc k W/\W.heap[l]? =some (.loop (lp .ready))/\W.heap[D]? =some (.deferred (some []))) W0 aU (λk W W' row hk I hr=>?_) (λk W hk=>aA k W hk.1) (λk hk W hJ=>?_) ⟨hI.alloc _ (hI.alloc _ h0),ai,ar⟩).mono ?_
 ·have ne:∀b,b<W0.heap.size->some b≠row:=λb a7 e=>by
   have:=(hr b e.symm).1;omega
  refine⟨hI k W W' row hk.1 I (λr e=>?_),(I.block l (Array.getElem?_eq_some_iff.1 hk.2.1).1 (ne l (by simp only[l];omega))).trans hk.2.1,(I.block D (Array.getElem?_eq_some_iff.1 hk.2.2).1 (ne D (by simp only[D];omega))).trans hk.2.2⟩;obtain⟨hB,o,ho,hw⟩:=hr r e;exact⟨by omega,o,ho,Obj.not_cells_of_walk hw⟩
 ·obtain⟨hi,ae,aj⟩:=hJ;have bA:l<W.heap.size:=(Array.getElem?_eq_some_iff.1 ae).1;have ag:D≠l:=(by simp only[D,l];omega);refine⟨fn,_,assign,body,run_yield (P:=P) (args:=pQ zs[k]) ae (aS _),roundIn_of_wpIn M (af l zs[k] W _ ⟨_,run_beginRound ae rfl,?_⟩)⟩;have b9:(W.putObj l (.loop (lp .busy))).heap[l]? =some (.loop (lp .busy)):=World.putObj_heap_same bA;have au:(W.putObj l (.loop (lp .busy))).heap[D]? =some (.deferred (some [])):=(World.putObj_heap_other ag).trans aj;refine wpIn_mono (am l k hk _ (hI.putObj _ hi (by simp only[l];omega) ae rfl)) ?_;rintro e bG W3 ⟨rfl,aq,aC⟩;have bh:=aq.same l _ (by simp only[l];omega) b9 rfl;have aa:=aq.same D _ (Nat.le_refl _) au rfl;have ak:=run_endRound (P:=P) none bh;refine⟨_,_,ak,rfl,hI.putObj _ aC (by simp only[l];omega) bh rfl,World.putObj_heap_same (Array.getElem?_eq_some_iff.1 bh).1,(World.putObj_heap_other ag).trans aa⟩
 ·rintro e W ⟨⟨v,rfl⟩,hi,ae,aj⟩;have ag:D≠l:=(by simp only[D,l];omega);exact⟨none,_,run_endLoop (P:=P) ae (by simp[lp]),J D _ (Nat.le_refl _) (hI.putObj _ hi (by simp only[l];omega) ae rfl) ((World.putObj_heap_other ag).trans aj)⟩
theorem pu{L:List Nt.cj}(h:Nt.Fair L){x y:Nt.cj}(hx:x∈L)(hy:y∈L)(e1:x.f=y.f)(a5:x.t=y.t):x=y:=by
 have h2:=h.nodup;clear h
 induction L with
 | nil=>cases hx
 | cons z L M=>
  rw[List.pairwise_cons]at h2;rcases List.mem_cons.1 hx with ex | J
  ·rcases List.mem_cons.1 hy with Y | I
   ·rw[ex,Y]
   ·rw[ex]at e1 a5;exact absurd ⟨e1,a5⟩ (h2.1 y I)
  ·rcases List.mem_cons.1 hy with Y | I
   ·rw[Y]at e1 a5;exact absurd ⟨e1.symm,a5.symm⟩ (h2.1 x J)
   ·exact M J I h2.2
theorem fW{w:World}{zz:aM}{bs:Nat->aC}{a:WA}{Q:Nat->List Nt.cX}{cs:List Nat}{gs:Array Value}(h:bB w zz bs a Q cs gs){i:Nat}(hi:i<zz.n):
 (Instr.lookup 68 (.map (some a.mb)) (ag i) true).run Tryz.prog w=.ok (.tuple #[aj (a.br i).bb,.bool true]) w:=by
 have aL:=h.n6;rw[dG Tryz.underlying68 h.map (ei (a:=(i:Int)) (by omega)) (v:=.pointer (aj (a.br i).bb)) (by unfold fQ;rw[if_pos (by omega)];rfl) true];rfl
theorem wa(zz:aM)(bs:Nat->aC)(a:WA)(Q:Nat->List Nt.cX)(cs:List Nat)(gs:Array Value)(i:Nat)(w:World)(h:bB w zz bs a Q cs gs)(hi:i<zz.n):
 Calls Tryz.prog 37 #[aj a.wb,ag i] w λe w'=>e=.returned (.bool true)/\w=w':=by
 have hB:=h.aW;unfold bS at hB;have y0:=hB.cell 0;simp at y0;have aL:=h.n6;have g1:decide ((0:Int)<=(i:Int))=true:=decide_eq_true (by omega);have bA:(i:Int)<(zz.n:Int):=by omega
 clear h hB hi aL;go_enter Tryz.func37,Tryz.ntmps37;go_wp2;go_ret;exact⟨rfl,rfl⟩
theorem B6(zz:aM)(bs:Nat->aC)(a:WA)(Q:Nat->List Nt.cX)(cs:List Nat)(gs:Array Value)(i:Nat)(w:World)(h:bB w zz bs a Q cs gs)(hi:i<zz.n):
 Calls Tryz.prog 24 #[aj a.wb,ag i] w λe w'=>e=.returned (.bool true)/\w=w':=by
 have is:=wa zz bs a Q cs gs i w h hi;have hB:=h.aW;unfold bS at hB;have y4:=hB.cell 4;simp at y4;have lk:=fW h hi;clear h hB hi;go_enter Tryz.func24,Tryz.ntmps24;go_wp2_with fail;go_fit is;clear is;rintro e w1 ⟨rfl,rfl⟩;go_wp2;go_ret;exact⟨rfl,rfl⟩
def pW(L:List Nt.cj)(Q:Nat->List Nt.cX)(i:Nat)(os:List (Nat×List UInt8)):Prop:=
 ∀x∈L,(Q x.c).map (·.l)=if x.f=(i:Int)then(os.filter λo=>decide ((o.1:Int)=x.t)).map (·.2)else []
theorem tH{L:List Nt.cj}{Q:Nat->List Nt.cX}{i:Nat}{os:List (Nat×List UInt8)}{o:Nat×List UInt8}{x:Nt.cj}{m:Nt.cX}(hs:pW L Q i os)(hf:Nt.Fair L)(ha:∀x∈L,∀y∈L,x.c=y.c->x=y)(hx:x∈L)(h1:x.f=(i:Int))(h2:x.t=(o.1:Int))(hm:m.l=o.2):
 pW L (λk=>if k=x.c then Q x.c++[m]else Q k) i (os++[o]):=λy hy=>by
 simp only;by_cases e:y.c=x.c
 ·obtain rfl:=ha y hy x hx e;rw[if_pos rfl,List.map_append,hs y hy,if_pos h1,if_pos h1,List.filter_append,List.map_append];congr 1;rw[List.filter_cons,if_pos (by rw[h2];simp)];simp[hm]
 ·rw[if_neg e,hs y hy];by_cases e1:y.f=(i:Int)
  ·rw[if_pos e1,if_pos e1,List.filter_append,List.map_append];have ay:¬ ((o.1:Int)=y.t):=λa5=>e (by rw[pu hf hy hx (e1.trans h1.symm) (a5.symm.trans h2.symm)]);rw[List.filter_cons,if_neg (by simpa using ay)];simp
  ·rw[if_neg e1,if_neg e1]
theorem BZ(zz:aM)(bs:Nat->aC)(a:WA)(cs:List Nat)(gs:Array Value)(i:Nat)(w:World)(h:bB w zz bs a (λ_=>[]) cs gs)(hi:i<zz.n)(hf:Fit (zz.at_ i) (bs i))(hc:jE (zz.at_ i) (bs i))
 (av:∀o∈ft (zz.at_ i) (bs i),(∃x∈a.L,x.f=(i:Int)/\x.t=(o.1:Int))/\o.2.length<=1000000) (hlen:(ft (zz.at_ i) (bs i)).length<=7):
 Calls Tryz.prog 51 #[aj a.wb,ag i] w λe w'=>e=.returned (ag 0)/\∃ (a':WA) (Q':Nat->List Nt.cX),bB w' zz (put bs i (eM (zz.at_ i) (bs i))) a' Q' cs gs/\pW a'.L Q' i (ft (zz.at_ i) (bs i))/\bR zz.n a w a' w':=by
 have is:=wa zz bs a _ cs gs i w h hi;have tk:=Bx (zz.at_ i) (bs i) (a.br i) (a.F i) w (h.ok i hi) (h.br i hi) hf hc;have lk:=fW h hi;have hB:=h.aW;unfold bS at hB;have y4:=hB.cell 4;simp at y4;obtain⟨outs,ay⟩:=am (ft (zz.at_ i) (bs i));rw[<-ay]at tk av hlen ⊢;have HH:=fm h hi av;have i6:i<6:=by have:=h.n6;omega
 clear h hB hi hf hc av ay;go_enter Tryz.func51,Tryz.ntmps51;go_wp2_with fail;go_fit is;clear is;rintro e w0 ⟨rfl,rfl⟩;go_wp2_with fail;go_fit tk;clear tk lk y4;rintro e w1 ⟨v1,B,bg,rfl,aG,O1,st⟩;obtain⟨AO,nO,cO,rfl,aB,aQ⟩:=O1.form;have aE:=HH.out.1.step HH.out.2.1 st;have sO:=O1.slice (S':=λb=>b<B) (λb a7=>a7) (λb a7=>a7);obtain⟨a2,ae⟩:∃a2:WA,a2={a with br:=upd a.br i bg,F:=upd a.F i (New (a.F i) w w1)}:=⟨_,rfl⟩;rw[<-ae]at aE;obtain⟨W1,aK⟩:=aE;have eL:a2.L=a.L:=by rw[ae]
 have ar:a2.wb=a.wb:=by rw[ae]
 have aA:∀x∈a2.L,x.c<B:=λx hx=>Nat.lt_of_lt_of_le (HH.out.1.lt x.c (.inr ⟨x,by rw[<-eL];exact hx,rfl⟩)) aG;have S1:pW a2.L (λ_=>[]) i (outs.take 0):=λx _=>by simp
 have ax:nO<=7:=by rw[aB.out];exact hlen
 have HL:=dx ae eL ar aA;rw[<-ar];clear O1 st ae eL aA ar;go_wp2_with fail
 go_loopw [27] (λi_ wr=>∃ (k:Nat) (Q:Nat->List Nt.cX),i_=I af k/\k<=nO/\bB wr zz (put bs i (eM (zz.at_ i) (bs i))) a2 Q cs gs/\SliceAt gV wr (λb=>b<B) AO outs/\pW a2.L Q i (outs.take k)/\bR zz.n a w a2 wr) (λi _=>nO- (intOf i).toNat)
 case atStart=>exact⟨0,_,rfl,by omega,W1,sO,S1,aK⟩
 case round=>
  obtain⟨k,Q,rfl,hk,Wr,cI,Sr,aD⟩:=hrel;by_cases bA:k<nO
  ·have bu:k<outs.length:=(by have:=aB.out;omega);have bE:(k:Int)<(nO:Int):=(by omega);obtain⟨b,off,u,rfl,bV,b8,bx,hcell,A9,c9,hu,h9⟩:=cI.at_ bu (by decide);rw[hu]at hcell;have d0:wr.cell? ⟨b,off+k*2,none⟩=some (I af outs[k].1):=hcell 0 _ rfl;have d1:wr.cell? ⟨b,off+k*2+1,none⟩=some (.slice A9 outs[k].2.length c9):=hcell 1 _ rfl;obtain⟨⟨x,hx,ah,ao⟩,az⟩:=HH.out.2.2 _ (List.getElem_mem bu);have a4:Hid (outs.take (k+1)=outs.take k++[outs[k]]):=List.take_succ_eq_append_getElem bu;obtain⟨o,ho⟩:=am (outs[k]);rw[<-ho]at d0 d1 h9 ao az a4;rw[<-HL.out.2.1]at hx;have bQ:(Q x.c).length<8:=by
    have:=congrArg List.length (Sr x hx);rw[List.length_map,if_pos ah,List.length_map]at this;have h2:=List.length_filter_le (λo:Nat×List UInt8=>decide ((o.1:Int)=x.t)) (outs.take k);rw[List.length_take]at h2;omega
   have cF:=Wr.aW;unfold bS at cF;obtain⟨w3,bd⟩:=am (wr.alloc (.cells #[ag o.1,Y A9 o.2.length c9] 178));have b3:=aV bd;have bD:ai w3 wr 178 #[ag o.1,Y A9 o.2.length c9]:=(by rw[bd];exact ai.made _ _ _);obtain⟨xb,a0⟩:=am wr.heap.size;rw[<-a0]at bD;have bj:=Lib.hid a0;have M:ai w3.drew xb 178 _:=bD;have aw:Below wr wr w3.drew:=⟨b3.os,b3.tape,b3.output,b3.size,b3.block⟩;have aJ:ai w3.drew a2.wb 73 _:=cF.below aw cF.lt;have W3:=Wr.below aw;have sd:=Nt.AK w3.drew a2.qn a2.Bn a2.L Q W3.net x hx A9 c9 w3.drew.heap.size o.2 (Nt.xt (h9.below aw)) (Nat.le_refl _) az bQ;rw[ah,ao]at sd;have aF:=di ah ao;clear hcell bx hu h9 ho a0 ah ao;go_wp2_with fail;rw[<-bd]
   try rw[<-bj.out]
   clear bd d0 d1;refine wp_region_held_drew (S:=(λw'=>w'.cell? ⟨a2.wb,2,none⟩=some (.pointer (aj a2.qn))/\w'.cell? (aj xb)=some (I af o.1)/\w'.cell? ⟨xb,1,none⟩=some (Y A9 o.2.length c9))) (by kernel_rfl) (⟨aJ.cell 2,M.cell 0,M.cell 1⟩) (λJ=>?_);refine tk 0 J ?_;refine tk 1 J ?_;refine tk 2 J ?_;refine tk 3 J ?_;refine tk 4 J ?_;refine tk 5 J ?_;refine tk 6 J ?_;refine tk 7 J ?_;refine tk 8 J ?_;refine aP 9 (λK ad=>?_);clear J;go_simp;go_fit sd;clear sd;rintro e w4 ⟨rfl,m,hm,aH,au,t4⟩;have aN:x.c<wr.heap.size:=Wr.lt x.c (.inr ⟨x,hx,rfl⟩);have aO:=t4.aW M (λe=>by have e:xb=x.c:=e;have:=bj.out;omega);have W4:=W3.link hx t4 au (λy hy m' aa b' aq ak=>by
    try simp only at aa
    split at aa
    ·rcases List.mem_append.1 aa with aa | aa
     ·have:=W3.je x hx m' aa b' aq ak;exact⟨Nat.lt_of_lt_of_le this.1 t4.size,this.2⟩
     ·rw[List.mem_singleton.1 aa]at ak;have h1:=aH b' aq ak;exact⟨h1.2,λhl=>by have:=W3.lt b' hl;omega⟩
    ·have:=W3.je y hy m' aa b' aq ak;exact⟨Nat.lt_of_lt_of_le this.1 t4.size,this.2⟩)
   have bt:=W4.aW;unfold bS at bt
   try dsimp only
   refine ad.out _ _ (⟨bt.cell 2,aO.cell 0,aO.cell 1⟩) (λJ=>?_);clear ad K;refine cB ?_ _;clear J;have cS:SliceAt gV w4 (λb=>b<B) _ outs:=(cI.below aw).goes ⟨t4.os,t4.tape,t4.output,t4.size,λb a7 aL=>t4.aI b a7 (λe=>aL (by have e:b=x.c:=e;rw[e];exact HL.out.2.2.2 x hx)),λ_ _ e=>e⟩;have S4:=tH Sr Wr.net.fair Wr.net.apart hx aF.out.1 aF.out.2 hm;go_wp2
   go_round
   case rel=>exact⟨k+1,_,by go_num,by omega,W4,cS,by rw[a4.out];exact S4,(aD.trans (bR.below aw)).trans (bR.link hx t4)⟩
   case measure=>simp[intOf];omega
  ·obtain rfl:k=nO:=(by omega);rw[aB.out,List.take_length]at Sr;go_wp2;go_ret;exact⟨rfl,a2,Q,Wr,Sr,aD⟩
theorem uk(zz:aM)(bs:Nat->aC)(a:WA)(Q:Nat->List Nt.cX)(cs:List Nat)(gs:Array Value)(i j:Nat)(x:Nt.cj)(m:Nt.cX)(q:List Nt.cX)(s':aC)(w:World)(h:bB w zz bs a Q cs gs)(_hi:i<zz.n)(hj:j<zz.n)(hx:x∈a.L)(ah:x.f=(i:Int))(ao:x.t=(j:Int))(hq:Q x.c=m::q)
 (hh:∀ (w':World) (A:Option Addr) (n c:Nat),bk w' (a.F j) (zz.at_ j) (bs j) (a.br j)->m.l.length=n->Src w' A (aA m.l)->Calls Tryz.prog 99 #[aj (a.br j).bb,ag i,Y A n c] w' λe w''=>e=.returned (ag 0)/\∃a':b4,aY w' w'' (a.F j) (zz.at_ j) s' (a.br j) a'):
 Calls Tryz.prog 53 #[aj a.wb,ag i,ag j] w λe w'=>e=.returned (ag 0)/\∃a':WA,bB w' zz (put bs j s') a' (λk=>if k=x.c then q else Q k) cs gs/\bR zz.n a w a' w':=by
 have tk:=Nt.BD w a.qn a.Bn a.L Q h.net x hx m q hq;rw[ah,ao]at tk;unfold Nt.cX.val at tk;have hB:=h.aW;unfold bS at hB;have y2:=hB.cell 2;simp at y2;have bl:=(h.net.q x hx).2 m (by rw[hq];exact List.mem_cons_self);have I:=h.je x hx m (by rw[hq];exact List.mem_cons_self);have aD:=λm' (aa:m'∈q)=>h.je x hx m' (by rw[hq];exact List.mem_cons_of_mem _ aa);have HH:=kz h hj hh hx bl I aD;have aL:=h.n6;clear h hB hh hx bl I aD hq ah ao;go_enter Tryz.func53,Tryz.ntmps53;go_wp2_with fail;go_fit tk;clear tk y2;rintro e w1 ⟨rfl,au,t1⟩;have W1:=HH.out.1.link HH.out.2.2.2.1 t1 au (λy hy m' aa b off hA=>by
  try simp only at aa
  split at aa
  ·have:=HH.out.2.2.2.2.2.2 m' aa b off hA;exact⟨Nat.lt_of_lt_of_le this.1 t1.size,this.2⟩
  ·have:=HH.out.1.je y hy m' aa b off hA;exact⟨Nat.lt_of_lt_of_le this.1 t1.size,this.2⟩)
 have aE:=W1.aW;unfold bS at aE;have y4:=aE.cell 4;simp at y4;have lk:=fW W1 HH.out.2.1;have a3:Src w1 m.A (aA m.l):=by
  rcases HH.out.2.2.2.2.1 with e | ⟨b,off,hA,a7,hc⟩
  ·exact .inl e
  ·refine .inr ⟨b,off,hA,λk u hu=>?_⟩;have ay:b≠x.c:=λe=>(HH.out.2.2.2.2.2.1 b off hA).2 (.inr ⟨x,HH.out.2.2.2.1,e⟩);rw[World.cell?_of_block (w:=w) (w':=w1) (a:=⟨b,off+k,none⟩) (t1.aI b a7 ay)];exact hc k u hu
 have hd:=HH.out.2.2.1 w1 m.A m.l.length m.c (W1.br j HH.out.2.1) rfl a3;clear a3 aE;go_wp2_with fail;go_fit hd;clear hd lk y4;rintro e w2 ⟨rfl,a',st⟩;go_wp2;go_ret;have fin:=W1.step HH.out.2.1 st;exact⟨rfl,_,fin.1,(bR.link HH.out.2.2.2.1 t1).trans fin.2⟩
section
theorem ly(zz:aM)(bs:Nat->aC)(i:Nat):cN zz bs i=eM (zz.at_ i) (bs i):=by
 unfold cN eM;by_cases h:i=0
 ·subst h;rfl
 ·rw[if_neg h,if_neg (show ¬ (zz.at_ i).me=0 from h)]
theorem vr{zz:aM}{bs:Nat->aC}{i:Nat}(h:ij zz bs i):jE (zz.at_ i) (bs i):=by
 have e:=ly zz bs i;refine⟨λh0=>?_,by rw[<-e];exact h.fit,λh0=>?_,λk hk=>?_⟩
 ·have h0:i=0:=h0;subst h0;exact h.work rfl
 ·rw[<-e];exact h.rep h0
 ·rw[<-e];exact h.cmd k hk
def la(zz:aM)(s:aC)(i to:Nat):List UInt8:=if i≠0/\to=zz.p i then(bL (zz.at_ i) s).kL else(aZ (zz.at_ i) s to).j4
def Left(zz:aM)(L:List Nt.cj)(Q:Nat->List Nt.cX)(s:aC)(i k:Nat):Prop:=
 ∀x∈L,(Q x.c).map (·.l)=if x.f=(i:Int)/\(k:Int)<=x.t then [la zz s i x.t.toNat]else []
section
variable {zz:aM}{L:List Nt.cj}{Q:Nat->List Nt.cX}{s:aC}{i k:Nat}
theorem lE(z:aM)(s:aC)(j:Nat):∀ (l:List Nat),l.Nodup->(fS z s l).filter (λo=>decide ((o.1:Int)=(j:Int)))=if j∈l then [(j,(aZ z s j).j4)]else []
 | [],_=>by simp[fS]
 | k::l,h=>by
  rw[List.nodup_cons]at h;have M:=lE z s j l h.2;unfold fS at M ⊢;rw[List.map_cons,List.filter_cons,M];by_cases e:k=j
  ·subst e;rw[if_pos (by simp),if_neg h.1,if_pos (by simp)]
  ·rw[if_neg (by simp;omega)];by_cases a5:j∈l
   ·rw[if_pos a5,if_pos (by simp[a5])]
   ·rw[if_neg a5,if_neg (by simp[a5];omega)]
theorem lQ(z:aM):(cg z).Nodup:=List.Pairwise.filter _ List.nodup_range
theorem ot(hl:Nt.dy zz.p zz.n L)(hg:Tr.Good zz.p zz.n){x:Nt.cj}(hx:x∈L)(hf:x.f=(i:Int)):
 ∃to:Nat,x.t=(to:Int)/\to<zz.n/\to≠i/\((i≠0/\to=zz.p i)\/(1<=to/\zz.p to=i/\¬ (i≠0/\to=zz.p i)))/\(ft (zz.at_ i) s).filter (λo=>decide ((o.1:Int)=x.t))=[(to,la zz (eM (zz.at_ i) s) i to)]:=by
 obtain⟨j,h1,h2,a1⟩:=hl.only x hx;have I:=hg j h1 h2;unfold ft l6;rw[List.filter_append];rcases a1 with⟨a1,h4⟩ | ⟨a1,h4⟩
 ·have e:j=i:=(by omega);subst e;refine⟨zz.p j,h4,by omega,by omega,.inl ⟨by omega,rfl⟩,?_⟩;rw[if_neg (show ¬ (zz.at_ j).me=0 from by show ¬j=0;omega),h4,lE _ _ _ _ (lQ _),if_neg (λhm=>by
   have:=Tr.e0.1 hm;have bi:=hg (zz.p j) this.2.1 this.1;have h6:zz.p (zz.p j)=j:=this.2.2;omega)]
  rw[List.filter_cons,if_pos (by show decide ((zz.p j:Int)=(zz.p j:Int))=true;simp)];unfold la;rw[if_pos ⟨by omega,rfl⟩];rfl
 ·have e:zz.p j=i:=(by omega);subst e;have aL:¬ (zz.p j≠0/\j=zz.p (zz.p j)):=by
   rintro⟨bi,h6⟩;have:=hg (zz.p j) (by omega) (by omega);omega
  refine⟨j,h4,h2,by omega,.inr ⟨h1,rfl,aL⟩,?_⟩;rw[h4,lE _ _ _ _ (lQ _),if_pos (show j∈cg (zz.at_ (zz.p j)) from Tr.e0.2 ⟨h2,h1,rfl⟩)];unfold la;rw[if_neg aL];split
  ·rfl
  ·rename_i h0;have h0:¬zz.p j=0:=h0;rw[List.filter_cons,if_neg (by
    have:¬ (zz.p (zz.p j)=j):=λe=>aL ⟨h0,e.symm⟩;simp only[decide_eq_true_eq];show ¬ ((zz.p (zz.p j):Int)=(j:Int));omega)]
   rfl
theorem vi(hl:Nt.dy zz.p zz.n L)(hg:Tr.Good zz.p zz.n)(h:pW L Q i (ft (zz.at_ i) s)):Left zz L Q (eM (zz.at_ i) s) i 0:=λx hx=>by
 rw[h x hx];by_cases hf:x.f=(i:Int)
 ·obtain⟨to,h1,_,_,_,h2⟩:=ot (s:=s) hl hg hx hf;rw[if_pos hf,if_pos ⟨hf,by rw[h1];omega⟩,h2,h1];rfl
 ·rw[if_neg hf,if_neg (λe=>hf e.1)]
theorem tw(hk:∀x∈L,x.f=(i:Int)->x.t≠(k:Int))(h:Left zz L Q s i k):Left zz L Q s i (k+1):=λx hx=>by
 rw[h x hx];by_cases hf:x.f=(i:Int)
 ·have:=hk x hx hf;by_cases h1:(k:Int)<=x.t
  ·rw[if_pos ⟨hf,h1⟩,if_pos ⟨hf,by omega⟩]
  ·rw[if_neg (λe=>h1 e.2),if_neg (λe=>by have:=e.2;omega)]
 ·rw[if_neg (λe=>hf e.1),if_neg (λe=>hf e.1)]
theorem vj{x:Nt.cj}(hf:Nt.Fair L)(ha:∀x∈L,∀y∈L,x.c=y.c->x=y)(hx:x∈L)(h1:x.f=(i:Int))(h2:x.t=(k:Int))(h:Left zz L Q s i k):Left zz L (λc=>if c=x.c then []else Q c) s i (k+1):=λy hy=>by
 simp only;by_cases e:y.c=x.c
 ·obtain rfl:=ha y hy x hx e;rw[if_pos rfl,if_neg (λe=>by have:=e.2;omega)];rfl
 ·rw[if_neg e,h y hy];by_cases I:y.f=(i:Int)
  ·have ay:y.t≠(k:Int):=λa5=>e (by rw[pu hf hy hx (I.trans h1.symm) (a5.trans h2.symm)]);by_cases a1:(k:Int)<=y.t
   ·rw[if_pos ⟨I,a1⟩,if_pos ⟨I,by omega⟩]
   ·rw[if_neg (λe=>a1 e.2),if_neg (λe=>by have:=e.2;omega)]
  ·rw[if_neg (λe=>I e.1),if_neg (λe=>I e.1)]
theorem wD(hl:Nt.dy zz.p zz.n L)(hg:Tr.Good zz.p zz.n)(h:Left zz L Q s i zz.n):∀x∈L,Q x.c=[]:=λx hx=>by
 have:=h x hx;rw[if_neg (λe=>by
  obtain⟨to,h1,h2,_⟩:=ot (s:=s) hl hg hx e.1;have:=e.2;omega)]at this
 exact List.map_eq_nil_iff.1 this
theorem ze(hl:Nt.dy zz.p zz.n L)(_hg:Tr.Good zz.p zz.n)(hi:i<zz.n):∀o∈ft (zz.at_ i) s,∃x∈L,x.f=(i:Int)/\x.t=(o.1:Int):=λo ho=>by
 unfold ft at ho;rcases List.mem_append.1 ho with ho | ho
 ·unfold l6 at ho;split at ho
  ·cases ho
  ·rename_i h0;have h0:¬i=0:=h0;rw[List.mem_singleton.1 ho];exact(hl.all i (by omega) hi).1
 ·unfold fS at ho;obtain⟨j,hj,rfl⟩:=List.mem_map.1 ho;have hj:=Tr.e0.1 hj;have:=(hl.all j hj.2.1 hj.1).2;rw[show zz.p j=i from hj.2.2]at this;exact this
theorem yB(z:aM)(s:aC)(aL:z.n<=6):(ft z s).length<=7:=by
 unfold ft l6 fS cg;have:=Tr.mM z.p z.n z.me;split<;>simp<;>omega
end
theorem sE(zz:aM)(s:aC)(i:Nat)(bs:Nat->aC){to j:Nat}(h:j≠to):dE zz s i bs to j=bs j:=by
 unfold dE put;split
 ·exact if_neg h
 ·split
  ·exact if_neg h
  ·rfl
theorem lf(zz:aM)(s:aC)(i:Nat){j:Nat}:∀ (l:List Nat) (bs:Nat->aC),j ∉ l->(l.foldl (dE zz s i) bs) j=bs j
 | [],_,_=>rfl
 | to::l,bs,h=>by
  rw[List.foldl_cons,lf zz s i l _ (λe=>h (by simp[e])),sE zz s i bs (λe=>h (by simp[e]))]
theorem k8{zz:aM}{s:aC}{i:Nat}:∀ (l:List Nat) (bs:Nat->aC) (k:Nat) (hk:k<l.length),jF zz s i l bs->kT zz s i ((l.take k).foldl (dE zz s i) bs) l[k]
 | [],_,k,h,_=>by simp at h
 | to::l,bs,0,_,hc=>hc.1
 | to::l,bs,k+1,h,hc=>k8 l (dE zz s i bs to) k (by simpa using h) hc.2
theorem qV{z:aM}{s:aC}(hf:Fit z s)(k:Nat):(aZ z s k).j4.length<=1000000:=by
 obtain⟨g1,g2,g3,g4,g5⟩:=hY hf k;have L0:=aG 0 (by omega);have L1:=aG (aZ z s k).bf (by omega);have L2:=aG 2 (by omega);have M0:=dQ (f:=a1) (aZ z s k).entries 16 14000 g3 (λx hx=>cq (g1 x hx));have M1:=dQ (f:=a1) (aZ z s k).aK 16 14000 g4 (λx hx=>cq (g2 x hx));unfold bc.j4;simp only[List.length_append,List.length_nil];omega
theorem sZ{z:aM}{s:aC}(hf:Fit z s)(hs:(b0 s.aF).length+cz (bz z s)<=15)(hg:∀x∈dF z s,x.aH):(bL z s).kL.length<=1000000:=by
 obtain⟨g1,g2,g3,g4⟩:=iN hf hs;have L1:=aG (bL z s).bf (by omega);have L2:=aG 1 (by omega);have M0:=dQ (f:=bD) (bL z s).a5 16 40 g2 (λx hx=>ew (g1 x hx));have M1:=dQ (f:=a1) (bL z s).asks 16 14000 g3 (λx hx=>cq (hg x hx));unfold bc.kL;simp only[List.length_append,List.length_nil];omega
theorem sp{z:aM}{s:aC}(hc:jE z s):∀o∈ft z s,o.2.length<=1000000:=λo ho=>by
 unfold ft at ho;rcases List.mem_append.1 ho with ho | ho
 ·unfold l6 at ho;split at ho
  ·cases ho
  ·rename_i h0;rw[List.mem_singleton.1 ho];exact sZ hc.fit (hc.rep h0).1 (hc.rep h0).2
 ·unfold fS at ho;obtain⟨j,hj,rfl⟩:=List.mem_map.1 ho;exact qV hc.fit j
end
section
open Go.RowKit Go.Shelf
attribute [local go_sem] Oper.semAt_some
def Dt(n j:Nat):List Nat:=((List.range n).drop j).reverse
theorem s8(n k:Nat)(hk:k<n):(Sk.turns n)[k]? =some (n-1-k):=by
 unfold Sk.turns;rw[List.getElem?_append_left (by simpa using hk),List.getElem?_reverse (by simpa using hk),List.length_range,List.getElem?_range (by omega)]
theorem xm(n k:Nat)(hk:k<n):(Sk.turns n)[n+k]? =some k:=by
 unfold Sk.turns;rw[List.getElem?_append_right (by simp)];simp[hk]
theorem hC(n:Nat):(Sk.turns n).length=n+n:=by simp[Sk.turns]
def ta(bx wb n:Nat)(W:World):Prop:=W.cell? (aj bx)=some (.pointer (aj wb))/\∃A c,W.cell? (aj wb)=some (Y A n c)
theorem qu(F:Fence)(d:Nat)(ae:F.fn 94)(ad:F.round=none)(hd:1<=d)(bx wb n:Nat)(aL:1<=n)(au:n<=16)(w:World):
 zx F d Tryz.prog 94 #[aj bx] (λx:Nat=>#[Value.int .i64 (x:Int)]) (Sk.turns n) (ta bx wb n) w:=by
 intro l J W aP hA aA hY h0;have Y:∀k (hk:k<n) W1,J k W1->YieldAt F (d-1) Tryz.prog l #[Value.int .i64 ((n-1-k:Nat):Int)] W1 λe W'=>e=.returned (.bool true)/\J (k+1) W':=λk hk W1 hJ=>by
  have:=hY k (by rw[hC];omega) W1 hJ
  rwa [Option.some.inj ((List.getElem?_eq_getElem (by rw[hC];omega)).symm.trans (s8 n k hk))]at this
 have aa:∀k (hk:k<n) W1,J (n+k) W1->YieldAt F (d-1) Tryz.prog l #[Value.int .i64 ((k:Nat):Int)] W1 λe W'=>e=.returned (.bool true)/\J (n+k+1) W':=λk hk W1 hJ=>by
  have:=hY (n+k) (by rw[hC];omega) W1 hJ
  rwa [Option.some.inj ((List.getElem?_eq_getElem (by rw[hC];omega)).symm.trans (xm n k hk))]at this
 have HY:=fm Y aa aA;obtain⟨r0,A,c,r1⟩:=aA 0 W h0;clear hY Y aa aA hA aP;refine callsIn_of_wp Tryz.func94 rfl ae ?_ ad;simp only[Tryz.ntmps94,List.size_toArray,List.length_cons,List.length_nil,Nat.reduceAdd,Nat.reduceSub,Array.replicate_succ,Array.replicate_zero,List.push_toArray,List.append_toArray,List.nil_append,List.cons_append];have e1:IntKind.i64.wrap ((n:Int)-1)=(n:Int)-1:=IntWalk.i64_in _ (by omega)
 gi_wp2
 gi_loopw [3] (λi wr=>∃k:Nat,k<=n/\i=I af ((n:Int)-1-k)/\J k wr) (λi _=>(intOf i+1).toNat)
 case atStart=>exact⟨0,Nat.zero_le _,by simp,h0⟩
 case round=>
  obtain⟨k,hk,rfl,hJ⟩:=hrel;by_cases bA:k<n
  ·have g:decide ((0:Int)<=(n:Int)-1-k)=true:=decide_eq_true (by omega);have hy:=HY.out.1 k bA wr hJ;rw[show((n-1-k:Nat):Int)=(n:Int)-1-k by omega]at hy;obtain⟨fn,tmps,assign,body,hy,aI⟩:=hy;have a5:IntKind.i64.wrap ((n:Int)-1-k-1)=(n:Int)-1-k-1:=IntWalk.i64_in _ (by omega)
   gi_wp2
   refine aI.mono ?_;rintro e W3 ⟨rfl,M⟩
   gi_wp2
   go_roundw
   case rel=>exact⟨k+1,by omega,by first | (congr 1;omega) | go_num,M⟩
   case measure=>simp[intOf];omega
  ·obtain rfl:k=n:=(by omega);have g:decide ((0:Int)<=(k:Int)-1-k)=false:=decide_eq_false (by omega);obtain⟨r0,A2,c2,r1⟩:=HY.out.2.2 k wr hJ;have ag:J (k+0) wr:=hJ
   gi_wp2
   gi_loopw [24] (λi wr=>∃j:Nat,j<=k/\i=I af j/\J (k+j) wr) (λi _=>k- (intOf i).toNat)
   case atStart=>exact⟨0,Nat.zero_le _,rfl,ag⟩
   case round=>
    obtain⟨j,hj,rfl,hJ⟩:=hrel;by_cases bA:j<k
    ·have bE:(j:Int)<(k:Int):=(by omega);obtain⟨fn,tmps,assign,body,hy,aI⟩:=HY.out.2.1 j bA wr hJ
     gi_wp2
     refine aI.mono ?_;rintro e W3 ⟨rfl,M⟩
     gi_wp2
     go_roundw
     case rel=>exact⟨j+1,by omega,by go_num,M⟩
     case measure=>simp[intOf];omega
    ·obtain rfl:j=k:=by omega
     gi_wp2
     go_end0
     exact⟨⟨_,rfl⟩,by rw[hC];exact hJ⟩
end
section
structure uW (B n:Nat) (a:WA) (W:World):Prop where
 F:∀i,i<n->∀b,a.F i b->b<B\/¬ea W b
 maps:∀i,i<n->(a.br i).mr<B/\(a.br i).mt<B
 bj:∀b,a.bj b->b<B
 L:∀x∈a.L,x.c<B
section
variable {w W W':World}{zz:aM}{bs:Nat->aC}{a a0 a':WA}{Q:Nat->List Nt.cX}{cs:List Nat}{gs:Array Value}{B n:Nat}{row:Option Nat}
theorem bB.zj(h:bB w zz bs a Q cs gs)(B:Nat)(hm:∀i,i<zz.n->(a.br i).mr<B/\(a.br i).mt<B):
 ∃a',bB w zz bs a' Q cs gs/\bR zz.n a w a' w/\(∀i,i<zz.n->∀b,a'.F i b->b<B\/¬ea w b)/\a'.bj=a.bj:=by
 obtain⟨a2,ae⟩:∃a2:WA,a2={a with F:=λi b=>a.F i b/\(b<B\/¬ea w b)}:=⟨_,rfl⟩;have hF:∀i b,a2.F i b->a.F i b:=λi b a7=>by rw[ae]at a7;exact a7.1
 have I:∀i b,a2.F i b↔a.F i b/\(b<B\/¬ea w b):=λi b=>by rw[ae]
 have hL:a2.L=a.L:=by rw[ae]
 have ag:a2.br=a.br:=by rw[ae]
 have e1:a2.wb=a.wb/\a2.qn=a.qn/\a2.Bn=a.Bn/\a2.mb=a.mb/\a2.cb=a.cb/\a2.gb=a.gb/\a2.AP=a.AP/\a2.AH=a.AH/\a2.AD=a.AD/\a2.cD=a.cD:=by rw[ae];exact⟨rfl,rfl,rfl,rfl,rfl,rfl,rfl,rfl,rfl,rfl⟩
 have a5:bS zz a2=bS zz a:=by rw[ae];rfl
 have e3:a2.bj=a.bj:=by rw[ae];rfl
 have live:∀b,a2.live zz.n b->a.live zz.n b:=by
  rintro b (⟨i,hi,a7⟩ | hx)
  ·exact .inl ⟨i,hi,hF i b a7⟩
  ·rw[hL]at hx;exact .inr hx
 clear ae;obtain⟨q1,q2,q3,q4,q5,q6,q7,q8,q9,J⟩:=e1;have g:Goes (a.all zz.n) w (a2.all zz.n) w:=weaken (λb _ a7=>a7.imp (live b) (λe=>by rw[e3]at e;exact e));refine⟨a2,?_,⟨aw.refl _ _,λb _ a7=>live b a7,hL,⟨q1,q2,q3,q4,q5,q6,q9,J⟩,λi=>by rw[ag];exact⟨rfl,rfl,rfl,rfl⟩,⟨q7,q8⟩⟩,λi _ b a7=>((I i b).1 a7).2,e3⟩;refine⟨by rw[q1,a5];exact h.aW,h.ok,h.n6,by rw[q7];exact h.par.goes g,by rw[q8];exact h.homes.goes g,by rw[q9,ag];exact h.fF.goes g,by rw[q4,ag];exact h.map,by rw[q5];exact h.cur,h.cl,by rw[q6];exact h.got,h.gl,λi hi=>?_,λi j hi hj ay b a7 aG=>h.apart i j hi hj ay b (hF i b a7) (hF j b aG),λi hi b a7 x hx=>h.nr i hi b (hF i b a7) x (by rw[<-hL];exact hx),λb a7=>by rw[e3];exact h.fix b (live b a7),by rw[q2,q3,hL];exact h.net,by rw[hL];exact h.eJ,λx hx m aR b off hA=>by
  rw[hL]at hx;exact⟨(h.je x hx m aR b off hA).1,λa7=>(h.je x hx m aR b off hA).2 (live b a7)⟩⟩
 rw[ag];refine(h.br i hi).zj (hF i) (λb a7=>?_) (λb a7=>(I i b).2 ⟨(h.br i hi).own b a7,?_⟩)
 ·by_cases aL:ea w b
  ·exact .inr aL
  ·exact .inl ((I i b).2 ⟨a7,.inr aL⟩)
 ·rcases(h.br i hi).cells b a7 with rfl | rfl | aL
  ·exact .inl (hm i hi).1
  ·exact .inl (hm i hi).2
  ·exact .inr aL
theorem bB.Dy(h:bB w zz bs a Q cs gs):uW w zz.n a w:=
 ⟨λi hi b a7=>.inl (h.lt b (.inl ⟨i,hi,a7⟩)),λi hi=>⟨(h.br i hi).lt _ ((h.br i hi).own _ (.inr (.inl rfl))),(h.br i hi).lt _ ((h.br i hi).own _ (.inr (.inr (.inl rfl))))⟩,h.jn,λx hx=>h.lt x.c (.inr ⟨x,hx,rfl⟩)⟩
theorem bB.x9(h:bB W' zz bs a' Q cs gs)(k:uW B zz.n a W)(f:bR zz.n a W a' W'):∃a2,bB W' zz bs a2 Q cs gs/\uW B zz.n a2 W'/\bR zz.n a W a2 W':=by
 have hm:∀i,i<zz.n->(a'.br i).mr<B/\(a'.br i).mt<B:=λi hi=>by
  rw[(f.maps i).1,(f.maps i).2.1];exact k.maps i hi
 obtain⟨a2,h2,f2,a1,h4⟩:=h.zj B hm;refine⟨a2,h2,⟨a1,λi hi=>?_,λb a7=>?_,λx hx=>?_⟩,f.trans f2⟩
 ·rw[(f2.maps i).1,(f2.maps i).2.1];exact hm i hi
 ·rw[h4]at a7;refine k.bj b ?_;unfold WA.bj at a7 ⊢;rw[f.bj.1,f.bj.2.1,f.bj.2.2.1,f.bj.2.2.2.1,f.bj.2.2.2.2.1,f.bj.2.2.2.2.2.1]at a7;exact a7
 ·rw[f2.L,f.L]at hx;exact k.L x hx
theorem mg{W:World}{b:Nat}(h:∃o,W.heap[b]? =some o/\o.isCells=false):ea W b:=λo ho=>by
 obtain⟨o',h1,h2⟩:=h;rw[h1]at ho;injection ho with ho;rw[<-ho];exact h2
theorem bB.quiet(h:bB W zz bs a (λ_=>[]) cs gs)(k:uW B zz.n a W)(hg:W.grownBy W' row)(hr:∀r,row=some r->B<=r/\∃o:Obj,W.heap[r]? =some o/\o.isCells=false):bB W' zz bs a (λ_=>[]) cs gs/\uW B zz.n a W':=by
 have nb:∀b,row=some b->B<=b/\ea W b:=λb a7=>⟨(hr b a7).1,mg (hr b a7).2⟩;have t:aw (λb=>row=some b) W W':=⟨hg.os,hg.tape,hg.output,hg.size,λb a7 aL=>hg.block b a7 (λe=>aL e.symm)⟩;have hF:∀i,i<zz.n->∀b,a.F i b->¬row=some b:=λi hi b a7 e=>by
  rcases k.F i hi b a7 with h1 | h1
  ·have:=(nb b e).1;omega
  ·exact h1 (nb b e).2
 have hL:∀x∈a.L,¬row=some x.c:=λx hx e=>by have:=k.L x hx;have:=(nb _ e).1;omega
 have hf:∀b,a.bj b->¬row=some b:=λb a7 e=>by have:=k.bj b a7;have:=(nb _ e).1;omega
 have n:jU W (a.all zz.n) (λb=>a.all zz.n b\/row=some b):=λb _ a7=>a7.imp id (λe=>(nb b e).2);have g:Goes (λb=>a.all zz.n b\/row=some b) W (a.all zz.n) W':=⟨t.os,t.tape,t.output,t.size,λb a7 aL=>t.aI b a7 (λe=>aL (.inr e)),λb _ a7=>.inl a7⟩;have aI:∀ {b:Nat} {ty:TypeId} {cs:Array Value},ai W b ty cs->a.bj b->ai W' b ty cs:=λa7 aO=>t.aW a7 (hf _ aO);refine⟨⟨aI h.aW (.inl rfl),h.ok,h.n6,(h.par.dX n).goes g,(h.homes.dX ny n).goes g,(h.fF.dX vq n).goes g,h.map.aI (t.aI _ h.map.lt (hf _ (.inr (.inr (.inr (.inl rfl)))))),aI h.cur (.inr (.inr (.inr (.inr (.inl rfl))))),h.cl,aI h.got (.inr (.inr (.inr (.inr (.inr rfl))))),h.gl,
  λi hi=>(h.br i hi).ba t (hF i hi),h.apart,h.nr,h.fix,h.net.other t (hf _ (.inr (.inl rfl))) (hf _ (.inr (.inr (.inl rfl)))) hL (λx _ m hm=>absurd hm (by simp)),h.eJ,λx _ m hm=>absurd hm (by simp)⟩,
  ⟨λi hi b a7=>?_,k.maps,k.bj,k.L⟩⟩
 rcases k.F i hi b a7 with h1 | h1
 ·exact .inl h1
 ·refine .inr (λaL=>h1 (λo ho=>aL o ?_));rw[t.aI b (Array.getElem?_eq_some_iff.1 ho).1 (hF i hi b a7)];exact ho
theorem bR.quiet(f:bR n a0 w a W)(hB:w.heap.size<=B)(hg:W.grownBy W' row)(hr:∀r,row=some r->B<=r):bR n a0 w a W':=
 ⟨⟨hg.os.trans f.ba.os,hg.tape.trans f.ba.tape,hg.output.trans f.ba.output,Nat.le_trans f.ba.size hg.size,λb a7 aL=>(hg.block b (Nat.lt_of_lt_of_le a7 f.ba.size) (λe=>by have:=hr b e.symm;omega)).trans (f.ba.aI b a7 aL)⟩,f.old,f.L,f.bj,f.maps,f.ap⟩
theorem bR.keeps(f:bR n a W a' W')(k:uW B n a W):KeepsFrom B W W':=
 ⟨f.ba.size,λb o hB ho hc=>(f.ba.aI b (Array.getElem?_eq_some_iff.1 ho).1 (λhl=>by
  rcases hl with⟨i,hi,a7⟩ | ⟨x,hx,rfl⟩
  ·rcases k.F i hi b a7 with h1 | h1
   ·omega
   ·exact h1 (mg ⟨o,ho,hc⟩)
  ·have:=k.L x hx;omega)).trans ho⟩
end
def vz(xs:List Nat)(zz:aM)(bs:Nat->aC)(cs:List Nat)(gs:Array Value)(a0:WA)(w0:World)(k:Nat)(W:World):Prop:=
 ∃a,bB W zz (fJ zz ((Sk.turns zz.n).take k) bs) a (λ_=>[]) cs gs/\uW w0 zz.n a W/\bR zz.n a0 w0 a W/\∀bx∈xs,ai W bx 26 #[aj a0.wb]
theorem xd(xs:List Nat)(zz:aM)(bs:Nat->aC)(cs:List Nat)(gs:Array Value)(a0:WA)(w0:World)(hx:∀bx∈xs,bx<w0.heap.size):OwnFrom w0 (vz xs zz bs cs gs a0 w0):=by
 rintro k W W' row ⟨a,h,hk,f,a7⟩ hg hr;obtain⟨h1,h2⟩:=h.quiet hk hg hr;exact⟨a,h1,h2,f.quiet (Nat.le_refl _) hg (λr e=>(hr r e).1),λbx hm=>(hg.block bx (a7 bx hm).lt (λe=>by have:=(hr bx e.symm).1;have:=hx bx hm;omega)).trans (a7 bx hm)⟩
theorem z5{xs:List Nat}{bx:Nat}(hm:bx∈xs){zz:aM}{bs:Nat->aC}{cs:List Nat}{gs:Array Value}{a0:WA}{w0 W:World}{k:Nat}(h:vz xs zz bs cs gs a0 w0 k W):ta bx a0.wb zz.n W:=by
 obtain⟨a,h1,_,f,a7⟩:=h;have hB:=h1.aW;unfold bS at hB;rw[f.bj.1]at hB;exact⟨(a7 bx hm).cell 0,_,_,hB.cell 0⟩
theorem kO{zz:aM}:∀ (l:List Nat) (bs:Nat->aC) (k:Nat) (hk:k<l.length),fz zz l bs->(∀j,j<zz.n->Fit (zz.at_ j) (fJ zz (l.take k) bs j))/\ij zz (fJ zz (l.take k) bs) l[k]
 | [],_,k,h,_=>by simp at h
 | i::l,bs,0,_,hc=>⟨hc.1,hc.2.1⟩
 | i::l,bs,k+1,h,hc=>kO l (g4 zz bs i) k (by simpa using h) hc.2.2
theorem rF(zz:aM)(l:List Nat)(bs:Nat->aC)(k:Nat)(hk:k<l.length):fJ zz (l.take (k+1)) bs=g4 zz (fJ zz (l.take k) bs) l[k]:=by
 unfold fJ;rw[List.take_succ_eq_append_getElem hk,List.foldl_append];rfl
end
end Go.Proofs.YtgblliofomgggaaGreat
