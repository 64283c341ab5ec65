import Derived.Laws.EntriesVeiled
import Derived.Test.YtgblliofomgggaaGreatM01
import Derived.Test.YtgblliofomgggaaGreatM05
import Derived.Test.YtgblliofomgggaaGreatM14
import Derived.Test.YtgblliofomgggaaGreatM13
namespace Go.Proofs.YtgblliofomgggaaGreat
set_option maxRecDepth 100000
set_option maxHeartbeats 4000000
open Go.RowKit a7 bA
open Go.IntKind renaming i64 -> af,u64 -> ak
open Go.Value renaming int -> I,slice -> Y,pointer -> aL,agg -> aE
theorem w4(a b:Int):(Program.built Tryz.prog 192 [(0,I af a),(1,I ak b),(2,aa)]).map Array.toList=some [I af a,I ak b,aa]:=by kernel_rfl
theorem o2(a b:Int)(w:World):(Instr.build 192 #[(0,I af a),(1,I ak b),(2,aa)]).run Tryz.prog w=.ok (cO a b) w:=by
 obtain⟨cs,h1,h2⟩:=Option.map_eq_some_iff.1 (w4 a b);rw[run_build w 192 _ cs h1];rw[show cs=#[I af a,I ak b,aa] from Array.toList_inj.1 h2]
theorem mI{P:Program}{w:World}{ops:Array Oper}{rest:List Oper}{o:Oper}{a:Act}{Q:Exit->Act->World->Prop}(ae:o.guard=none)(s x:Operand)(t:TypeId)
 (ho:o.op=.call {callee:=.builtin .append,args:=#[s,x],argTypes:=#[t,t]})
 (base k:Nat) (e:TypeId) (i:TypeInfo) (ht:P.underlying t=some (.slice e)) (hi:P.info? e=some i)
 (v:Value) (n:Nat) (xs:List Value) (hs:a.eval s=v) (J:w.ownsRow base e k v n xs) (c:Nat) (hx:a.eval x=Y none 0 c)
 (h:wpList P ops Q rest (a.put o.dst v) w):wpList P ops Q (o::rest) a w:=by
 refine wpList_plain ae λK ad=>?_;have aa:=dw (P:=P) w base k t o.type e i ht hi v n xs J c;unfold Oper.wp execOp;simp only[ho,resolve,invoke,builtin,Sem.run_bind,Sem.run_pure,Result.andThen_ok,List.map_toArray,List.map_cons,List.map_nil,hs,hx,aa];exact ad _ _ h
theorem iC(K cb:Nat)(S:Nat->Prop)(A:Option Addr)(n c:Nat)(l:List dY)(w:World)(ad:Real K)(aL:n=l.length)(hm:n<=1000)(h:SliceAt du w S A l)
 (hf:∀x∈l,∀ (w':World),Below w w w'->Calls Tryz.prog K #[cO x.ah x.sub,aj cb] w' λe w''=>e=.returned (.bool false)/\Below w' w' w''):
 Calls Tryz.prog 105 #[Y A n c,.func (.func K) #[] #[aj cb]] w λe w'=>e=.returned aa/\Below w w w':=by
 have HN:=Lib.hid aL;have HF:=Lib.hid hf;have bZ:∀ (args:Array Value) (w:World),(callFunc K args).run Tryz.prog w=.ok (.enter K args) w:=ad;clear aL hf;go_enter Tryz.func105,Tryz.ntmps105;go_wp2_with fail
 try go_step3
 try go_wp2_with fail
 go_loopw [5,10] (λv_ i_ wr=>∃i:Nat,i_=I af i/\i<=n/\v_=aa/\Below w w wr) (λ_ i _=>n- (intOf i).toNat)
 case atStart=>exact⟨0,rfl,by omega,rfl,.refl _ _⟩
 case round=>
  obtain⟨i,rfl,hi,rfl,a7⟩:=hrel;by_cases bA:i<n
  ·have bu:i<l.length:=(by have:=HN.out;omega);have bE:(i:Int)<(n:Int):=(by omega);obtain⟨b,off,u,rfl,bV,b8,bx,hcell,hu⟩:=(h.below a7).at_ bu (by decide);have aR:u=[I af l[i].ah,I ak l[i].sub,aa]:=hu;rw[aR]at hcell;have d0:wr.cell? ⟨b,off+i*3,none⟩=some (I af l[i].ah):=hcell 0 _ rfl;have d1:wr.cell? ⟨b,off+i*3+1,none⟩=some (I ak l[i].sub):=hcell 1 _ rfl;have d2:wr.cell? ⟨b,off+i*3+2,none⟩=some aa:=hcell 2 _ rfl;obtain⟨x,hx⟩:=am (l[i]);obtain⟨w1,aN⟩:=am (wr.alloc (.cells (cO x.ah x.sub) 192));have b1:=aV aN;have a6:=a7.trans (b1.mono a7.size);have bc:=HF.out x (by rw[hx];exact List.getElem_mem bu) w1 a6;rw[<-hx]at d0 d1;clear hcell bx hu aR hx;go_wp2_with fail;rw[<-aN];clear aN;refine bc.mono ?_;clear bc;rintro e w2 ⟨rfl,b2⟩;go_wp2
   go_round
   case rel=>exact⟨i+1,by go_num,by omega,rfl,a6.trans (b2.mono a6.size)⟩
   case measure=>simp[intOf];omega
  ·obtain rfl:i=n:=(by omega);go_wp2
   try rw[Exit.noGoto_ret]
   go_ret;exact⟨rfl,a7⟩
theorem mV(AS A:Option Addr)(c2 c:Nat)(x:ae)(w:World)(hk:x.kind=2):
 Calls Tryz.prog 63 #[Y AS 0 c2,a3 x A c] w λe w'=>∃v,e=.returned v/\aD du 192 w' w (λb=>b<w.heap.size) v [⟨x.ah,x.sub⟩]/\Below w w w':=by
 obtain⟨i0,z0,bM,bL,bB,bJ,bR⟩:=aS Tryz.nM;obtain⟨w0,ar⟩:=am (w.alloc (.cells (a3 x A c) 132));have bD:ai w0 w 132 (a3 x A c):=by rw[ar];exact ai.made _ _ _
 have aU:=aV ar;obtain⟨xb,a0⟩:=am w.heap.size;rw[<-a0]at bD;have bj:=Lib.hid a0;clear a0;have g1:((x.kind:Int) !=2)=false:=by rw[bne_eq_false_iff_eq];omega
 have g2:((x.kind:Int)==2)=true:=by rw[beq_iff_eq];omega
 obtain⟨w1,aN⟩:=am (w0.alloc (.cells #[.func (.func 115) #[] #[aj xb]] 201));have b1:=aV aN;have aC:w0.heap.size=w.heap.size+1:=by rw[ar];simp
 obtain⟨fb,aO⟩:=am (w.heap.size+1);have aq:=Lib.hid aO;have k1:=iC 119 fb (λ_=>False) AS 0 c2 [] w1 rG rfl (by omega) (SliceAt.nil _ _ _ _) (λs hs=>by cases hs);have bF:=λw=>o2 x.ah x.sub w;have a6:=aU.trans (b1.mono aU.size);have aB:=bD.below b1 bD.lt;rw[ar,bj.out]at aN;clear hk aO aC ar;go_enter Tryz.func63,Tryz.ntmps63;go_wp2_with fail;rw[<-aN,<-aq.out,<-bj.out];clear aN;refine k1.mono ?_;clear k1;rintro e w2 ⟨rfl,b2⟩;have bo:=a6.trans (b2.mono a6.size);have aA:=aB.below b2 aB.lt;obtain⟨y0,y1,y2,bb,y4,y5,y6,y7⟩:=aA.c8;simp at y0 y1 y2 bb y4 y5 y6 y7;have bC:=(Below.refl w2 w2).alloc (Nat.le_refl _) (.cells (cO x.ah x.sub) 192);go_wp2_with (at_builtin;refine a9 _ rfl (.tmp 25) (.tmp 33) 143 rfl du w2 192 i0 z0 40 Tryz.underlying143 bM bL bJ bR bB (by decide) (λb=>b<w2.heap.size) aa [] rfl (aD.nil _ _ _ _ _) (aj w2) 1 (cO x.ah x.sub) ⟨x.ah,x.sub⟩ rfl (Src.made w2 _ _) rfl (by unfold maxLen;simp) (by simp) (by simp) ?_;intro A6 bX w8 O8 cz gr bf);simp only[List.length_nil,Nat.zero_add,List.nil_append]at O8;obtain⟨g,cur,rfl,cA,J,hcs,aT⟩:=O8.block (by decide);clear cA J hcs aT;have af:Below w2 w2 w8:=bC.grown gr (by simp) (λk hk=>by cases hk);have ad:=bo.trans (af.mono bo.size);have k2:=iC 120 fb (λ_=>False) AS 0 c2 [] w8 sw rfl (by omega) (SliceAt.nil _ _ _ _) (λs hs=>by cases hs);refine k2.mono ?_;clear k2;rintro e w9 ⟨rfl,b9⟩;have O9:=O8.below b9;have M:=o4 w2 _ (aj g) 1 bX _ w9 rfl (by omega) O9;obtain⟨us,h1,h2,a1⟩:=O9;clear h2 a1;go_wp2_with (at_builtin;refine mI rfl (.tmp 35) (.tmp 38) 143 rfl _ _ 192 i0 Tryz.underlying143 bM _ _ _ rfl h1 0 rfl ?_);refine M.mono ?_;clear M;rintro e bs ⟨rfl,I⟩;go_wp2;go_ret;have bW:=ad.trans (b9.mono ad.size);exact⟨_,rfl,(((O8.below b9).below I).mono bo.size).weak (λb a7=>Nat.lt_of_lt_of_le a7 bo.size),bW.trans (I.mono bW.size)⟩
theorem kq(AS A:Option Addr)(c2 c:Nat)(x:ae)(w:World)(hk:x.kind=3)(S:Nat->Prop)(bm:SliceAt du w S AS [⟨x.ah,x.sub⟩]):
 Calls Tryz.prog 63 #[Y AS 1 c2,a3 x A c] w λe w'=>∃v,e=.returned v/\aD du 192 w' w (λb=>b<w.heap.size) v []/\Below w w w':=by
 obtain⟨i0,z0,bM,bL,bB,bJ,bR⟩:=aS Tryz.nM;obtain⟨w0,ar⟩:=am (w.alloc (.cells (a3 x A c) 132));have bD:ai w0 w 132 (a3 x A c):=by rw[ar];exact ai.made _ _ _
 have aU:=aV ar;obtain⟨xb,a0⟩:=am w.heap.size;rw[<-a0]at bD;have bj:=Lib.hid a0;clear a0;have g1:((x.kind:Int) !=2)=true:=by rw[bne_iff_ne];omega
 have g3:((x.kind:Int) !=3)=false:=by rw[bne_eq_false_iff_eq];omega
 have g2:((x.kind:Int)==2)=false:=by rw[beq_eq_false_iff_ne];omega
 obtain⟨w1,aN⟩:=am (w0.alloc (.cells #[.func (.func 115) #[] #[aj xb]] 201));have b1:=aV aN;have aC:w0.heap.size=w.heap.size+1:=by rw[ar];simp
 obtain⟨fb,aO⟩:=am (w.heap.size+1);have aq:=Lib.hid aO;have aa:=aU.trans (b1.mono aU.size);have J:ai w1 fb 201 #[.func (.func 115) #[] #[aj xb]]:=by rw[aO,<-aC,aN];exact ai.made _ _ _
 have k1:=iC 119 fb S AS 1 c2 [⟨x.ah,x.sub⟩] w1 rG rfl (by omega) (bm.below aa) (λs hs w' a7=>by obtain rfl:s=⟨x.ah,x.sub⟩:=(by simpa using hs);exact y8 _ x A c xb fb w' ((bD.below b1 bD.lt).below a7 (bD.below b1 bD.lt).lt) (by have:=(J.below a7 J.lt).cell 0;simpa using this) rfl rfl);have bF:=λw=>o2 x.ah x.sub w;have a6:=aU.trans (b1.mono aU.size);have aB:=bD.below b1 bD.lt;rw[ar,bj.out]at aN;clear hk aO aC ar;go_enter Tryz.func63,Tryz.ntmps63;go_wp2_with fail;rw[<-aN,<-aq.out,<-bj.out];clear aN;refine k1.mono ?_;clear k1;rintro e w2 ⟨rfl,b2⟩;have bo:=a6.trans (b2.mono a6.size);have aA:=aB.below b2 aB.lt;obtain⟨y0,y1,y2,bb,y4,y5,y6,y7⟩:=aA.c8;simp at y0 y1 y2 bb y4 y5 y6 y7;have I:=J.below b2 J.lt;have k2:=iC 120 fb S AS 1 c2 [⟨x.ah,x.sub⟩] w2 sw rfl (by omega) (bm.below bo) (λs hs w' a7=>by obtain rfl:s=⟨x.ah,x.sub⟩:=(by simpa using hs);exact At _ x A c xb fb w' (aA.below a7 aA.lt) (by have:=(I.below a7 I.lt).cell 0;simpa using this) rfl rfl);clear bm;go_wp2_with fail;refine k2.mono ?_;clear k2;rintro e w3 ⟨rfl,b3⟩;have br:=bo.trans (b3.mono bo.size);have M:=o4 w (λb=>b<w.heap.size) none 0 0 [] w3 rfl (by omega) (aD.nil _ _ _ _ _);go_wp2_with fail;refine M.mono ?_;clear M;rintro e w4 ⟨rfl,bK⟩;go_wp2;go_ret;exact⟨_,rfl,aD.nil _ _ _ _ _,br.trans (bK.mono br.size)⟩
def dR(l:List dY)(x:ae):List dY:=if x.kind=2 then [⟨x.ah,x.sub⟩]else if x.kind=3 then []else l
def bQ(l:List ae):List dY:=l.foldl dR []
def mQ(l:List ae):Prop:=∀ (i:Nat) (h:i<l.length),(l[i].kind=2->bQ (l.take i)=[])/\(l[i].kind=3->bQ (l.take i)=[⟨l[i].ah,l[i].sub⟩])
theorem lj(l:List ae):(bQ l).length<=1:=by
 unfold bQ
 suffices h:∀ (l:List ae) (a:List dY),a.length<=1->(l.foldl dR a).length<=1 from h l [] (by simp)
 intro l
 induction l with
 | nil=>intro a ha;exact ha
 | cons x l M=>
  intro a ha;rw[List.foldl_cons];apply M;unfold dR;split
  ·simp
  ·split
   ·simp
   ·exact ha
theorem jt(l:List ae)(i:Nat)(h:i<l.length):bQ (l.take (i+1))=dR (bQ (l.take i)) l[i]:=by
 unfold bQ;rw[List.take_succ_eq_append_getElem h,List.foldl_append];rfl
def bn(list acc:List ae)(x:ae):List ae:=if (bd acc x.id || bd list x.id || decide (16<=acc.length))=true then acc else acc++[x]
def fk(list own:List ae)(bU:List bc):List ae:=bU.foldl (λacc m=>m.asks.foldl (bn list) acc) (own.foldl (bn list) [])
structure aM where
 me:Nat
 n:Nat
 p:Nat->Nat
 homes:List Nat
 g:Nat
 room:Nat
structure aC where
 list:List ae
 ay:List ae
 aF:List ct
 calls:Nat
 bU:Nat->Option bc
 waits:List ae
 recs:List bG
def aC.rep(s:aC)(k:Nat):bc:=(s.bU k).getD bc.zero
def cg(z:aM):List Nat:=Tr.kids z.p z.n z.me
def bz(z:aM)(s:aC):List bc:=(cg z).map s.rep
def dF(z:aM)(s:aC):List ae:=fk s.list (b0 s.aF) (bz z s)
def bL(z:aM)(s:aC):bc:=⟨1,s.list.length,dM s.ay (bz z s),dF z s,[],[]⟩
def bw(z:aM)(bF:Nat):List Nat:=(List.range z.homes.length).filter λc=>Tr.fE z.p bF (z.homes.getD c 0)
def gQ(s:aC)(bF:Nat):Nat:=min (s.rep bF).bf s.list.length
def gR(z:aM)(s:aC):List ae:=if z.me=0 then s.waits else s.ay
def aZ(z:aM)(s:aC)(bF:Nat):bc:=
 ⟨2,gQ s bF,[],[],(eU s.list (gQ s bF)).mapIdx λi x=>dI (bQ (s.list.take (gQ s bF+i))) (bw z bF) x,((gR z s).take 16).map (dI (bQ s.list) (bw z bF))⟩
def aC.bP(s:aC)(x:ae):aC:={s with list:=s.list++[x],ay:=s.ay.filter (λy=> !decide (y.id=x.id)),aF:=iu s.aF x.id,recs:=s.recs++[.entry s.list.length x]}
def aC.dd(s:aC)(x:ae):aC:={s with ay:=s.ay++[x],recs:=s.recs++[.promise x]}
def gP(z:aM)(s:aC):List ae:=(fe s.list s.waits (dF z s)).1
def hb(z:aM)(s:aC):List ae:=(fe s.list s.waits (dF z s)).2
def hd(z:aM)(s:aC):aC:=
 {((gP z s).filter λx=>b9 (bz z s) x.id).foldl aC.bP ((hb z s).foldl aC.bP s)with waits:=(gP z s).filter λx=> !b9 (bz z s) x.id}
def cw(s:aC)(h:Nat)(x:ae):aC:=if h=s.list.length then s.bP x else s
def cn(s:aC)(h:Nat):List ae->aC
 | []=>s
 | x::l=>cn (cw s h x) (h+1) l
def iB(m:bc)(s:aC):aC:=
 let s1:=cn s m.bf m.entries
 (dP s1.list s1.ay m.aK).foldl aC.dd s1
def aC.told(s:aC)(k:Nat)(m:bc):aC:={s with bU:=λj=>if j=k then some m else s.bU j}
structure ch (z:aM) (x:ae):Prop where
 aH:x.aH
 small:x.enc.length+70<=z.g
structure jh (z:aM) (s:aC) (x:ae):Prop where
 no:bd s.list x.id=false
 room:(s.recs.length+1)*z.g<=z.room
 sub:mQ (s.list++[x])
 long:s.list.length<=50
structure rZ (z:aM) (s:aC) (x:ae):Prop where
 no:bd s.list x.id=false
 CZ:bd s.ay x.id=false
 room:(s.recs.length+1)*z.g<=z.room
 one:s.ay=[]
def gU(z:aM)(s:aC):List ae->Prop
 | []=>True
 | x::l=>jh z s x/\gU z (s.bP x) l
structure Fit (z:aM) (s:aC):Prop where
 list:∀x∈s.list,ch z x
 ay:∀x∈s.ay,ch z x
 aF:∀t∈s.aF,ch z t.entry
 waits:∀x∈s.waits,ch z x
 bU:∀k m,s.bU k=some m->(∀x∈m.asks,ch z x)/\m.a5.length<=16/\m.asks.length<=16
 lX:mQ s.list
 l1:s.list.length<=60
 l2:s.ay.length<=1
 l3:s.aF.length<=8
 l4:s.waits.length<=4
 run:a4.zero.e6 s.recs/\a4.zero.run s.recs=⟨1,s.list,s.ay⟩
 enc:∀r∈s.recs,r.enc.length+40<=z.g/\0<r.enc.length/\r.enc.length<=4000
section
def eS(w:World)(S:Nat->Prop)(A:Option Addr)(n:Nat)(p:Nat->Nat):Prop:=Tr.c6 w w A n p/\∀b off,A=some ⟨b,off,none⟩->¬S b
theorem eS.goes{w w':World}{S S':Nat->Prop}{A:Option Addr}{n:Nat}{p:Nat->Nat}(h:eS w S A n p)(g:Goes S w S' w'):eS w' S' A n p:=by
 obtain⟨⟨h1,h2,a1,b,off,hA,a7,hc,hk⟩,hs⟩:=h;have aL:=hs b off hA;refine⟨⟨h1,h2,a1,b,off,hA,Nat.lt_of_lt_of_le a7 g.size,g.cell (a:=⟨b,off,none⟩) aL hc,λk i j=>g.cell (a:=⟨b,off+k,none⟩) aL (hk k i j)⟩,λb' aq e=>?_⟩;rw[hA]at e;injection e with e;injection e with e;subst e;exact λe=>aL (g.only b a7 e)
structure b4 where
 bb:Nat
 mr:Nat
 mt:Nat
 L:cc
def b4.mut(a:b4):Nat->Prop:=λb=>b=a.bb\/b=a.mr\/b=a.mt\/a.L.bE b
def bO(F:Nat->Prop)(a:b4):Nat->Prop:=λb=>¬F b\/a.mut b
structure yl where
 AP:Option Addr
 cP:Nat
 AH:Option Addr
 cH:Nat
 AL:Option Addr
 cL:Nat
 AQ:Option Addr
 cQ:Nat
 AT:Option Addr
 cT:Nat
 AW:Option Addr
 cW:Nat
def bi(z:aM)(s:aC)(a:b4)(v:yl):List Value:=
 [I af z.me,Y v.AP z.n v.cP,Y v.AH z.homes.length v.cH,.pointer (aj a.L.g),I ak 1,Y v.AL s.list.length v.cL,Y v.AQ s.ay.length v.cQ,aa,Y v.AT s.aF.length v.cT,I ak s.calls,.map (some a.mr),aa,.map (some a.mt),Y v.AW s.waits.length v.cW]
structure oG (w:World) (S:Nat->Prop) (z:aM) (s:aC) (v:yl):Prop where
 par:eS w S v.AP z.n z.p
 homes:SliceAt b5 w S v.AH z.homes
 list:SliceAt aB w S v.AL s.list
 cap:s.list.length<=v.cL
 prom:SliceAt aB w S v.AQ s.ay
 aF:SliceAt bg w S v.AT s.aF
 waits:SliceAt aB w S v.AW s.waits
 mX:s.ay.length<=v.cQ
 nx:s.waits.length<=v.cW
structure gz (w:World) (S:Nat->Prop) (mr:Nat) (bU:Nat->Option bc):Prop where
 ex:∃f,dh w mr f/\∀k:Nat,(bU k=none->f k=none)/\∀m,bU k=some m->∃a,f k=some (aE (m.cellsOf a).toArray)/\cI w S m a
structure y0 (a:b4):Prop where
 b1:a.bb≠a.mr
 b2:a.bb≠a.mt
 b3:¬a.L.bE a.bb
 m1:a.mr≠a.mt
 m2:¬a.L.bE a.mr
 m3:¬a.L.bE a.mt
structure bk (w:World) (F:Nat->Prop) (z:aM) (s:aC) (a:b4):Prop where
 ex:∃v,ai w a.bb 130 (bi z s a v).toArray/\oG w (bO F a) z s v
 bU:gz w (bO F a) a.mr s.bU
 told:w.heap[a.mt]? =some (.map #[] 0)
 log:b8 w (bO F a) a.L (s.recs.map bG.enc) ((s.recs.map bG.enc).map Fr.wrap).flatten.length z.room
 apart:y0 a
 own:∀b,a.mut b->F b
 lt:∀b,F b->b<w.heap.size
section
variable {w w':World}{F F' G:Nat->Prop}{z:aM}{s:aC}{a:b4}{S S':Nat->Prop}{v:yl}{mr:Nat}{bU:Nat->Option bc}
theorem oG.goes(h:oG w S z s v)(g:Goes S w S' w'):oG w' S' z s v:=
 ⟨h.par.goes g,h.homes.goes g,h.list.goes g,h.cap,h.prom.goes g,h.aF.goes g,h.waits.goes g,h.mX,h.nx⟩
theorem gz.goes(h:gz w S mr bU)(g:Goes S w S' w')(a7:w'.heap[mr]? =w.heap[mr]?):gz w' S' mr bU:=by
 obtain⟨f,hm,hf⟩:=h.ex;refine⟨f,hm.aI a7,λk=>⟨(hf k).1,λm hk=>?_⟩⟩;obtain⟨a,h1,h2⟩:=(hf k).2 m hk;exact⟨a,h1,h2.goes g⟩
theorem gz.lt(h:gz w S mr bU):mr<w.heap.size:=by
 obtain⟨f,hm,hf⟩:=h.ex;exact hm.lt
theorem weaken{w:World}{S S':Nat->Prop}(hs:∀b,b<w.heap.size->S' b->S b):Goes S w S' w:=⟨rfl,rfl,rfl,Nat.le_refl _,λ_ _ _=>rfl,hs⟩
theorem aD.cJ{α:Type}{r:dD α}{e:TypeId}{base:Nat}{u:Value}{l:List α}(h:aD r e w base S u l)(hs:∀b,b<w.heap.size->S' b->S b):aD r e w base S' u l:=by
 obtain⟨us,h1,h2,a1⟩:=h;refine⟨us,h1,h2,λi u' x hu hx=>r.goes (a1 i u' x hu hx) (weaken λb a7 hp=>?_)⟩;rcases hp with hp | hp
 ·exact .inl (hs b a7 hp)
 ·exact .inr hp
theorem b8.cJ{L:cc}{recs:List (List UInt8)}{last room:Nat}(h:b8 w S L recs last room)(hs:∀b,b<w.heap.size->S' b->S b)(aY:∀b,L.bE b->S' b):b8 w S' L recs last room:=by
 obtain⟨u,h1,h2,a1⟩:=h.ex;exact⟨⟨u,h1,h2,a1.cJ hs⟩,h.eN,h.small,aY⟩
theorem b8.ba{L:cc}{recs:List (List UInt8)}{last room:Nat}(h:b8 w S L recs last room)(t:aw G w w')(hG:∀b,b<w.heap.size->G b->S b)(aL:∀b,L.bE b->¬G b)(hs:∀b,b<w.heap.size->S' b->S b)(aY:∀b,L.bE b->S' b):b8 w' S' L recs last room:=by
 have g:Goes S w S' w':=⟨t.os,t.tape,t.output,t.size,λb a7 aL=>t.aI b a7 (λe=>aL (hG b a7 e)),hs⟩;obtain⟨u,h1,h2,a1⟩:=h.ex;have gf:Goes G w G w':=Goes.mk t.os t.tape t.output t.size t.aI (λ_ _ h=>h);refine⟨⟨u,t.aW h1 (aL _ (.inl rfl)),h2,?_⟩,cF h.eN gf (aL _ (.inr (.inl rfl))) (λb a7=>aL b (.inr (.inr (.inr a7)))),h.small,aY⟩;obtain⟨us,k1,k2,k3⟩:=a1;refine⟨us,?_,k2,λi u' x hu hx=>cf.goes (k3 i u' x hu hx) ⟨t.os,t.tape,t.output,t.size,λb a7 hp=>t.aI b a7 (λe=>hp (.inl (hG b a7 e))),λb a7 hp=>?_⟩⟩
 ·refine⟨k1.1,?_⟩;rcases k1.2 with ad | ⟨b,cap,cur,hv,hg,hh,rest⟩
  ·exact .inl ad
  ·exact .inr ⟨b,cap,cur,hv,hg,(t.aI b (Array.getElem?_eq_some_iff.1 hh).1 (aL b (.inr (.inr (.inl (by rw[h2,hv];rfl)))))).trans hh,rest⟩
 ·rcases hp with hp | hp
  ·exact .inl (hs b a7 hp)
  ·exact .inr hp
theorem bk.ce(h:bk w F z s a):a.bb<w.heap.size:=h.lt _ (h.own _ (.inl rfl))
theorem bk.ba(h:bk w F z s a)(t:aw G w w')(hd:∀b,F b->¬G b):bk w' F z s a:=by
 have g:Goes (bO F a) w (bO F a) w':=⟨t.os,t.tape,t.output,t.size,λb a7 aL=>t.aI b a7 (λe=>aL (.inl (λhF=>hd b hF e))),λ_ _ h=>h⟩;have aI:∀b,a.mut b->w'.heap[b]? =w.heap[b]? :=λb hm=>t.aI b (h.lt b (h.own b hm)) (hd b (h.own b hm));obtain⟨v,h1,h2⟩:=h.ex;have hl:=h.log;exact⟨⟨v,(aI _ (.inl rfl)).trans h1,h2.goes g⟩,h.bU.goes g (aI _ (.inr (.inl rfl))),(aI _ (.inr (.inr (.inl rfl)))).trans h.told,
  hl.ba t (λb _ hG=>.inl (λhF=>hd b hF hG)) (λb a7=>hd b (h.own b (.inr (.inr (.inr a7))))) (λ_ _ h=>h) (λb a7=>hl.sub b a7),h.apart,h.own,λb a7=>Nat.lt_of_lt_of_le (h.lt b a7) t.size⟩
theorem bk.below(h:bk w F z s a)(a7:Below w w w'):bk w' F z s a:=h.ba (aw.ao a7 λ_=>False) (λ_ _ h=>h)
theorem bk.more(h:bk w F z s a)(h1:∀b,F b->F' b)(h2:∀b,F' b->b<w.heap.size):bk w F' z s a:=by
 have hs:∀b,b<w.heap.size->bO F' a b->bO F a b:=λb _ a7=>a7.elim (λh=>.inl (λe=>h (h1 b e))) .inr;obtain⟨v,k1,k2⟩:=h.ex;have hl:=h.log;exact⟨⟨v,k1,k2.goes (weaken hs)⟩,h.bU.goes (weaken hs) rfl,h.told,hl.cJ hs (λb a7=>.inr (.inr (.inr (.inr a7)))),h.apart,λb a7=>h1 b (h.own b a7),h2⟩
theorem bk.new(h:bk w F z s a)(a7:Below w w w'):bk w' (New F w w') z s a:=
 (h.below a7).more (λ_ a7=>.inl a7) (New.lt h.lt a7.size)
theorem bk.Cg{w1:World}(hs:w.heap.size<=w1.heap.size)(h:bk w' (New F w1 w') z s a):bk w' (New F w w') z s a:=
 h.more (λb a7=>a7.elim .inl (λe=>.inr ⟨by omega,e.2⟩)) (λb a7=>a7.elim (λe=>h.lt b (.inl e)) (λe=>e.2))
theorem b8.lt{L:cc}{recs:List (List UInt8)}{last room:Nat}(h:b8 w S L recs last room):∀b,L.bE b->b<w.heap.size:=by
 obtain⟨u,h1,h2,a1⟩:=h.ex;obtain⟨A,c,hr,hq,aQ,_⟩:=h.eN;rintro b (rfl | rfl | e | e)
 ·exact h1.lt
 ·exact hq.lt
 ·rw[h2]at e;exact(a1.lt e).2
 ·rw[hr]at e;exact(aQ.lt b e).2
theorem jv(t:aw G w w')(hG:∀b,b<w.heap.size->G b->bO F a b){a':b4}(ha:∀b,a'.mut b->a.mut b\/w.heap.size<=b):Goes (bO F a) w (bO (New F w w') a') w':=
 ⟨t.os,t.tape,t.output,t.size,λb a7 aL=>t.aI b a7 (λe=>aL (hG b a7 e)),λb a7 hf=>by
  rcases hf with hf | hf
  ·exact .inl (λe=>hf (.inl e))
  ·rcases ha b hf with hf | hf
   ·exact .inr hf
   ·omega⟩
structure aY (w w':World) (F:Nat->Prop) (z:aM) (s':aC) (a a':b4):Prop where
 at_:bk w' (New F w w') z s' a'
 ba:aw a.mut w w'
 bb:a'.bb=a.bb
 news:∀b,a'.mut b->a.mut b\/w.heap.size<=b
 q:a'.L.q=a.L.q/\a'.mr=a.mr/\a'.mt=a.mt
theorem aY.trans{w1 w2:World}{s1 s2:aC}{bg a2:b4}(h:aY w w1 F z s1 a bg)(k:aY w1 w2 (New F w w1) z s2 bg a2):aY w w2 F z s2 a a2:=
 ⟨k.at_.more (λb a7=>by
  rcases a7 with(a7 | a7) | a7
  ·exact .inl a7
  ·exact .inr ⟨a7.1,Nat.lt_of_lt_of_le a7.2 k.ba.size⟩
  ·exact .inr ⟨Nat.le_trans h.ba.size a7.1,a7.2⟩) (λb a7=>by
  rcases a7 with a7 | a7
  ·exact k.at_.lt b (.inl (.inl a7))
  ·exact a7.2),
  h.ba.trans k.ba (λb a7 e=>(h.news b e).elim id (λe=>by omega)),k.bb.trans h.bb,λb a7=>(k.news b a7).elim (λe=>h.news b e) (λe=>.inr (Nat.le_trans h.ba.size e)),⟨k.q.1.trans h.q.1,k.q.2.1.trans h.q.2.1,k.q.2.2.trans h.q.2.2⟩⟩
theorem aY.below(h:bk w F z s a)(a7:Below w w w'):aY w w' F z s a a:=
 ⟨h.new a7,aw.ao a7 _,rfl,λ_ a7=>.inl a7,⟨rfl,rfl,rfl⟩⟩
theorem aY.from{w1 w2:World}{s2:aC}{a2:b4}(a7:Below w w w1)(k:aY w1 w2 F z s2 a a2):aY w w2 F z s2 a a2:=
 ⟨k.at_.Cg a7.size,(aw.ao a7 _).trans k.ba (λ_ _ e=>e),k.bb,λb aG=>(k.news b aG).imp id (λe=>Nat.le_trans a7.size e),k.q⟩
theorem aY.lN{w1 w2:World}{s1:aC}{bg:b4}(h:aY w w1 F z s1 a bg)(a7:Below w1 w1 w2):aY w w2 F z s1 a bg:=h.trans (aY.below h.at_ a7)
structure eK (w wr:World) (F Fr:Nat->Prop) (z:aM) (s:aC) (a ar:b4):Prop where
 at_:bk wr Fr z s ar
 up:∀b,F b->Fr b
 dn:∀b,Fr b->New F w wr b
 ba:aw a.mut w wr
 bb:ar.bb=a.bb
 news:∀b,ar.mut b->a.mut b\/w.heap.size<=b
 q:ar.L.q=a.L.q/\ar.mr=a.mr/\ar.mt=a.mt
theorem eK.yV{w1:World}{s1:aC}{bg:b4}(h:aY w w1 F z s1 a bg):eK w w1 F (New F w w1) z s1 a bg:=⟨h.at_,λ_ a7=>.inl a7,λ_ a7=>a7,h.ba,h.bb,h.news,h.q⟩
theorem eK.below{w1 w2:World}{Fr:Nat->Prop}{s1:aC}{bg:b4}(h:eK w w1 F Fr z s1 a bg)(a7:Below w1 w1 w2):eK w w2 F Fr z s1 a bg:=
 ⟨h.at_.below a7,h.up,λb hf=>(h.dn b hf).imp id (λe=>⟨e.1,Nat.lt_of_lt_of_le e.2 a7.size⟩),h.ba.trans (aw.ao a7 λ_=>False) (λ_ _ h=>h.elim),h.bb,h.news,h.q⟩
theorem eK.step{w1 w2:World}{Fr:Nat->Prop}{s1 s2:aC}{bg a2:b4}(h:eK w w1 F Fr z s1 a bg)(k:aY w1 w2 Fr z s2 bg a2):eK w w2 F (New Fr w1 w2) z s2 a a2:=
 ⟨k.at_,λb a7=>.inl (h.up b a7),λb hf=>hf.elim (λe=>(h.dn b e).imp id (λe=>⟨e.1,Nat.lt_of_lt_of_le e.2 k.ba.size⟩)) (λe=>.inr ⟨Nat.le_trans h.ba.size e.1,e.2⟩),
  h.ba.trans k.ba (λb a7 e=>(h.news b e).elim id (λe=>by omega)),k.bb.trans h.bb,λb a7=>(k.news b a7).elim (λe=>h.news b e) (λe=>.inr (Nat.le_trans h.ba.size e)),⟨k.q.1.trans h.q.1,k.q.2.1.trans h.q.2.1,k.q.2.2.trans h.q.2.2⟩⟩
theorem eK.grown{w1 w2:World}{Fr G:Nat->Prop}{s1:aC}{bg:b4}(h:eK w w1 F Fr z s1 a bg)(t:aw G w1 w2)(hd:∀b,Fr b->¬G b)(hG:∀b,G b->w.heap.size<=b):eK w w2 F Fr z s1 a bg:=
 ⟨h.at_.ba t hd,h.up,λb hf=>(h.dn b hf).imp id (λe=>⟨e.1,Nat.lt_of_lt_of_le e.2 t.size⟩),h.ba.trans t (λb a7 e=>by have:=hG b e;omega),h.bb,h.news,h.q⟩
theorem eK.done{w1:World}{Fr:Nat->Prop}{s1:aC}{bg:b4}(h:eK w w1 F Fr z s1 a bg)(hF:∀b,F b->b<w.heap.size):aY w w1 F z s1 a bg:=
 ⟨h.at_.more h.dn (New.lt hF h.ba.size),h.ba,h.bb,h.news,h.q⟩
theorem aY.Cb(h:bk w F z s a){w1:World}{s1:aC}{bg:b4}(k:aY w w1 F z s1 a bg):aw F w w1:=k.ba.wide (λb _ e=>h.own b e)
theorem bk.put(h:bk w F z s a){w1 w2:World}(b1:Below w w w1)(i:Nat)(u:Value)(a8:w2=w1.setCell ⟨a.bb,i,none⟩ u){s':aC}{v':yl}(hB:ai w2 a.bb 130 (bi z s' a v').toArray)
 (hD:Goes (bO F a) w (bO (New F w w2) a) w2->oG w2 (bO (New F w w2) a) z s' v') (hr:s'.bU=s.bU) (J:s'.recs=s.recs):aY w w2 F z s' a a:=by
 have t2:aw (λb=>b=a.bb) w1 w2:=by
  rw[a8];exact⟨rfl,rfl,rfl,by simp,λb a7 aL=>Below.heap_setCell w1 _ u b (λe=>aL e)⟩
 have I:aw (λb=>b=a.bb) w w2:=(aw.ao b1 _).trans t2 (λb _ e=>e);have au:w.heap.size<=w2.heap.size:=I.size;have kk:Goes (bO F a) w (bO (New F w w2) a) w2:=jv I (λb _ e=>.inr (.inl e)) (λb a7=>.inl a7);have aI:∀b,a.mut b->b≠a.bb->w2.heap[b]? =w.heap[b]? :=λb hm ay=>I.aI b (h.lt b (h.own b hm)) ay;have hl:=h.log;refine⟨⟨⟨v',hB,hD kk⟩,?_,?_,?_,h.apart,λb a7=>.inl (h.own b a7),New.lt h.lt au⟩,I.wide (λb _ e=>.inl e),rfl,λ_ a7=>.inl a7,⟨rfl,rfl,rfl⟩⟩
 ·rw[hr];exact h.bU.goes kk (aI _ (.inr (.inl rfl)) (Ne.symm h.apart.b1))
 ·exact(aI _ (.inr (.inr (.inl rfl))) (Ne.symm h.apart.b2)).trans h.told
 ·rw[J];exact hl.ba I (λb _ e=>.inr (.inl e)) (λb a7 e=>h.apart.b3 (e▸a7)) kk.only (λb a7=>.inr (.inr (.inr (.inr a7))))
theorem AI(h:bk w F z s a){w9:World}{L':cc}{B:Nat}(hB:w.heap.size<=B)(hl:∀b,L'.bE b->b<B):∀b,b<w9.heap.size->bO (New F w w9) ⟨a.bb,a.mr,a.mt,L'⟩ b->b<B:=by
 rintro b a7 (hf | e | e | e | e)
 ·apply Classical.byContradiction;intro aL;exact hf (.inr ⟨by omega,a7⟩)
 ·have e:b=a.bb:=e;have:=h.ce;omega
 ·have e:b=a.mr:=e;have:=h.lt _ (h.own a.mr (.inr (.inl rfl)));omega
 ·have e:b=a.mt:=e;have:=h.lt _ (h.own a.mt (.inr (.inr (.inl rfl))));omega
 ·exact hl b e
theorem rv{w5 w6 w9:World}{L':cc}(bS:Below w w w5)(gL:Goes a.L.bE w5 L'.bE w6)(t:aw (λb=>b=a.bb) w6 w9):Goes (bO F a) w (bO (New F w w9) ⟨a.bb,a.mr,a.mt,L'⟩) w9:=by
 have Y:∀b,L'.bE b->a.L.bE b\/w.heap.size<=b:=λb a7=>by
  by_cases bA:b<w.heap.size
  ·exact .inl (gL.only b (Nat.lt_of_lt_of_le bA bS.size) a7)
  ·exact .inr (by omega)
 have t6:aw a.L.bE w w6:=(aw.ao bS _).trans (aw.g5 gL) (λb _ e=>e);have I:aw (λb=>b=a.bb\/a.L.bE b) w w9:=(t6.wide (λb _ e=>.inr e)).trans t (λb _ e=>.inl e);refine jv I (λb _ e=>.inr (e.elim .inl (λe=>.inr (.inr (.inr e))))) ?_;rintro b (e | e | e | e)
 ·exact .inl (.inl e)
 ·exact .inl (.inr (.inl e))
 ·exact .inl (.inr (.inr (.inl e)))
 ·rcases Y b e with e | e
  ·exact .inl (.inr (.inr (.inr e)))
  ·exact .inr e
theorem bk.nd(h:bk w F z s a){w5 w6 w9:World}{S1:Nat->Prop}{L':cc}{s':aC}{AL AQ AT:Option Addr}{cL cQ cT:Nat}(bS:Below w w w5)
 (c8:∀b,b<w.heap.size->bO F a b->S1 b) (ad:b8 w6 (iR S1 L'.bE) L' (s'.recs.map bG.enc) ((s'.recs.map bG.enc).map Fr.wrap).flatten.length z.room) (gL:Goes a.L.bE w5 L'.bE w6) (t:aw (λb=>b=a.bb) w6 w9)
 (k2:oG w (bO F a) z s v) (hB:ai w9 a.bb 130 (bi z s' ⟨a.bb,a.mr,a.mt,L'⟩ {v with AL:=AL,cL:=cL,AQ:=AQ,cQ:=cQ,AT:=AT,cT:=cT}).toArray)
 (ag:SliceAt aB w5 (λb=>b<w.heap.size) AL s'.list) (ar:s'.list.length<=cL) (af:SliceAt aB w5 (λb=>b<w.heap.size) AQ s'.ay) (ah:s'.ay.length<=cQ)
 (aa:SliceAt bg w9 (bO (New F w w9) ⟨a.bb,a.mr,a.mt,L'⟩) AT s'.aF) (hr:s'.bU=s.bU) (hw:s'.waits=s.waits) (hq:L'.q=a.L.q:=by rfl):aY w w9 F z s' a ⟨a.bb,a.mr,a.mt,L'⟩:=by
 have hf:∀b,a.L.bE b->b<w.heap.size:=λb a7=>h.lt b (h.own b (.inr (.inr (.inr a7))));have Y:∀b,L'.bE b->a.L.bE b\/w.heap.size<=b:=λb a7=>by
  by_cases bA:b<w.heap.size
  ·exact .inl (gL.only b (Nat.lt_of_lt_of_le bA bS.size) a7)
  ·exact .inr (by omega)
 have t6:aw a.L.bE w w6:=(aw.ao bS _).trans (aw.g5 gL) (λb _ e=>e);have I:aw (λb=>b=a.bb\/a.L.bE b) w w9:=(t6.wide (λb _ e=>.inr e)).trans t (λb _ e=>.inl e);have au:w.heap.size<=w9.heap.size:=I.size;have ha:∀b,b4.mut ⟨a.bb,a.mr,a.mt,L'⟩ b->a.mut b\/w.heap.size<=b:=by
  rintro b (e | e | e | e)
  ·exact .inl (.inl e)
  ·exact .inl (.inr (.inl e))
  ·exact .inl (.inr (.inr (.inl e)))
  ·rcases Y b e with e | e
   ·exact .inl (.inr (.inr (.inr e)))
   ·exact .inr e
 have kk:Goes (bO F a) w (bO (New F w w9) ⟨a.bb,a.mr,a.mt,L'⟩) w9:=jv I (λb _ e=>.inr (e.elim .inl (λe=>.inr (.inr (.inr e))))) ha;have aI:∀b,b<w.heap.size->b≠a.bb->¬a.L.bE b->w9.heap[b]? =w.heap[b]? :=λb a7 h1 h2=>I.aI b a7 (λe=>e.elim h1 h2);have bI:=ad.lt;have t59:aw (λb=>b=a.bb\/a.L.bE b) w5 w9:=((aw.g5 gL).wide (λb _ e=>.inr e)).trans t (λb _ e=>.inl e);have M:Goes (λb=>b<w.heap.size) w5 (bO (New F w w9) ⟨a.bb,a.mr,a.mt,L'⟩) w9:=⟨t59.os,t59.tape,t59.output,t59.size,λb a7 aL=>t59.aI b a7 (λe=>aL (by
  rcases e with e | e
  ·rw[e];exact h.ce
  ·exact hf b e)),λb a7 hF=>by
  apply Classical.byContradiction;intro aL;rcases hF with hF | hF
  ·exact hF (.inr ⟨by omega,Nat.lt_of_lt_of_le a7 t59.size⟩)
  ·rcases hF with e | e | e | e
   ·exact aL (by rw[e];exact h.ce)
   ·exact aL (by rw[e];exact h.lt _ (h.own _ (.inr (.inl rfl))))
   ·exact aL (by rw[e];exact h.lt _ (h.own _ (.inr (.inr (.inl rfl)))))
   ·exact aL (hf b (gL.only b a7 e))⟩
 have a4:=h.lt _ (h.own _ (.inr (.inl rfl)));have ae:=h.lt _ (h.own _ (.inr (.inr (.inl rfl))));have k9:=k2.goes kk;refine⟨⟨⟨_,hB,⟨k9.par,k9.homes,ag.goes M,ar,af.goes M,aa,by rw[hw];exact k9.waits,ah,by rw[hw];exact k9.nx⟩⟩,?_,?_,?_,?_,?_,New.lt h.lt au⟩,I.wide (λb _ e=>e.elim .inl (λe=>.inr (.inr (.inr e)))),rfl,ha,⟨hq,rfl,rfl⟩⟩
 ·rw[hr];exact h.bU.goes kk (aI _ a4 (Ne.symm h.apart.b1) h.apart.m2)
 ·exact(aI _ ae (Ne.symm h.apart.b2) h.apart.m3).trans h.told
 ·refine ad.ba t (λb _ e=>.inl (c8 b (by rw[e];exact h.ce) (.inr (.inl e)))) (λb a7 e=>?_) (λb a7 hF=>?_) (λb a7=>.inr (.inr (.inr (.inr a7))))
  ·rcases Y b a7 with a5 | a5
   ·exact h.apart.b3 (e▸a5)
   ·have:=h.ce;omega
  ·rcases hF with hF | hF
   ·by_cases bA:b<w.heap.size
    ·exact .inl (c8 b bA (.inl (λe=>hF (.inl e))))
    ·exact absurd (.inr ⟨by omega,Nat.lt_of_lt_of_le a7 t.size⟩) hF
   ·rcases hF with e | e | e | e
    ·exact .inl (c8 b (by rw[e];exact h.ce) (.inr (.inl e)))
    ·exact .inl (c8 b (by rw[e];exact a4) (.inr (.inr (.inl e))))
    ·exact .inl (c8 b (by rw[e];exact ae) (.inr (.inr (.inr (.inl e)))))
    ·exact .inr e
 ·refine⟨h.apart.b1,h.apart.b2,λe=>?_,h.apart.m1,λe=>?_,λe=>?_⟩
  ·exact(Y a.bb e).elim h.apart.b3 (λe=>by have:=h.ce;omega)
  ·exact(Y a.mr e).elim h.apart.m2 (λe=>by omega)
  ·exact(Y a.mt e).elim h.apart.m3 (λe=>by omega)
 ·intro b a7;rcases ha b a7 with e | e
  ·exact .inl (h.own b e)
  ·refine .inr ⟨e,?_⟩;have J:b=a.bb\/b=a.mr\/b=a.mt\/L'.bE b:=a7;have:=h.ce;rcases J with a5 | a5 | a5 | a5
   ·omega
   ·omega
   ·omega
   ·exact Nat.lt_of_lt_of_le (bI b a5) t.size
end
end
structure aM.ok (z:aM):Prop where
 me:z.me<z.n
 n:z.n<=16
 h1:1<=z.homes.length
 h2:z.homes.length<=32
 hh:∀k∈z.homes,k<z.n
 g:z.g<=4000
 room:z.room<=1048576
theorem km{z:aM}{x:ae}{n:Nat}(h:ch z x)(aL:n<=100):(bG.enc (.entry n x)).length+40<=z.g/\0<(bG.enc (.entry n x)).length:=by
 have h1:=aG 2 (by omega);have h2:=aG n (by omega);have h4:=ae.bZ h.aH;have a1:=aG x.enc.length (by omega);have:=h.small;have bi:=Pk.bJ 2;unfold bG.enc Pk.aQ;simp only[List.length_append,List.length_nil];omega
theorem iH{z:aM}{x:ae}(h:ch z x):(bG.enc (.promise x)).length+40<=z.g/\0<(bG.enc (.promise x)).length:=by
 have h1:=aG 3 (by omega);have h2:=aG 0 (by omega);have h4:=ae.bZ h.aH;have a1:=aG x.enc.length (by omega);have:=h.small;have bi:=Pk.bJ 3;unfold bG.enc Pk.aQ;simp only[List.length_append,List.length_nil];omega
theorem iQ(g:Nat):∀ (recs:List bG),(∀r∈recs,r.enc.length+40<=g)->(((recs.map bG.enc).map Fr.wrap).flatten).length<=recs.length*g
 | [],_=>by simp
 | r::l,h=>by
  have:=iQ g l (λx hx=>h x (by simp[hx]));have:=h r (by simp);simp only[List.map_cons,List.flatten_cons,List.length_append,List.length_cons,Fr.dC,Nat.add_mul,Nat.one_mul]at*;omega
theorem nv{z:aM}{s:aC}{r:bG}(hf:Fit z s)(hr:(s.recs.length+1)*z.g<=z.room)(h:r.enc.length+40<=z.g/\0<r.enc.length):(((s.recs++[r]).map bG.enc).map Fr.wrap).flatten.length<=z.room:=by
 refine Nat.le_trans (iQ z.g _ (λx hx=>?_)) (by simpa using hr);rcases List.mem_append.1 hx with hx | hx
 ·exact(hf.enc x hx).1
 ·rw[List.mem_singleton.1 hx];exact h.1
theorem ou{α:Type}{r:dD α}{w:World}{S:Nat->Prop}{nb:Nat}{t:TypeId}{u:List Value}{a:α}(hB:ai w nb t u.toArray)(hS:¬S nb)(aI:r.R w S u a):SliceAt r w S (aj nb) [a]:=by
 refine⟨[u],.inr ⟨nb,0,rfl,hB.lt,hS,λj x hx=>?_⟩,rfl,λi u' a' hu ha=>?_⟩
 ·rw[Nat.zero_add,hB.cell];simpa using hx
 ·cases i with
  | zero=>
   simp at hu ha;subst hu ha;exact aI
  | succ i=>simp at hu
theorem iL{α:Type}{r:dD α}{e:TypeId}{w2 w3 w4:World}{base:Nat}{S S':Nat->Prop}{A:Option Addr}{n c:Nat}{l:List α}(O:aD r e w2 base S (Y A n c) l)(g:Goes S' w2 S' w3)(gQ:w3.grownBy w4 (some w2.heap.size))(hs:∀b,S' b->S b/\b<base)(_:base<=base):SliceAt r w4 S' A l:=by
 have h1:=O.slice (S':=λb=>S' b) (λb a7=>(hs b a7).1) (λb a7=>(hs b a7).2);have h2:SliceAt r w2 (λb=>S' b\/b=w2.heap.size) A l:=h1.cJ (λb a7 h=>h.elim id (λe=>by omega));have a1:SliceAt r w3 (λb=>S' b\/b=w2.heap.size) A l:=h2.goes ⟨g.os,g.tape,g.output,g.size,λb a7 aL=>g.aI b a7 (λe=>aL (.inl e)),λb _ h=>h⟩;exact(a1.goes (bv gQ (λk hk=>by injection hk with hk;exact .inr hk.symm))).weak (λb a7=>.inl a7)
theorem hE{α:Type}{r:dD α}{e:TypeId}{w2 w4:World}{base q:Nat}{S S':Nat->Prop}{A:Option Addr}{n c:Nat}{l:List α}(O:aD r e w2 base S (Y A n c) l)(gQ:w2.grownBy w4 (some q))(hs:∀b,S' b->S b/\b<base)(hq:S q/\q<base):SliceAt r w4 S' A l:=by
 have h1:=O.slice (S':=λb=>S' b\/b=q) (λb a7=>a7.elim (λh=>(hs b h).1) (λe=>by rw[e];exact hq.1)) (λb a7=>a7.elim (λh=>(hs b h).2) (λe=>by rw[e];exact hq.2));exact(h1.goes (bv gQ (λk hk=>by injection hk with hk;exact .inr hk.symm))).weak (λb a7=>.inl a7)
theorem Row.dA{w:World}{base:Nat}{v:Value}{l:List UInt8}(h:Row w base v l){q:Nat}(hq:w.heap.size<=q):∀k,v.ownBlock=some k->k≠q:=by
 obtain⟨A,c,rfl,h⟩:=h;intro k hk e;have:=(h.lt k hk).2;omega
theorem Row.iz{w w':World}{base:Nat}{v:Value}{l:List UInt8}{q:Nat}(h:Row w base v l)(g:w.grownBy w' (some q))(hq:∀k,v.ownBlock=some k->k≠q):Row w' base v l:=by
 obtain⟨A,c,rfl,h⟩:=h;refine⟨A,c,rfl,h.1,?_⟩;rcases h.2 with aL | ⟨b,cap,cur,hv,hg,hh,rest⟩
 ·exact .inl aL
 ·have bA:=(Array.getElem?_eq_some_iff.1 hh).1;exact .inr ⟨b,cap,cur,hv,hg,(g.block b bA (λe=>hq b (by rw[hv];rfl) (by injection e))).trans hh,rest⟩
theorem l8(z:aM)(s:aC)(a:b4)(F S9:Nat->Prop)(x:ae)(A:Option Addr)(c:Nat)(w:World)(hz:z.ok)(h:bk w F z s a)(hf:Fit z s)(hc:jh z s x)(aD:ch z x)(hx:SliceAt aN w S9 A x.events):
 Calls Tryz.prog 235 #[aj a.bb,eq s.list.length x A c] w λe w'=>e=.returned (.bool true)/\∃a':b4,aY w w' F z (s.bP x) a a':=by
 obtain⟨v,hB,D⟩:=h.ex;have aX:=nv (r:=(.entry s.list.length x)) hf hc.room (km aD (by have:=hf.l1;omega));have aZ:=km (n:=s.list.length) aD (by have:=hf.l1;omega);obtain⟨bb,mr,mt,⟨g,q,rr,dr⟩⟩:=a;unfold bi at hB;simp only at hB;obtain⟨w0,ar⟩:=am (w.alloc (.cells (eq s.list.length x A c) 161));have bD:ai w0 w 161 (eq s.list.length x A c):=by rw[ar];exact ai.made _ _ _
 have aU:=aV ar;obtain⟨xb,a0⟩:=am w.heap.size;rw[<-a0]at bD;have bj:=Lib.hid a0;clear a0;have pk:=mj s.list.length x A c S9 w0 (by have:=hf.l1;omega) aD.aH (hx.below aU);rw[show(Pk.az 2++Pk.az s.list.length++Pk.aQ x.enc)=bG.enc (.entry s.list.length x) by simp[bG.enc]]at pk;have ST:=λ(w2:World) (b2:Below w w w2)=>rm 1 (bO F ⟨bb,mr,mt,⟨g,q,rr,dr⟩⟩) (bO F ⟨bb,mr,mt,⟨g,q,rr,dr⟩⟩) S9 v.AL v.AQ _ v.cL _ v.cQ s.list s.ay s.list.length x A c w2 rfl (D.list.goes (.ao b2 _)) (λy hy=>(hf.list y hy).aH) rfl (D.prom.goes (.ao b2 _)) (λy hy=>(hf.ay y hy).aH) rfl hc.no aD.aH (hx.below b2) (by have:=hf.l1;omega) hf.l2;have HH:=ja h hf D hz aD;have HR:=Lib.hid aX;have HS:=Lib.hid aZ;have bV:bb<w.heap.size:=h.ce;have bc:w.heap.size<=xb:=by rw[bj.out];exact Nat.le_refl _
 have bu:xb≠bb:=by omega
 have cn:bb≠xb:=by omega
 obtain⟨d0,d1,d2,d3,d4,d5,d6,d7,d8,d9,d10,d11,d12⟩:=bD.yH;simp at d0 d1 d2 d3 d4 d5 d6 d7 d8 d9 d10 d11 d12;clear hx hf aD h hz aX aZ D hc;go_enter Tryz.func235,Tryz.ntmps235;go_wp2_with fail;rw[<-ar]
 try rw[<-bj.out]
 clear ar;refine pk.mono ?_;clear pk;rintro e w1 ⟨u,rfl,r1,b1⟩;have a6:=aU.trans (b1.mono aU.size);have aB:=bD.below b1 bD.lt;have aE:=hB.below a6 bV;clear d0 d1 d2 d3 d4 d5 d6 d7 d8 d9 d10 d11 d12;go_wp2_with fail;have aJ:ai w1.drew bb 130 _:=aE;have M:ai w1.drew xb 161 _:=aB;have rd:Row w1.drew _ _ _:=r1;have a2:Below w w w1.drew:=⟨a6.os,a6.tape,a6.output,a6.size,a6.block⟩;refine wp_region_held_drew (S:=(λw'=>w'.cell? ⟨bb,4,none⟩=some (I ak 1)/\w'.cell? ⟨bb,5,none⟩=some (Y v.AL s.list.length v.cL)/\w'.cell? ⟨bb,6,none⟩=some (Y v.AQ s.ay.length v.cQ)/\w'.cell? ⟨bb,7,none⟩=some (aa)/\w'.cell? (aj xb)=some (I af 2)/\w'.cell? ⟨xb,1,none⟩=some (I ak s.list.length)/\w'.cell? ⟨xb,2,none⟩=some (I af x.kind)/\w'.cell? ⟨xb,3,none⟩=some (I af x.id.au)/\w'.cell? ⟨xb,4,none⟩=some (I ak x.id.aq)/\w'.cell? ⟨xb,5,none⟩=some (I ak x.id.ax)/\w'.cell? ⟨xb,6,none⟩=some (I af x.ah)/\w'.cell? ⟨xb,7,none⟩=some (I ak x.sub)/\w'.cell? ⟨xb,8,none⟩=some (aa)/\w'.cell? ⟨xb,9,none⟩=some (Y A x.events.length c)/\w'.cell? ⟨xb,10,none⟩=some (I af 0)/\w'.cell? ⟨xb,11,none⟩=some (I ak 0)/\w'.cell? ⟨xb,12,none⟩=some (I ak 0))) (by kernel_rfl) (⟨aJ.cell 4,aJ.cell 5,aJ.cell 6,aJ.cell 7,M.cell 0,M.cell 1,M.cell 2,M.cell 3,M.cell 4,M.cell 5,M.cell 6,M.cell 7,M.cell 8,M.cell 9,M.cell 10,M.cell 11,M.cell 12⟩) (λJ=>?_);clear aE aB r1 b1 a6;generalize w1.drew=wd at aJ M rd a2 J ⊢;refine tk 0 J ?_;refine tk 1 J ?_;refine tk 2 J ?_;refine tk 3 J ?_;refine tk 4 J ?_;refine wpAnyH_ready (rs:=[5,9]) (by kernel_rfl) (by simp) (AllReadyH.cons (by simp only[List.getElem?_toArray,List.getElem?_cons_succ,List.getElem?_cons_zero];rfl) (λK ad=>?_) (AllReadyH.cons (by simp only[List.getElem?_toArray,List.getElem?_cons_succ,List.getElem?_cons_zero];rfl) (λK ad=>?_) AllReadyH.nil))
 focus
  clear J;have BW:=a2;go_simp;refine(ST _ BW).mono ?_;clear ST;rintro e w2 ⟨vL,vP,rfl,pr,b2⟩;obtain⟨AL,nL,cL,rfl,bs,ba⟩:=pr.L.form;obtain⟨AQ,nQ,cQ,rfl,bn,bo⟩:=pr.P.form;have aK:=BW.trans (b2.mono BW.size)
  try dsimp only
  have bq:=hB.below aK bV;have aA:=M.below b2 M.lt;refine ad.out _ _ (⟨bq.cell 4,bq.cell 5,bq.cell 6,bq.cell 7,aA.cell 0,aA.cell 1,aA.cell 2,aA.cell 3,aA.cell 4,aA.cell 5,aA.cell 6,aA.cell 7,aA.cell 8,aA.cell 9,aA.cell 10,aA.cell 11,aA.cell 12⟩) (λJ=>?_);clear ad K;refine tk 6 J ?_;refine tk 7 J ?_;refine tk 8 J ?_;refine aP 9 (λK ad=>?_);clear J;go_simp;have bC:=(Below.refl w2 w2).alloc (Nat.le_refl _) (.cells (bp 0 aa aa) 49);have hN:ai (w2.alloc (.cells (bp 0 aa aa) 49)) w2 49 (bp 0 aa aa):=ai.made _ _ _;have bW:=bq.below bC bq.lt;have aT:=aA.below bC aA.lt;refine ad.out _ _ (⟨bW.cell 4,bW.cell 5,bW.cell 6,bW.cell 7,aT.cell 0,aT.cell 1,aT.cell 2,aT.cell 3,aT.cell 4,aT.cell 5,aT.cell 6,aT.cell 7,aT.cell 8,aT.cell 9,aT.cell 10,aT.cell 11,aT.cell 12⟩) (λJ=>?_);clear ad K;refine aP 10 (λK ad=>?_);clear J;refine bH 49 (.tmp 7) (.tmp 22) rfl _ (bT 1 AL nL cL AQ nQ cQ) rfl rfl 49 _ hN (by kernel_rfl) rfl (by kernel_rfl) ?_;intro w4 a1 gQ bJ;have aG:Hid (w.heap.size<=w2.heap.size/\xb<w2.heap.size):=⟨aK.size,aA.lt⟩;have bt:=bW.grown gQ (λe=>by injection e with e;have:=bq.lt;omega);have aO:=aT.grown gQ (λe=>by injection e with e;have:=aA.lt;omega);refine ad.out _ _ (⟨bt.cell 4,bt.cell 5,bt.cell 6,bt.cell 7,aO.cell 0,aO.cell 1,aO.cell 2,aO.cell 3,aO.cell 4,aO.cell 5,aO.cell 6,aO.cell 7,aO.cell 8,aO.cell 9,aO.cell 10,aO.cell 11,aO.cell 12⟩) (λJ=>?_);clear ad K;refine aP 11 (λK ad=>?_);clear J;go_simp;refine ad.out _ _ (⟨bt.cell 4,bt.cell 5,bt.cell 6,bt.cell 7,aO.cell 0,aO.cell 1,aO.cell 2,aO.cell 3,aO.cell 4,aO.cell 5,aO.cell 6,aO.cell 7,aO.cell 8,aO.cell 9,aO.cell 10,aO.cell 11,aO.cell 12⟩) (λJ=>?_);clear ad K;refine cB ?_ _;clear J;have a4:=iL pr.L (S':=λb=>b<w.heap.size) (Goes.ao bC _) gQ (λb a7=>⟨.inl (Nat.lt_of_lt_of_le a7 BW.size),Nat.lt_of_lt_of_le a7 BW.size⟩) (Nat.le_refl _);have b7:=iL pr.P (S':=λb=>b<w.heap.size) (Goes.ao bC _) gQ (λb a7=>⟨.inl (Nat.lt_of_lt_of_le a7 BW.size),Nat.lt_of_lt_of_le a7 BW.size⟩) (Nat.le_refl _);have r4:=((rd.below b2).below bC).iz gQ (rd.dA b2.size);obtain⟨qb,aW⟩:=am w2.heap.size;rw[<-aW]at a1 ⊢;have cd:qb≠xb:=(by have:=aG.out;omega);have bx:w.heap.size<=qb:=(by have:=aG.out;omega);have bK:Below w w w4:=(aK.trans (bC.mono aK.size)).grown gQ (Nat.le_trans aK.size bC.size) (λk e=>by injection e with e;have:=aK.size;omega);clear aG aW hN bC gQ aK bJ;clear bq aA bW aT
 rotate_left
 focus
  clear J;go_simp;have bC:=(Below.refl wd wd).alloc (Nat.le_refl _) (.cells (bp 0 aa aa) 49);have hN:ai (wd.alloc (.cells (bp 0 aa aa) 49)) wd 49 (bp 0 aa aa):=ai.made _ _ _;have BW:=a2.trans (bC.mono a2.size);have bh:(λb=>b<(wd.alloc (.cells (bp 0 aa aa) 49)).heap.size\/False) wd.heap.size/\wd.heap.size<(wd.alloc (.cells (bp 0 aa aa) 49)).heap.size:=⟨.inl (by simp),by simp⟩;have bW:=hB.below BW bV;have aT:=M.below bC M.lt;refine ad.out _ _ (⟨bW.cell 4,bW.cell 5,bW.cell 6,bW.cell 7,aT.cell 0,aT.cell 1,aT.cell 2,aT.cell 3,aT.cell 4,aT.cell 5,aT.cell 6,aT.cell 7,aT.cell 8,aT.cell 9,aT.cell 10,aT.cell 11,aT.cell 12⟩) (λJ=>?_);clear ad K;refine aP 5 (λK ad=>?_);clear J;go_simp;refine(ST _ BW).mono ?_;clear ST;rintro e w2 ⟨vL,vP,rfl,pr,b2⟩;obtain⟨AL,nL,cL,rfl,bs,ba⟩:=pr.L.form;obtain⟨AQ,nQ,cQ,rfl,bn,bo⟩:=pr.P.form;have aK:=BW.trans (b2.mono BW.size)
  try dsimp only
  have bq:=bW.below b2 bW.lt;have aA:=aT.below b2 aT.lt;have hN:=hN.below b2 hN.lt;refine ad.out _ _ (⟨bq.cell 4,bq.cell 5,bq.cell 6,bq.cell 7,aA.cell 0,aA.cell 1,aA.cell 2,aA.cell 3,aA.cell 4,aA.cell 5,aA.cell 6,aA.cell 7,aA.cell 8,aA.cell 9,aA.cell 10,aA.cell 11,aA.cell 12⟩) (λJ=>?_);clear ad K;refine tk 6 J ?_;refine tk 7 J ?_;refine tk 8 J ?_;refine aP 10 (λK ad=>?_);clear J;refine bH 49 (.tmp 7) (.tmp 22) rfl _ (bT 1 AL nL cL AQ nQ cQ) rfl rfl 49 _ hN (by kernel_rfl) rfl (by kernel_rfl) ?_;intro w4 a1 gQ bJ;have aG:Hid (w.heap.size<=wd.heap.size/\xb<wd.heap.size):=⟨a2.size,M.lt⟩;have bt:=bq.grown gQ (λe=>by injection e with e;have:=aG.out;omega);have aO:=aA.grown gQ (λe=>by injection e with e;have:=aG.out;omega);refine ad.out _ _ (⟨bt.cell 4,bt.cell 5,bt.cell 6,bt.cell 7,aO.cell 0,aO.cell 1,aO.cell 2,aO.cell 3,aO.cell 4,aO.cell 5,aO.cell 6,aO.cell 7,aO.cell 8,aO.cell 9,aO.cell 10,aO.cell 11,aO.cell 12⟩) (λJ=>?_);clear ad K;refine aP 11 (λK ad=>?_);clear J;go_simp;refine ad.out _ _ (⟨bt.cell 4,bt.cell 5,bt.cell 6,bt.cell 7,aO.cell 0,aO.cell 1,aO.cell 2,aO.cell 3,aO.cell 4,aO.cell 5,aO.cell 6,aO.cell 7,aO.cell 8,aO.cell 9,aO.cell 10,aO.cell 11,aO.cell 12⟩) (λJ=>?_);clear ad K;refine cB ?_ _;clear J;have a4:=hE pr.L (S':=λb=>b<w.heap.size) gQ (λb a7=>⟨.inl (Nat.lt_of_lt_of_le a7 BW.size),Nat.lt_of_lt_of_le a7 BW.size⟩) ⟨.inl bh.2,bh.2⟩;have b7:=hE pr.P (S':=λb=>b<w.heap.size) gQ (λb a7=>⟨.inl (Nat.lt_of_lt_of_le a7 BW.size),Nat.lt_of_lt_of_le a7 BW.size⟩) ⟨.inl bh.2,bh.2⟩;have r4:=((rd.below bC).below b2).iz gQ (rd.dA (Nat.le_refl _));obtain⟨qb,aW⟩:=am wd.heap.size;rw[<-aW]at a1 ⊢;have cd:qb≠xb:=(by have:=aG.out;omega);have bx:w.heap.size<=qb:=(by have:=aG.out;omega);have bK:Below w w w4:=aK.grown gQ aK.size (λk e=>by injection e with e;have:=aG.out;omega);clear aG aW hN bC gQ aK bJ;clear bq aA bW aT
 all_goals
  obtain⟨UA,un,uc,rfl,a5,bX⟩:=r4.open_;obtain⟨w5,a8⟩:=am (w4.alloc (.cells #[Y UA un uc] 97));have ag:=aV a8;have hU:ai w5 w4 97 #[Y UA un uc]:=(by rw[a8];exact ai.made _ _ _);have bS:=bK.trans (ag.mono bK.size);have cb:=bt.below ag bt.lt;have ca:=aO.below ag aO.lt;have ck:=a1.below ag a1.lt;have bd:=a4.below ag;have b0:=b7.below ag;obtain⟨last,hl⟩:∃n,b8 _ _ _ _ n _:=⟨_,(HH.out.1.below bS).log⟩;have a9:=hl.cJ (S':=λb=>bO F ⟨bb,mr,mt,⟨g,q,rr,dr⟩⟩ b/\b<w.heap.size) (λb _ h=>h.1) (λb a7=>⟨hl.sub b a7,HH.out.1.lt b (HH.out.1.own b (.inr (.inr (.inr a7))))⟩);have bm:SliceAt cf w5 (λb=>bO F ⟨bb,mr,mt,⟨g,q,rr,dr⟩⟩ b/\b<w.heap.size) (aj w4) [bG.enc (.entry s.list.length x)]:=ou hU (λe=>by have:=e.2;have:=bK.size;omega) ⟨UA,uc,by rw[a5.out],(r4.below ag).bytes (λb a7=>by have:=a7.2;have:=aU.size;omega),by rw[a5.out];exact bX⟩;have fo:=nP (λb=>bO F ⟨bb,mr,mt,⟨g,q,rr,dr⟩⟩ b/\b<w.heap.size) g q rr dr (s.recs.map bG.enc) [bG.enc (.entry s.list.length x)] last z.room (aj w4) 1 1 w5 a9 (λb h=>Nat.lt_of_lt_of_le h.2 bS.size) rfl (by omega) bm (λp hp=>by rw[List.mem_singleton.1 hp];have:=HS.out;have:=HH.out.2.2.2.1.g;omega) (by have:=HR.out;simpa using this);have L0:=bt.cell 3;simp at L0;clear hl a9 bm hU a4 b7 bt aO a1 ag;go_wp2_with fail;rw[<-a8];clear a8 L0;refine fo.mono ?_;clear fo;rintro e w6 ⟨rfl,a3,aS,lg,g6⟩;have bw:∀b,w.heap.size<=b->¬cc.bE ⟨g,q,rr,dr⟩ b:=λb a7 e=>(by have:=HH.out.1.lt b (HH.out.1.own b (.inr (.inr (.inr e))));omega);have b9:=cb.goes g6 HH.out.1.apart.b3;have bZ:=ca.goes g6 (bw _ bc);have b6:=ck.goes g6 (bw _ bx);obtain⟨q0,q1,q2,q3⟩:=b6.c4;simp at q0 q1 q2 q3;have y4:=b9.cell 4;have y5:=b9.cell 5;have y6:=b9.cell 6;have y7:=b9.cell 7;have y8:=b9.cell 8;have b5:=b9.free 4;have cj:=b9.free 5;have bM:=b9.free 6;have bR:=b9.free 7;have bz:=b9.free 8;simp at y4 y5 y6 y7 y8;have x0:=bZ.cell 0;have x3:=bZ.cell 3;have x4:=bZ.cell 4;have x5:=bZ.cell 5;simp at x0 x3 x4 x5;have cl:(xb==bb)=false:=(by rw[beq_eq_false_iff_ne];exact bu);have aW:qb≠bb:=(by omega);have bU:=bS.size;go_wp2_with fail;obtain⟨w7,bf⟩:=am ((((w6.setCell ⟨bb,4,none⟩ (av 1)).setCell ⟨bb,5,none⟩ (Y AL nL cL)).setCell ⟨bb,6,none⟩ (Y AQ nQ cQ)).setCell ⟨bb,7,none⟩ aa);have cw:=((((b9.put 4 (av 1)).put 5 (Y AL nL cL)).put 6 (Y AQ nQ cQ)).put 7 aa);simp only[List.setIfInBounds_toArray,List.set_cons_zero,List.set_cons_succ]at cw;have cg:w6.grownBy w7 (some bb):=(by rw[bf];exact bl bb (bT 1 AL nL cL AQ nQ cQ) w6 4);rw[<-bf]at cw ⊢;clear bf q0 q1 q2 q3 y4 b5 y5 cj y6 bM y7 bR y8 bz x0 x3 x4 x5;have cm:=bZ.grown cg (λe=>by injection e with e;omega);have gF:Goes (bO F ⟨bb,mr,mt,⟨g,q,rr,dr⟩⟩) w (bO F ⟨bb,mr,mt,⟨g,q,rr,dr⟩⟩) w7:=(Goes.ao bS _).trans (Goes.trans (S':=bO F ⟨bb,mr,mt,⟨g,q,rr,dr⟩⟩) ⟨g6.os,g6.tape,g6.output,g6.size,λb a7 aL=>g6.aI b a7 (λe=>aL (.inr (.inr (.inr (.inr e))))),λ_ _ h=>h⟩ (bv cg (λk hk=>by injection hk with hk;subst hk;exact .inr (.inl rfl))));have bI:=lg.lt;have aJ:ai w7.drew bb 130 _:=cw;have M:ai w7.drew xb 161 _:=cm;have st:=rk (bO F ⟨bb,mr,mt,⟨g,q,rr,dr⟩⟩) v.AT _ v.cT s.aF x.id w7.drew rfl (by have:=HH.out.2.1.l3;omega) (HH.out.2.2.1.aF.goes gF:SliceAt bg w7 _ _ _).fX (λt ht=>(HH.out.2.1.aF t ht).aH);unfold PId.val at st;refine wp_region_held_drew (S:=(λw'=>w'.cell? ⟨xb,3,none⟩=some (I af x.id.au)/\w'.cell? ⟨xb,4,none⟩=some (I ak x.id.aq)/\w'.cell? ⟨xb,5,none⟩=some (I ak x.id.ax))) (by kernel_rfl) (⟨M.cell 3,M.cell 4,M.cell 5⟩) (λJ=>?_);refine tk 0 J ?_;refine tk 1 J ?_;refine tk 2 J ?_;refine tk 3 J ?_;refine tk 5 J ?_;refine tk 6 J ?_;refine tk 7 J ?_;refine aP 4 (λK ad=>?_);clear J;have y8:=aJ.cell 8;simp at y8;go_simp;clear y8;refine ad.out _ _ (⟨M.cell 3,M.cell 4,M.cell 5⟩) (λJ=>?_);clear ad K;refine aP 8 (λK ad=>?_);clear J;go_simp;refine st.mono ?_;clear st;rintro e w8 ⟨v8,rfl,O8,bB⟩;obtain⟨AT,nT,cT,rfl,cr,bF⟩:=O8.form;have cA:=aJ.below bB aJ.lt;have bL:=M.below bB M.lt
  try dsimp only
  refine ad.out _ _ (⟨bL.cell 3,bL.cell 4,bL.cell 5⟩) (λJ=>?_);clear ad K;refine tk 9 J ?_;refine tk 10 J ?_;refine aP 11 (λK ad=>?_);clear J;have y8:=cA.cell 8;have bz:=cA.free 8;simp at y8;have bA:=cA.put 8 (Y AT nT cT);simp only[List.setIfInBounds_toArray,List.set_cons_zero,List.set_cons_succ]at bA;have bY:=bL.dA (p:=⟨bb,8,none⟩) bu (Y AT nT cT);go_simp;clear y8 bz;refine ad.out _ _ (⟨bY.cell 3,bY.cell 4,bY.cell 5⟩) (λJ=>?_);clear ad K;refine cB ?_ _;clear J;have bQ:=aR w8 bb 8 (Y AT nT cT);have cp:w6.heap.size<=w7.drew.heap.size:=cg.size;obtain⟨w9,br⟩:=am (w8.setCell ⟨bb,8,none⟩ (Y AT nT cT));rw[<-br]at bQ bA ⊢;clear br;have t69:aw (λb=>b=bb) w6 w9:=((aw.bN cg (λb e=>by injection e with e;exact e.symm)).trans (G:=λb=>b=bb) (w':=w7) (w'':=w8) ⟨bB.os,bB.tape,bB.output,bB.size,λb a7 _=>bB.block b a7⟩ (λb _ e=>e)).trans (aw.bN bQ (F:=λb=>b=bb) (λb e=>by injection e with e;exact e.symm)) (λb _ e=>e);have cq:=((O8.slice (S':=λb=>b<w7.drew.heap.size) (λb a7=>a7) (λb a7=>a7)).goes (bv bQ (λk hk=>by injection hk with hk;subst hk;show bb<w7.drew.heap.size;exact aJ.lt))).cJ (S':=bO (New F w w9) ⟨bb,mr,mt,⟨g,q,a3,aS⟩⟩) (AI HH.out.1 (L':=⟨g,q,a3,aS⟩) (Nat.le_trans (Nat.le_trans bS.size g6.size) cp) (λb a7=>Nat.lt_of_lt_of_le (bI b a7) cp));go_wp2;go_ret;have fin:=HH.out.1.nd (s':=(s.bP x)) (w9:=w9) (S1:=λb=>bO F ⟨bb,mr,mt,⟨g,q,rr,dr⟩⟩ b/\b<w.heap.size) (L':=⟨g,q,a3,aS⟩) (AT:=AT) (cT:=cT) bS (λb a7 h=>⟨h,a7⟩) (by rw[show(s.bP x).recs.map bG.enc=s.recs.map bG.enc++[bG.enc (.entry s.list.length x)] by simp[aC.bP]];exact lg) g6 t69 HH.out.2.2.1 (by unfold bi;rw[bs.out,bn.out,cr.out]at bA;exact bA) bd (by rw[bs.out]at ba;exact ba) b0 (by rw[bn.out]at bo;exact bo) cq rfl rfl;exact⟨rfl,_,fin⟩
theorem oI(z:aM)(s:aC)(a:b4)(F S9:Nat->Prop)(x:ae)(A:Option Addr)(c:Nat)(w:World)(hz:z.ok)(h:bk w F z s a)(hf:Fit z s)(hc:rZ z s x)(aD:ch z x)(hx:SliceAt aN w S9 A x.events):
 Calls Tryz.prog 235 #[aj a.bb,ey x A c] w λe w'=>e=.returned (.bool true)/\∃a':b4,aY w w' F z (s.dd x) a a':=by
 obtain⟨v,hB,D⟩:=h.ex;have aX:=nv (r:=(.promise x)) hf hc.room (iH aD);have aZ:=iH aD;obtain⟨bb,mr,mt,⟨g,q,rr,dr⟩⟩:=a;unfold bi at hB;simp only at hB;obtain⟨w0,ar⟩:=am (w.alloc (.cells (ey x A c) 161));have bD:ai w0 w 161 (ey x A c):=by rw[ar];exact ai.made _ _ _
 have aU:=aV ar;obtain⟨xb,a0⟩:=am w.heap.size;rw[<-a0]at bD;have bj:=Lib.hid a0;clear a0;have pk:=j3 x A c S9 w0 aD.aH (hx.below aU);rw[show(Pk.az 3++Pk.az 0++Pk.aQ x.enc)=bG.enc (.promise x) by simp[bG.enc]]at pk;have ST:=λ(w2:World) (b2:Below w w w2)=>oX 1 (bO F ⟨bb,mr,mt,⟨g,q,rr,dr⟩⟩) (bO F ⟨bb,mr,mt,⟨g,q,rr,dr⟩⟩) S9 v.AL v.AQ _ v.cL _ v.cQ s.list s.ay x A c w2 rfl (D.list.goes (.ao b2 _)) (λy hy=>(hf.list y hy).aH) rfl (D.prom.goes (.ao b2 _)) (λy hy=>(hf.ay y hy).aH) hc.no hc.CZ aD.aH (hx.below b2) (by have:=hf.l1;omega) hf.l2;have HH:=ja h hf D hz aD;have HR:=Lib.hid aX;have HS:=Lib.hid aZ;have bV:bb<w.heap.size:=h.ce;have bc:w.heap.size<=xb:=by rw[bj.out];exact Nat.le_refl _
 have bu:xb≠bb:=by omega
 have cn:bb≠xb:=by omega
 obtain⟨d0,d1,d2,d3,d4,d5,d6,d7,d8,d9,d10,d11,d12⟩:=bD.yH;simp at d0 d1 d2 d3 d4 d5 d6 d7 d8 d9 d10 d11 d12;clear hx hf aD h hz aX aZ D hc;go_enter Tryz.func235,Tryz.ntmps235;go_wp2_with fail;rw[<-ar]
 try rw[<-bj.out]
 clear ar;refine pk.mono ?_;clear pk;rintro e w1 ⟨u,rfl,r1,b1⟩;have a6:=aU.trans (b1.mono aU.size);have aB:=bD.below b1 bD.lt;have aE:=hB.below a6 bV;clear d0 d1 d2 d3 d4 d5 d6 d7 d8 d9 d10 d11 d12;go_wp2_with fail;have aJ:ai w1.drew bb 130 _:=aE;have M:ai w1.drew xb 161 _:=aB;have rd:Row w1.drew _ _ _:=r1;have a2:Below w w w1.drew:=⟨a6.os,a6.tape,a6.output,a6.size,a6.block⟩;refine wp_region_held_drew (S:=(λw'=>w'.cell? ⟨bb,4,none⟩=some (I ak 1)/\w'.cell? ⟨bb,5,none⟩=some (Y v.AL s.list.length v.cL)/\w'.cell? ⟨bb,6,none⟩=some (Y v.AQ s.ay.length v.cQ)/\w'.cell? ⟨bb,7,none⟩=some (aa)/\w'.cell? (aj xb)=some (I af 3)/\w'.cell? ⟨xb,1,none⟩=some (I ak 0)/\w'.cell? ⟨xb,2,none⟩=some (I af x.kind)/\w'.cell? ⟨xb,3,none⟩=some (I af x.id.au)/\w'.cell? ⟨xb,4,none⟩=some (I ak x.id.aq)/\w'.cell? ⟨xb,5,none⟩=some (I ak x.id.ax)/\w'.cell? ⟨xb,6,none⟩=some (I af x.ah)/\w'.cell? ⟨xb,7,none⟩=some (I ak x.sub)/\w'.cell? ⟨xb,8,none⟩=some (aa)/\w'.cell? ⟨xb,9,none⟩=some (Y A x.events.length c)/\w'.cell? ⟨xb,10,none⟩=some (I af 0)/\w'.cell? ⟨xb,11,none⟩=some (I ak 0)/\w'.cell? ⟨xb,12,none⟩=some (I ak 0))) (by kernel_rfl) (⟨aJ.cell 4,aJ.cell 5,aJ.cell 6,aJ.cell 7,M.cell 0,M.cell 1,M.cell 2,M.cell 3,M.cell 4,M.cell 5,M.cell 6,M.cell 7,M.cell 8,M.cell 9,M.cell 10,M.cell 11,M.cell 12⟩) (λJ=>?_);clear aE aB r1 b1 a6;generalize w1.drew=wd at aJ M rd a2 J ⊢;refine tk 0 J ?_;refine tk 1 J ?_;refine tk 2 J ?_;refine tk 3 J ?_;refine tk 4 J ?_;refine wpAnyH_ready (rs:=[5,9]) (by kernel_rfl) (by simp) (AllReadyH.cons (by simp only[List.getElem?_toArray,List.getElem?_cons_succ,List.getElem?_cons_zero];rfl) (λK ad=>?_) (AllReadyH.cons (by simp only[List.getElem?_toArray,List.getElem?_cons_succ,List.getElem?_cons_zero];rfl) (λK ad=>?_) AllReadyH.nil))
 focus
  clear J;have BW:=a2;go_simp;refine(ST _ BW).mono ?_;clear ST;rintro e w2 ⟨vL,vP,rfl,pr,b2⟩;obtain⟨AL,nL,cL,rfl,bs,ba⟩:=pr.L.form;obtain⟨AQ,nQ,cQ,rfl,bn,bo⟩:=pr.P.form;have aK:=BW.trans (b2.mono BW.size)
  try dsimp only
  have bq:=hB.below aK bV;have aA:=M.below b2 M.lt;refine ad.out _ _ (⟨bq.cell 4,bq.cell 5,bq.cell 6,bq.cell 7,aA.cell 0,aA.cell 1,aA.cell 2,aA.cell 3,aA.cell 4,aA.cell 5,aA.cell 6,aA.cell 7,aA.cell 8,aA.cell 9,aA.cell 10,aA.cell 11,aA.cell 12⟩) (λJ=>?_);clear ad K;refine tk 6 J ?_;refine tk 7 J ?_;refine tk 8 J ?_;refine aP 9 (λK ad=>?_);clear J;go_simp;have bC:=(Below.refl w2 w2).alloc (Nat.le_refl _) (.cells (bp 0 aa aa) 49);have hN:ai (w2.alloc (.cells (bp 0 aa aa) 49)) w2 49 (bp 0 aa aa):=ai.made _ _ _;have bW:=bq.below bC bq.lt;have aT:=aA.below bC aA.lt;refine ad.out _ _ (⟨bW.cell 4,bW.cell 5,bW.cell 6,bW.cell 7,aT.cell 0,aT.cell 1,aT.cell 2,aT.cell 3,aT.cell 4,aT.cell 5,aT.cell 6,aT.cell 7,aT.cell 8,aT.cell 9,aT.cell 10,aT.cell 11,aT.cell 12⟩) (λJ=>?_);clear ad K;refine aP 10 (λK ad=>?_);clear J;refine bH 49 (.tmp 7) (.tmp 22) rfl _ (bT 1 AL nL cL AQ nQ cQ) rfl rfl 49 _ hN (by kernel_rfl) rfl (by kernel_rfl) ?_;intro w4 a1 gQ bJ;have aG:Hid (w.heap.size<=w2.heap.size/\xb<w2.heap.size):=⟨aK.size,aA.lt⟩;have bt:=bW.grown gQ (λe=>by injection e with e;have:=bq.lt;omega);have aO:=aT.grown gQ (λe=>by injection e with e;have:=aA.lt;omega);refine ad.out _ _ (⟨bt.cell 4,bt.cell 5,bt.cell 6,bt.cell 7,aO.cell 0,aO.cell 1,aO.cell 2,aO.cell 3,aO.cell 4,aO.cell 5,aO.cell 6,aO.cell 7,aO.cell 8,aO.cell 9,aO.cell 10,aO.cell 11,aO.cell 12⟩) (λJ=>?_);clear ad K;refine aP 11 (λK ad=>?_);clear J;go_simp;refine ad.out _ _ (⟨bt.cell 4,bt.cell 5,bt.cell 6,bt.cell 7,aO.cell 0,aO.cell 1,aO.cell 2,aO.cell 3,aO.cell 4,aO.cell 5,aO.cell 6,aO.cell 7,aO.cell 8,aO.cell 9,aO.cell 10,aO.cell 11,aO.cell 12⟩) (λJ=>?_);clear ad K;refine cB ?_ _;clear J;have a4:=iL pr.L (S':=λb=>b<w.heap.size) (Goes.ao bC _) gQ (λb a7=>⟨.inl (Nat.lt_of_lt_of_le a7 BW.size),Nat.lt_of_lt_of_le a7 BW.size⟩) (Nat.le_refl _);have b7:=iL pr.P (S':=λb=>b<w.heap.size) (Goes.ao bC _) gQ (λb a7=>⟨.inl (Nat.lt_of_lt_of_le a7 BW.size),Nat.lt_of_lt_of_le a7 BW.size⟩) (Nat.le_refl _);have r4:=((rd.below b2).below bC).iz gQ (rd.dA b2.size);obtain⟨qb,aW⟩:=am w2.heap.size;rw[<-aW]at a1 ⊢;have cd:qb≠xb:=(by have:=aG.out;omega);have bx:w.heap.size<=qb:=(by have:=aG.out;omega);have bK:Below w w w4:=(aK.trans (bC.mono aK.size)).grown gQ (Nat.le_trans aK.size bC.size) (λk e=>by injection e with e;have:=aK.size;omega);clear aG aW hN bC gQ aK bJ;clear bq aA bW aT
 rotate_left
 focus
  clear J;go_simp;have bC:=(Below.refl wd wd).alloc (Nat.le_refl _) (.cells (bp 0 aa aa) 49);have hN:ai (wd.alloc (.cells (bp 0 aa aa) 49)) wd 49 (bp 0 aa aa):=ai.made _ _ _;have BW:=a2.trans (bC.mono a2.size);have bh:(λb=>b<(wd.alloc (.cells (bp 0 aa aa) 49)).heap.size\/False) wd.heap.size/\wd.heap.size<(wd.alloc (.cells (bp 0 aa aa) 49)).heap.size:=⟨.inl (by simp),by simp⟩;have bW:=hB.below BW bV;have aT:=M.below bC M.lt;refine ad.out _ _ (⟨bW.cell 4,bW.cell 5,bW.cell 6,bW.cell 7,aT.cell 0,aT.cell 1,aT.cell 2,aT.cell 3,aT.cell 4,aT.cell 5,aT.cell 6,aT.cell 7,aT.cell 8,aT.cell 9,aT.cell 10,aT.cell 11,aT.cell 12⟩) (λJ=>?_);clear ad K;refine aP 5 (λK ad=>?_);clear J;go_simp;refine(ST _ BW).mono ?_;clear ST;rintro e w2 ⟨vL,vP,rfl,pr,b2⟩;obtain⟨AL,nL,cL,rfl,bs,ba⟩:=pr.L.form;obtain⟨AQ,nQ,cQ,rfl,bn,bo⟩:=pr.P.form;have aK:=BW.trans (b2.mono BW.size)
  try dsimp only
  have bq:=bW.below b2 bW.lt;have aA:=aT.below b2 aT.lt;have hN:=hN.below b2 hN.lt;refine ad.out _ _ (⟨bq.cell 4,bq.cell 5,bq.cell 6,bq.cell 7,aA.cell 0,aA.cell 1,aA.cell 2,aA.cell 3,aA.cell 4,aA.cell 5,aA.cell 6,aA.cell 7,aA.cell 8,aA.cell 9,aA.cell 10,aA.cell 11,aA.cell 12⟩) (λJ=>?_);clear ad K;refine tk 6 J ?_;refine tk 7 J ?_;refine tk 8 J ?_;refine aP 10 (λK ad=>?_);clear J;refine bH 49 (.tmp 7) (.tmp 22) rfl _ (bT 1 AL nL cL AQ nQ cQ) rfl rfl 49 _ hN (by kernel_rfl) rfl (by kernel_rfl) ?_;intro w4 a1 gQ bJ;have aG:Hid (w.heap.size<=wd.heap.size/\xb<wd.heap.size):=⟨a2.size,M.lt⟩;have bt:=bq.grown gQ (λe=>by injection e with e;have:=aG.out;omega);have aO:=aA.grown gQ (λe=>by injection e with e;have:=aG.out;omega);refine ad.out _ _ (⟨bt.cell 4,bt.cell 5,bt.cell 6,bt.cell 7,aO.cell 0,aO.cell 1,aO.cell 2,aO.cell 3,aO.cell 4,aO.cell 5,aO.cell 6,aO.cell 7,aO.cell 8,aO.cell 9,aO.cell 10,aO.cell 11,aO.cell 12⟩) (λJ=>?_);clear ad K;refine aP 11 (λK ad=>?_);clear J;go_simp;refine ad.out _ _ (⟨bt.cell 4,bt.cell 5,bt.cell 6,bt.cell 7,aO.cell 0,aO.cell 1,aO.cell 2,aO.cell 3,aO.cell 4,aO.cell 5,aO.cell 6,aO.cell 7,aO.cell 8,aO.cell 9,aO.cell 10,aO.cell 11,aO.cell 12⟩) (λJ=>?_);clear ad K;refine cB ?_ _;clear J;have a4:=hE pr.L (S':=λb=>b<w.heap.size) gQ (λb a7=>⟨.inl (Nat.lt_of_lt_of_le a7 BW.size),Nat.lt_of_lt_of_le a7 BW.size⟩) ⟨.inl bh.2,bh.2⟩;have b7:=hE pr.P (S':=λb=>b<w.heap.size) gQ (λb a7=>⟨.inl (Nat.lt_of_lt_of_le a7 BW.size),Nat.lt_of_lt_of_le a7 BW.size⟩) ⟨.inl bh.2,bh.2⟩;have r4:=((rd.below bC).below b2).iz gQ (rd.dA (Nat.le_refl _));obtain⟨qb,aW⟩:=am wd.heap.size;rw[<-aW]at a1 ⊢;have cd:qb≠xb:=(by have:=aG.out;omega);have bx:w.heap.size<=qb:=(by have:=aG.out;omega);have bK:Below w w w4:=aK.grown gQ aK.size (λk e=>by injection e with e;have:=aG.out;omega);clear aG aW hN bC gQ aK bJ;clear bq aA bW aT
 all_goals
  obtain⟨UA,un,uc,rfl,a5,bX⟩:=r4.open_;obtain⟨w5,a8⟩:=am (w4.alloc (.cells #[Y UA un uc] 97));have ag:=aV a8;have hU:ai w5 w4 97 #[Y UA un uc]:=(by rw[a8];exact ai.made _ _ _);have bS:=bK.trans (ag.mono bK.size);have cb:=bt.below ag bt.lt;have ca:=aO.below ag aO.lt;have ck:=a1.below ag a1.lt;have bd:=a4.below ag;have b0:=b7.below ag;obtain⟨last,hl⟩:∃n,b8 _ _ _ _ n _:=⟨_,(HH.out.1.below bS).log⟩;have a9:=hl.cJ (S':=λb=>bO F ⟨bb,mr,mt,⟨g,q,rr,dr⟩⟩ b/\b<w.heap.size) (λb _ h=>h.1) (λb a7=>⟨hl.sub b a7,HH.out.1.lt b (HH.out.1.own b (.inr (.inr (.inr a7))))⟩);have bm:SliceAt cf w5 (λb=>bO F ⟨bb,mr,mt,⟨g,q,rr,dr⟩⟩ b/\b<w.heap.size) (aj w4) [bG.enc (.promise x)]:=ou hU (λe=>by have:=e.2;have:=bK.size;omega) ⟨UA,uc,by rw[a5.out],(r4.below ag).bytes (λb a7=>by have:=a7.2;have:=aU.size;omega),by rw[a5.out];exact bX⟩;have fo:=nP (λb=>bO F ⟨bb,mr,mt,⟨g,q,rr,dr⟩⟩ b/\b<w.heap.size) g q rr dr (s.recs.map bG.enc) [bG.enc (.promise x)] last z.room (aj w4) 1 1 w5 a9 (λb h=>Nat.lt_of_lt_of_le h.2 bS.size) rfl (by omega) bm (λp hp=>by rw[List.mem_singleton.1 hp];have:=HS.out;have:=HH.out.2.2.2.1.g;omega) (by have:=HR.out;simpa using this);have L0:=bt.cell 3;simp at L0;clear hl a9 bm hU a4 b7 bt aO a1 ag;go_wp2_with fail;rw[<-a8];clear a8 L0;refine fo.mono ?_;clear fo;rintro e w6 ⟨rfl,a3,aS,lg,g6⟩;have bw:∀b,w.heap.size<=b->¬cc.bE ⟨g,q,rr,dr⟩ b:=λb a7 e=>(by have:=HH.out.1.lt b (HH.out.1.own b (.inr (.inr (.inr e))));omega);have b9:=cb.goes g6 HH.out.1.apart.b3;have bZ:=ca.goes g6 (bw _ bc);have b6:=ck.goes g6 (bw _ bx);obtain⟨q0,q1,q2,q3⟩:=b6.c4;simp at q0 q1 q2 q3;have y4:=b9.cell 4;have y5:=b9.cell 5;have y6:=b9.cell 6;have y7:=b9.cell 7;have y8:=b9.cell 8;have b5:=b9.free 4;have cj:=b9.free 5;have bM:=b9.free 6;have bR:=b9.free 7;have bz:=b9.free 8;simp at y4 y5 y6 y7 y8;have x0:=bZ.cell 0;simp at x0;have cl:(xb==bb)=false:=(by rw[beq_eq_false_iff_ne];exact bu);have aW:qb≠bb:=(by omega);have bU:=bS.size;go_wp2_with fail;obtain⟨w7,bf⟩:=am ((((w6.setCell ⟨bb,4,none⟩ (av 1)).setCell ⟨bb,5,none⟩ (Y AL nL cL)).setCell ⟨bb,6,none⟩ (Y AQ nQ cQ)).setCell ⟨bb,7,none⟩ aa);have cw:=((((b9.put 4 (av 1)).put 5 (Y AL nL cL)).put 6 (Y AQ nQ cQ)).put 7 aa);simp only[List.setIfInBounds_toArray,List.set_cons_zero,List.set_cons_succ]at cw;have cg:w6.grownBy w7 (some bb):=(by rw[bf];exact bl bb (bT 1 AL nL cL AQ nQ cQ) w6 4);rw[<-bf]at cw ⊢;clear bf q0 q1 q2 q3 y4 b5 y5 cj y6 bM y7 bR y8 bz x0;have cm:=bZ.grown cg (λe=>by injection e with e;omega);have gF:Goes (bO F ⟨bb,mr,mt,⟨g,q,rr,dr⟩⟩) w (bO F ⟨bb,mr,mt,⟨g,q,rr,dr⟩⟩) w7:=(Goes.ao bS _).trans (Goes.trans (S':=bO F ⟨bb,mr,mt,⟨g,q,rr,dr⟩⟩) ⟨g6.os,g6.tape,g6.output,g6.size,λb a7 aL=>g6.aI b a7 (λe=>aL (.inr (.inr (.inr (.inr e))))),λ_ _ h=>h⟩ (bv cg (λk hk=>by injection hk with hk;subst hk;exact .inr (.inl rfl))));have bI:=lg.lt
  try rw[Exit.noGoto_ret]
  go_wp2;go_ret;have t69:aw (λb=>b=bb) w6 w7:=(aw.bN cg (λb e=>by injection e with e;exact e.symm));have fin:=HH.out.1.nd (s':=(s.dd x)) (w9:=w7) (S1:=λb=>bO F ⟨bb,mr,mt,⟨g,q,rr,dr⟩⟩ b/\b<w.heap.size) (L':=⟨g,q,a3,aS⟩) (AT:=v.AT) (cT:=v.cT) bS (λb a7 h=>⟨h,a7⟩) (by rw[show(s.dd x).recs.map bG.enc=s.recs.map bG.enc++[bG.enc (.promise x)] by simp[aC.dd]];exact lg) g6 t69 HH.out.2.2.1 (by unfold bi;rw[bs.out,bn.out]at cw;exact cw) bd (by rw[bs.out]at ba;exact ba) b0 (by rw[bn.out]at bo;exact bo) (HH.out.2.2.1.aF.goes (rv bS g6 t69)) rfl rfl;exact⟨rfl,_,fin⟩
theorem Fit.bP{z:aM}{s:aC}{x:ae}(hz:z.ok)(hf:Fit z s)(hc:jh z s x)(hx:ch z x):Fit z (s.bP x):=by
 have hr:=km (n:=s.list.length) hx (by have:=hf.l1;omega);have hl:(s.bP x).list=s.list++[x]:=rfl;refine⟨λy hy=>?_,λy hy=>hf.ay y (List.mem_filter.1 hy).1,λt ht=>hf.aF t (List.mem_of_mem_eraseP ht),hf.waits,hf.bU,hc.sub,?_,Nat.le_trans (List.length_filter_le _ _) hf.l2,Nat.le_trans (List.length_eraseP_le) hf.l3,hf.l4,⟨?_,?_⟩,λr hm=>?_⟩
 ·rcases List.mem_append.1 hy with hy | hy
  ·exact hf.list y hy
  ·rw[List.mem_singleton.1 hy];exact hx
 ·rw[hl,List.length_append];have:=hc.long;simp only[List.length_singleton];omega
 ·refine a4.gp _ _ _ hf.run.1 ?_;rw[hf.run.2];exact⟨rfl,hc.no,hx.aH,by have:=hf.l1;simp only;omega,hf.l2⟩
 ·show a4.run _ (s.recs++[_])=_;rw[a4.fy,hf.run.2];rfl
 ·rcases List.mem_append.1 hm with hm | hm
  ·exact hf.enc r hm
  ·rw[List.mem_singleton.1 hm];exact⟨hr.1,hr.2,by have:=hz.g;omega⟩
theorem Fit.dd{z:aM}{s:aC}{x:ae}(hz:z.ok)(hf:Fit z s)(hc:rZ z s x)(hx:ch z x):Fit z (s.dd x):=by
 have hr:=iH hx;refine⟨hf.list,λy hy=>?_,hf.aF,hf.waits,hf.bU,hf.lX,hf.l1,?_,hf.l3,hf.l4,⟨?_,?_⟩,λr hm=>?_⟩
 ·rcases List.mem_append.1 hy with hy | hy
  ·exact hf.ay y hy
  ·rw[List.mem_singleton.1 hy];exact hx
 ·show(s.ay++[x]).length<=1;rw[hc.one];simp
 ·refine a4.gp _ _ _ hf.run.1 ?_;rw[hf.run.2];exact⟨hc.no,hc.CZ,hx.aH,by have:=hf.l1;simp only;omega,hf.l2⟩
 ·show a4.run _ (s.recs++[_])=_;rw[a4.fy,hf.run.2];rfl
 ·rcases List.mem_append.1 hm with hm | hm
  ·exact hf.enc r hm
  ·rw[List.mem_singleton.1 hm];exact⟨hr.1,hr.2,by have:=hz.g;omega⟩
theorem uf(n:Int)(a b:Int)(l m c d:Int)(A:Option Addr)(k e:Nat):(Program.built Tryz.prog 161 [(0,I af 2),(1,I ak n),(2,aE #[ag a,ag b,av l,av m,ag c,av d,aa,Y A k e])]).map Array.toList=some [I af 2,I ak n,I af a,I af b,I ak l,I ak m,I af c,I ak d,aa,Y A k e,I af 0,I ak 0,I ak 0]:=by kernel_rfl
theorem nZ(n:Int)(a b:Int)(l m c d:Int)(A:Option Addr)(k e:Nat)(w:World):(Instr.build 161 #[(0,I af 2),(1,I ak n),(2,aE #[ag a,ag b,av l,av m,ag c,av d,aa,Y A k e])]).run Tryz.prog w=.ok (aE #[ag 2,av n,ag a,ag b,av l,av m,ag c,av d,aa,Y A k e,ag 0,av 0,av 0]) w:=by
 obtain⟨cs,h1,h2⟩:=Option.map_eq_some_iff.1 (uf n a b l m c d A k e);rw[run_build w 161 _ cs h1];rw[show cs=#[I af 2,I ak n,I af a,I af b,I ak l,I ak m,I af c,I ak d,aa,Y A k e,I af 0,I ak 0,I ak 0] from Array.toList_inj.1 h2]
theorem pT(z:aM)(s:aC)(a:b4)(F S9:Nat->Prop)(x:ae)(A:Option Addr)(c:Nat)(w:World)(hz:z.ok)(h:bk w F z s a)(hf:Fit z s)(hc:jh z s x)(aD:ch z x)(hx:SliceAt aN w S9 A x.events):
 Calls Tryz.prog 201 #[aj a.bb,a3 x A c] w λe w'=>e=.returned (.bool true)/\∃a':b4,aY w w' F z (s.bP x) a a':=by
 obtain⟨v,hB,D⟩:=h.ex;obtain⟨w0,ar⟩:=am (w.alloc (.cells (a3 x A c) 132));have bD:ai w0 w 132 (a3 x A c):=by rw[ar];exact ai.made _ _ _
 have aU:=aV ar;obtain⟨xb,a0⟩:=am w.heap.size;rw[<-a0]at bD;have bj:=Lib.hid a0;clear a0;have hM:¬a.mut xb:=λe=>by have:=h.lt xb (h.own xb e);have:=bj.out;omega
 have nt:=l8 z s a F S9 x A c w0.drew hz ((h.below aU).ba (G:=λ_=>False) ⟨rfl,rfl,rfl,Nat.le_refl _,λ_ _ _=>rfl⟩ (λ_ _ h=>h)) hf hc aD (hx.below aU).fX;have aR:ai w0.drew a.bb 130 _:=ai.below (w':=w0) hB aU h.ce;have M:ai w0.drew xb 132 _:=bD;have bF:=λw=>nZ s.list.length x.kind x.id.au x.id.aq x.id.ax x.ah x.sub A x.events.length c w;have e8:IntKind.u64.wrap (s.list.length:Int)=s.list.length:=IntWalk.u64_in _ (by have:=hf.l1;omega);have y5:=aR.cell 5;unfold bi at y5;simp at y5;have HW:=fm aU h.lt h.ce;clear h hB D hf hc aD hx hz aR;obtain⟨bb,mr,mt,L⟩:=a;simp only at nt y5 hM ⊢;go_enter Tryz.func201,Tryz.ntmps201;go_wp2_with fail;rw[<-ar]
 try rw[<-bj.out]
 clear ar;refine wp_region_held_drew (S:=(λw'=>w'.cell? (aj xb)=some (I af x.kind)/\w'.cell? ⟨xb,1,none⟩=some (I af x.id.au)/\w'.cell? ⟨xb,2,none⟩=some (I ak x.id.aq)/\w'.cell? ⟨xb,3,none⟩=some (I ak x.id.ax)/\w'.cell? ⟨xb,4,none⟩=some (I af x.ah)/\w'.cell? ⟨xb,5,none⟩=some (I ak x.sub)/\w'.cell? ⟨xb,6,none⟩=some (aa)/\w'.cell? ⟨xb,7,none⟩=some (Y A x.events.length c))) (by kernel_rfl) (⟨M.cell 0,M.cell 1,M.cell 2,M.cell 3,M.cell 4,M.cell 5,M.cell 6,M.cell 7⟩) (λJ=>?_);refine tk 0 J ?_;refine tk 1 J ?_;refine tk 2 J ?_;refine tk 3 J ?_;refine tk 4 J ?_;refine tk 8 J ?_;refine aP 5 (λK ad=>?_);clear J;go_simp;clear y5;refine ad.out _ _ (⟨M.cell 0,M.cell 1,M.cell 2,M.cell 3,M.cell 4,M.cell 5,M.cell 6,M.cell 7⟩) (λJ=>?_);clear ad K;refine tk 6 J ?_;refine tk 7 J ?_;refine aP 9 (λK ad=>?_);clear J;go_simp;clear bF;refine ad.out _ _ (⟨M.cell 0,M.cell 1,M.cell 2,M.cell 3,M.cell 4,M.cell 5,M.cell 6,M.cell 7⟩) (λJ=>?_);clear ad K;refine aP 10 (λK ad=>?_);clear J;go_simp;refine nt.mono ?_;clear nt;rintro e w1 ⟨rfl,a',st⟩;have aB:=st.ba.aW M hM
 try dsimp only
 refine ad.out _ _ (⟨aB.cell 0,aB.cell 1,aB.cell 2,aB.cell 3,aB.cell 4,aB.cell 5,aB.cell 6,aB.cell 7⟩) (λJ=>?_);clear ad K;refine aP 11 (λK ad=>?_);clear J;go_simp;refine ad.out _ _ (⟨aB.cell 0,aB.cell 1,aB.cell 2,aB.cell 3,aB.cell 4,aB.cell 5,aB.cell 6,aB.cell 7⟩) (λJ=>?_);clear ad K;refine cB ?_ _;clear J;go_wp2;go_ret;exact⟨rfl,a',aY.from (w1:=w0.drew) ⟨HW.out.1.os,HW.out.1.tape,HW.out.1.output,HW.out.1.size,HW.out.1.block⟩ st⟩
end Go.Proofs.YtgblliofomgggaaGreat
