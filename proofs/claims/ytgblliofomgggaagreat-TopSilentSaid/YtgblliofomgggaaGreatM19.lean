import Derived.Deep.DeepFit
import Derived.Test.YtgblliofomgggaaGreatM01
import Derived.Test.YtgblliofomgggaaGreatM11
import Derived.Test.YtgblliofomgggaaGreatM18
import Derived.Test.YtgblliofomgggaaGreatM05
namespace Go.Proofs.YtgblliofomgggaaGreat
set_option maxRecDepth 100000
set_option maxHeartbeats 8000000
open Go.RowKit a7 bA p7
open Go.IntKind renaming i64 -> af,u64 -> ak
open Go.Value renaming int -> I,slice -> Y,pointer -> aL,agg -> aE
theorem yz(t:Int)(A:Option Addr)(n c:Nat):(Program.built Tryz.prog 178 [(0,I af t),(1,Y A n c)]).map Array.toList=some [I af t,Y A n c]:=by kernel_rfl
theorem wV(t:Int)(A:Option Addr)(n c:Nat)(w:World):(Instr.build 178 #[(0,I af t),(1,Y A n c)]).run Tryz.prog w=.ok (aE #[ag t,Y A n c]) w:=by
 obtain⟨cs,h1,h2⟩:=Option.map_eq_some_iff.1 (yz t A n c);rw[run_build w 178 _ cs h1];rw[show cs=#[I af t,Y A n c] from Array.toList_inj.1 h2]
def gV:dD (Nat×List UInt8):=⟨2,λw S u x=>∃A c,u=[I af x.1,Y A x.2.length c]/\Bytes w S A x.2,λh=>by
 obtain⟨A,c,rfl,_⟩:=h;rfl,λh v hv=>by
 obtain⟨A,c,rfl,_⟩:=h;simp only[List.mem_cons,List.not_mem_nil,or_false]at hv;rcases hv with rfl | rfl<;>rfl,λh g=>by
 obtain⟨A,c,rfl,h⟩:=h;exact⟨A,c,rfl,h.goes g⟩⟩
theorem pd(base ob to:Nat)(m:bc)(ma:fu)(bs:List UInt8)(acc:List (Nat×List UInt8))(v0:Value)(w:World)
 (ad:∀w',Below w w w'->Calls Tryz.prog 162 #[aE (m.cellsOf ma).toArray] w' λe w''=>∃u,e=.returned (.tuple #[u,ag 0])/\Row w'' w' u bs/\Below w' w' w'')
 (hm:acc.length<=50) (hO:ai w ob 175 #[v0]) (O:aD gV 178 w base (λb=>b<base) v0 acc) (bz:base<=w.heap.size) (bw:ob<base):
 Calls Tryz.prog 161 #[ag to,aE (m.cellsOf ma).toArray,aj ob] w λe w'=>(∃r,e=.returned r)/\∃v',ai w' ob 175 #[v']/\aD gV 178 w' base (λb=>b<base) v' (acc++[(to,bs)])/\aw (λb=>b=ob\/v0.ownBlock=some b) w w'/\∀b,v'.ownBlock=some b->v0.ownBlock=some b\/w.heap.size<=b:=by
 obtain⟨i0,z0,bM,bL,bB,bJ,bR⟩:=aS Tryz.zU;obtain⟨cm,cp,aO,cd,cj,cq,bT,cf⟩:=ma;unfold bc.cellsOf at ad ⊢;simp only at ad ⊢;obtain⟨w0,ar⟩:=am (w.alloc (.cells (fD m cm cp aO cd cj cq bT cf) 233));have bD:ai w0 w 233 (fD m cm cp aO cd cj cq bT cf):=by rw[ar];exact ai.made _ _ _
 have aU:=aV ar;obtain⟨xb,a0⟩:=am w.heap.size;rw[<-a0]at bD;have bj:=Lib.hid a0;clear a0;have en:=ad w0 aU;have J:=hO.below aU hO.lt;have cr:=hO.lt;obtain⟨x0,x1,x2,x3,x4,x5,x6,x7⟩:=bD.c8;simp at x0 x1 x2 x3 x4 x5 x6 x7;have bF:=λ(n c:Nat) (A:Option Addr) w=>wV (to:Int) A n c w;obtain⟨A3,n3,c3,rfl,a2,bY⟩:=O.form;have bH:=Lib.hid a2.out;have aa:n3<=50:=by rw[a2.out];exact hm
 clear ad hm a2;go_enter Tryz.func161,Tryz.ntmps161;go_wp2_with fail;rw[<-ar]
 try rw[<-bj.out]
 clear ar x0 x1 x2 x3 x4 x5 x6 x7;refine en.mono ?_;clear en;rintro e w1 ⟨u,rfl,M,b1⟩;obtain⟨A1,n1,c1,rfl,bv,bU⟩:=M.open_;have a6:=aU.trans (b1.mono aU.size);have aQ:=J.below b1 J.lt;have cl:=aQ.cell 0;simp at cl;have O1:=O.below a6;have bC:=(Below.refl w1 w1).alloc (Nat.le_refl _) (.cells #[ag to,Y A1 n1 c1] 178);have bI:gV.R (w1.alloc (.cells #[ag to,Y A1 n1 c1] 178)) (bm (λb=>b<base) (Y A3 n3 c3)) [ag to,Y A1 n1 c1] (to,bs):=
  ⟨A1,c1,by rw[show(to,bs).2.length=n1 from bv.out],(M.bytes (λb a7=>by
   have:=aU.size;rcases a7 with a7 | a7
   ·show b<w0.heap.size;omega
   ·have:=(O.lt a7).2;omega):Bytes w1 _ A1 bs).below bC⟩
 have I:=a6.size;go_wp2_with (at_builtin;refine a9 _ rfl (.tmp 14) (.tmp 18) 175 rfl gV base 178 i0 z0 32 Tryz.underlying175 bM bL bJ bR bB (by decide) (λb=>b<base) (Y A3 n3 c3) acc rfl (O1.below bC) (aj w1) 1 [ag to,Y A1 n1 c1] (to,bs) rfl (Src.made w1 _ _) bI (by rw[<-bH.out];unfold maxLen;omega) (by rw[<-bH.out];omega) (by simp;omega) ?_;rw[<-bH.out];intro A6 bX w6 O6 cz gr aZ;have aK:=(aQ.below bC aQ.lt).grown gr (λe=>by have:=(O1.lt e.symm).1;omega);have o6:=aK.cell 0;have b0:=aK.free 0;simp at o6);have bf:=aK.put 0 (Y A6 (n3+1) bX);simp only[List.setIfInBounds_toArray,List.set_cons_zero]at bf;have cg:=aR w6 ob 0 (Y A6 (n3+1) bX);have O7:=O6.dA cg (λe=>by have:=(O6.lt e).1;omega) (show ob<base from bw);have a5:aw (λb=>b=ob\/(Value.slice A3 n3 c3).ownBlock=some b) w (w6.setCell (aj ob) (Y A6 (n3+1) bX)):=(((aw.ao a6 (λb=>b=ob\/(Value.slice A3 n3 c3).ownBlock=some b)).trans (aw.ao bC λ_=>False) (λ_ _ h=>h.elim)).trans (aw.bN gr (F:=λb=>(Value.slice A3 n3 c3).ownBlock=some b) (λb a7=>a7)) (λb a7 e=>.inr e)).trans (aw.bN cg (F:=λb=>b=ob) (λb a7=>by injection a7 with a7;exact a7.symm)) (λ_ _ h=>.inl h)
 go_end0
 exact⟨⟨_,rfl⟩,_,bf,O7,a5,λb a7=>aZ.elim (λe=>.inl (e.symm.trans a7)) (λe=>.inr (by rw[e]at a7;injection a7 with a7;have:=bC.size;omega))⟩
def eM(z:aM)(s:aC):aC:=if z.me=0 then hd z s else s
def bc.kL(m:bc):List UInt8:=Pk.az 1++(Pk.az m.bf++(cK bD m.a5++(cK a1 m.asks++[])))
def bc.j4(m:bc):List UInt8:=Pk.az 2++(Pk.az m.bf++(cK a1 m.entries++(cK a1 m.aK++(Pk.az 0++(Pk.az 0++[])))))
def l6(z:aM)(s:aC):List (Nat×List UInt8):=if z.me=0 then []else [(z.p z.me,(bL z s).kL)]
def fS(z:aM)(s:aC)(l:List Nat):List (Nat×List UInt8):=l.map λk=>(k,(aZ z s k).j4)
def ft(z:aM)(s:aC):List (Nat×List UInt8):=l6 z (eM z s)++fS z (eM z s) (cg z)
structure jE (z:aM) (s:aC):Prop where
 work:z.me=0->ih z s
 fit:Fit z (eM z s)
 rep:z.me≠0->(b0 (eM z s).aF).length+cz (bz z (eM z s))<=15/\∀x∈dF z (eM z s),x.aH
 cmd:∀k∈cg z,fv z (eM z s) k
theorem hY{z:aM}{s:aC}(hf:Fit z s)(k:Nat):(∀x∈(aZ z s k).entries,x.aH)/\(∀x∈(aZ z s k).aK,x.aH)/\(aZ z s k).entries.length<=16/\(aZ z s k).aK.length<=16/\(aZ z s k).bf<=60:=by
 unfold aZ;refine⟨λx hx=>?_,λx hx=>?_,?_,?_,?_⟩
 ·simp only at hx;obtain⟨i,hi,rfl⟩:=List.mem_mapIdx.1 hx;exact pn (hf.list _ (List.mem_of_mem_drop (List.mem_of_mem_take (List.getElem_mem hi)))).aH
 ·simp only at hx;obtain⟨y,hy,rfl⟩:=List.mem_map.1 hx;refine pn ?_;have hy:=List.mem_of_mem_take hy;unfold gR at hy;split at hy
  ·exact(hf.waits _ hy).aH
  ·exact(hf.ay _ hy).aH
 ·simp only[List.length_mapIdx];unfold eU;rw[List.length_take];omega
 ·simp only[List.length_map,List.length_take];omega
 ·have:=hf.l1;show min _ _<=60;omega
theorem iN{z:aM}{s:aC}(hf:Fit z s)(h:(b0 s.aF).length+cz (bz z s)<=15):(∀v∈(bL z s).a5,v.aH)/\(bL z s).a5.length<=16/\(bL z s).asks.length<=16/\(bL z s).bf<=60:=by
 unfold bL dM;refine⟨λv hv=>?_,?_,?_,hf.l1⟩
 ·obtain⟨x,hx,rfl⟩:=List.mem_map.1 hv;exact(hf.ay x (List.mem_filter.1 hx).1).aH.id
 ·simp only[List.length_map];have:=List.length_filter_le (λx=>b9 (bz z s) x.id) s.ay;have:=hf.l2;omega
 ·have:=gN s.list (b0 s.aF) (bz z s);show(fk _ _ _).length<=16;omega
theorem qy(S:Nat->Prop)(z:aM)(s:aC)(k:Nat)(ma:fu)(w:World)(hf:Fit z s)(h:cI w S (aZ z s k) ma):
 Calls Tryz.prog 162 #[aE ((aZ z s k).cellsOf ma).toArray] w λe w'=>∃u,e=.returned (.tuple #[u,ag 0])/\Row w' w u (aZ z s k).j4/\Below w w w':=by
 obtain⟨g1,g2,g3,g4,g5⟩:=hY hf k;exact wL S _ _ (aZ z s k).bf (aZ z s k).entries (aZ z s k).aK ma w (by omega) rfl g3 h.entries g1 rfl g4 h.aK g2
theorem rK(S:Nat->Prop)(z:aM)(s:aC)(ma:fu)(w:World)(hf:Fit z s)(hs:(b0 s.aF).length+cz (bz z s)<=15)(hg:∀x∈dF z s,x.aH)(h:cI w S (bL z s) ma):
 Calls Tryz.prog 162 #[aE ((bL z s).cellsOf ma).toArray] w λe w'=>∃u,e=.returned (.tuple #[u,ag 0])/\Row w' w u (bL z s).kL/\Below w w w':=by
 obtain⟨g1,g2,g3,g4⟩:=iN hf hs;exact yd S _ _ (bL z s).bf (bL z s).a5 (bL z s).asks ma w (by omega) rfl g2 h.a5 g1 rfl g3 h.asks hg
theorem tK(z:aM)(s:aC)(l:List Nat)(i:Nat)(h:i<l.length):fS z s (l.take (i+1))=fS z s (l.take i)++[(l[i],(aZ z s l[i]).j4)]:=by
 unfold fS;rw[List.take_succ_eq_append_getElem h,List.map_append];rfl
theorem tg{P:Prop}(h:P:=by
 have kd:=mN z s1 bg F1 wq HH.out.1 (bH.out.below bf);rw[<-bG.out]at kd;go_wp2_with fail;go_fit kd;clear kd;rintro e wk ⟨dk,rfl,OK,aN⟩;obtain⟨AK,nK,cN,rfl,bl,cu⟩:=OK.form;have ck:=bf.trans (aN.mono bf.size);have cq:=a1.below aN a1.lt;have cw:=O8.below aN;have bF:=ge HH.out.1;have cp:nK<=16:=by rw[bl.out];exact bF.1
 obtain⟨Sk,cf⟩:∃Sk:Nat->Prop,Sk=λb=>b<wq.heap.size\/wk.heap.size<=b:=⟨_,rfl⟩;have bo:=Lib.hid (show ∀b,Sk b↔(b<wq.heap.size\/wk.heap.size<=b) from λb=>by rw[cf]);have sK:SliceAt b5 wk Sk AK (cg z):=(OK.slice (S':=λb=>b<wq.heap.size) (λb a7=>a7) (λb a7=>a7)).cJ (λb a7 e=>((bo.out b).1 e).elim id (λe=>by omega));have bB:∀b,v8.ownBlock=some b->Sk b:=λb a7=>(bo.out b).2 (.inl (O8.lt a7).2);have b1:Sk ob:=(bo.out ob).2 (.inl a1.lt);have bN:=Lib.hid bF.2;clear OK cf bF;go_wp2_with fail
 go_loopw [52] (λi_ wr=>∃ (i:Nat) (v:Value),i_=I af i/\i<=nK/\ai wr ob 175 #[v]/\aD gV 178 wr base (λb=>b<base) v (pre++fS z s1 ((cg z).take i))/\Below w1 w1 wr/\SliceAt b5 wr Sk AK (cg z)/\(∀b,v.ownBlock=some b->Sk b)/\wk.heap.size<=wr.heap.size) (λi _=>nK- (intOf i).toNat)
 case atStart=>exact⟨0,v8,rfl,by omega,cq,by simpa[fS]using cw,ck,sK,bB,Nat.le_refl _⟩
 case round=>
  obtain⟨i,v,rfl,hi,hOr,ca,br,cc,cn,bJ⟩:=hrel;by_cases bA:i<nK
  ·have bu:i<(cg z).length:=(by have:=bl.out;omega);have bE:(i:Int)<(nK:Int):=(by omega);obtain⟨b,b0,u,rfl,bV,b8,bx,hcell,hu⟩:=cc.at_ bu (by decide);have aR:u=[I af ((cg z)[i]:Nat)]:=hu;rw[aR]at hcell;have d0:wr.cell? ⟨b,b0+i,none⟩=some (I af ((cg z)[i]:Nat)):=(by simpa[b5]using hcell 0 _ rfl);have bW:=HH.out.2.2.2.1 _ (List.getElem_mem bu);have a2:=(Tr.e0.1 (List.getElem_mem bu)).1;have a4:=Lib.hid (tK z s1 (cg z) i bu);obtain⟨k,hk⟩:=am ((cg z)[i]);rw[<-hk]at d0 bW a2 a4;have cx:=ud z s1 bg F1 k wr HH.out.1 (bH.out.below br) HH.out.2.1 a2 bW;rw[<-bG.out]at cx;have cr:=hOr.lt;have hlen:(pre++fS z s1 ((cg z).take i)).length<=50:=(by rw[List.length_append];unfold fS;rw[List.length_map,List.length_take];omega);have ar:=Lib.hid hlen;clear hcell bx hu aR hk bW a2 hlen;go_wp2_with fail;go_fit cx;clear cx d0;rintro e w5 ⟨ma,rfl,MA,bS⟩;have a9:=hOr.below bS hOr.lt;have O5:=ca.below bS;have sd:=pd base ob k (aZ z s1 k) ma (aZ z s1 k).j4 _ v w5 (λw' a7=>qy _ z s1 k _ w' HH.out.2.1 (MA.below a7)) ar.out a9 O5 (by have:=bS.size;have:=aN.size;omega) bC;clear MA;go_wp2_with fail;go_fit sd;clear sd;rintro e w6 ⟨⟨r6,rfl⟩,v6,aK,O6,t6,cm⟩;have gS:Goes Sk wr Sk w6:=⟨t6.os.trans bS.os,t6.tape.trans bS.tape,t6.output.trans bS.output,Nat.le_trans bS.size t6.size,λb a7 aL=>(t6.aI b (Nat.lt_of_lt_of_le a7 bS.size) (λe=>aL (e.elim (λe=>by rw[e];exact b1) (cn b)))).trans (bS.block b a7),λ_ _ e=>e⟩;have b6:Below w1 w1 w6:=(br.trans (bS.mono br.size)).trans (t6.below (Nat.le_trans br.size bS.size) (λb a7 e=>by rcases e with e | e;(rw[e];exact Nat.le_of_eq aE.out.symm);(have:=(O5.lt e).1;have:=aE.out;omega)));go_wp2
   go_round
   case rel=>exact⟨i+1,v6,by go_num,by omega,aK,by rw[a4.out,<-List.append_assoc];exact O6,b6,cc.goes gS,λb a7=>(cm b a7).elim (cn b) (λe=>(bo.out b).2 (.inr (by have:=bS.size;omega))),by have:=gS.size;omega⟩
   case measure=>simp[intOf];omega
  ·obtain rfl:i=nK:=(by omega);rw[bl.out,List.take_length]at ca;have cl:=hOr.cell 0;simp at cl;go_wp2;go_ret;exact⟨v,base,bg,rfl,by have:=aE.out;omega,ca,bM.out.lN br⟩
 ):P:=h
theorem Bx(z:aM)(s:aC)(a:b4)(F:Nat->Prop)(w:World)(hz:z.ok)(h:bk w F z s a)(hf:Fit z s)(hc:jE z s):
 Calls Tryz.prog 95 #[aj a.bb] w λe w'=>∃ (v:Value) (B:Nat) (a':b4),e=.returned v/\w.heap.size<=B/\aD gV 178 w' B (λb=>b<B) v (ft z s)/\aY w w' F z (eM z s) a a':=by
 have wk:Calls Tryz.prog 160 #[aj a.bb] w λe w'=>(∃r,e=.returned r)/\∃a':b4,aY w w' F z (eM z s) a a':=by
  by_cases h0:z.me=0
  ·refine(nU z s a F w hz h hf h0 (hc.work h0)).mono ?_;rintro e w' ⟨hr,a',st⟩;exact⟨hr,a',by unfold eM;rw[if_pos h0];exact st⟩
  ·refine(lT z s a F w h h0).mono ?_;rintro e w' ⟨hr,rfl⟩;exact⟨hr,a,by unfold eM;rw[if_neg h0];exact aY.below h (Below.refl _ _)⟩
 obtain⟨bb,az⟩:=am a.bb;rw[<-az]at wk ⊢;have aH:=hc.fit;have bj:=hc.rep;have a5:=hc.cmd;unfold ft;obtain⟨s1,bQ⟩:=am (eM z s);rw[<-bQ]at wk aH bj a5 ⊢;have HH:=ja hz aH bj a5 az;have ct:=hz.me;have a3:=hz.n;obtain⟨pre,aF⟩:=am (l6 z s1);rw[<-aF];have a0:=Lib.hid (show(z.me=0->pre=[])/\(z.me≠0->pre=[]++[(z.p z.me,(bL z s1).kL)]) from⟨λe=>by rw[aF];unfold l6;rw[if_pos e],λe=>by rw[aF];unfold l6;rw[if_neg e];rfl⟩);clear hz h hf hc aH bj a5 az bQ aF;go_enter Tryz.func95,Tryz.ntmps95;go_wp2_with fail;refine wk.mono ?_;clear wk;rintro e w1 ⟨⟨r,rfl⟩,bg,aO⟩;have H1:=aO.at_;have bs:bb=bg.bb:=HH.out.2.2.2.2.trans aO.bb.symm;obtain⟨F1,M⟩:=am (New F w w1);rw[<-M]at H1;have bM:=Lib.hid aO;have bH:=Lib.hid H1;have bG:=Lib.hid bs;obtain⟨w2,a8⟩:=am (w1.alloc (.cells #[aa] 175));have bZ:ai w2 w1 175 #[aa]:=by rw[a8];exact ai.made _ _ _
 have b2:=aV a8;have au:w2.heap.size=w1.heap.size+1:=by rw[a8];simp
 obtain⟨ob,bw⟩:=am w1.heap.size;rw[<-bw]at bZ;have aE:=Lib.hid bw;have ro:=gY z s1 bg F1 w2 (bH.out.below b2);rw[<-bs]at ro;obtain⟨mb,b7⟩:=am (decide (z.me=0));rw[<-b7]at ro;have aw:=Lib.hid b7;obtain⟨base,av⟩:=am w2.heap.size;have bC:ob<base:=by omega
 have cD:w.heap.size<=w1.heap.size:=aO.ba.size;have bX:=Lib.hid av;clear H1 aO M bs bw b7 au av;go_wp2_with fail;rw[<-a8]
 try rw[<-aE.out]
 clear a8;go_fit ro;clear ro;rintro e w3 ⟨rfl,rfl⟩;cases mb
 case false=>
  have bd:z.me≠0:=of_decide_eq_false aw.out.symm;have hr:=HH.out.2.2.1 bd;obtain⟨vb,bp,Dq⟩:=(bH.out.below b2).ex;rw[<-bG.out]at bp;unfold bi at bp;obtain⟨⟨bv,bm,ax,pb,off,aQ,bh,bn,a6⟩,aS⟩:=Dq.par;have pk:=a6 z.me (by omega) ct;have hg:=ax z.me (by omega) ct;rw[aQ]at bp;have bE:(z.me:Int)<(z.n:Int):=(by omega);have dj:=HH.out.2.1.l1;have HD:=Lib.hid Dq;have aJ:ai w2.drew bb 130 _:=bp;have aG:ai w2.drew ob 175 _:=bZ;have ae:Below w1 w1 w2.drew:=⟨b2.os,b2.tape,b2.output,b2.size,b2.block⟩;have aq:w2.drew.cell? ⟨pb,off+z.me,none⟩=some (I af (z.p z.me)):=pk;have la:=lu z s1 bg F1 w2.drew HH.out.1 (bH.out.below ae);rw[<-bG.out]at la;have e8:IntKind.u64.wrap (s1.list.length:Int)=s1.list.length:=IntWalk.u64_in _ (by omega);have cj:pb<w1.heap.size:=bH.out.lt pb (Classical.byContradiction λaL=>aS pb off aQ (.inl aL));clear a6 bn aS aQ ax bv bm Dq bh;go_wp2_with fail;have bU:Below w2 w2 w2.drew:=⟨rfl,rfl,rfl,Nat.le_refl _,λ_ _=>rfl⟩;refine wp_region_held_drew (S:=(λw'=>w'.cell? (aj bb)=some (I af z.me)/\w'.cell? ⟨bb,1,none⟩=some (Y (some ⟨pb,off,none⟩) z.n vb.cP)/\w'.cell? ⟨bb,5,none⟩=some (Y vb.AL s1.list.length vb.cL)/\w'.cell? ⟨bb,6,none⟩=some (Y vb.AQ s1.ay.length vb.cQ)/\w'.cell? ⟨bb,11,none⟩=some (aa)/\w'.cell? ⟨pb,off+z.me,none⟩=some (I af (z.p z.me)))) (by kernel_rfl) (⟨aJ.cell 0,aJ.cell 1,aJ.cell 5,aJ.cell 6,aJ.cell 11,aq⟩) (λJ=>?_);refine tk 0 J ?_;refine tk 1 J ?_;refine tk 2 J ?_;refine tk 3 J ?_;refine tk 4 J ?_;refine tk 5 J ?_;refine tk 6 J ?_;refine tk 7 J ?_;refine tk 8 J ?_;refine tk 9 J ?_;refine tk 10 J ?_;refine tk 11 J ?_;refine tk 12 J ?_;refine tk 13 J ?_;refine tk 14 J ?_;refine tk 15 J ?_;refine tk 16 J ?_;refine tk 17 J ?_;refine tk 18 J ?_;refine tk 19 J ?_;refine tk 20 J ?_;refine tk 21 J ?_;refine tk 22 J ?_;refine tk 23 J ?_;refine tk 24 J ?_;refine tk 25 J ?_;refine tk 26 J ?_;refine tk 27 J ?_;refine tk 30 J ?_;refine aP 28 (λK ad=>?_);clear J;go_simp;go_fit la;clear la;rintro e w4 ⟨vM,rfl,OM,bK⟩;obtain⟨AM,nM,ds,rfl,bc,dB⟩:=OM.form;have bt:=aJ.below bK aJ.lt;have ch:=aG.below bK aG.lt;have bI:=cell_later bK aq;have aU:=bU.trans (bK.mono bU.size);have aT:=ae.trans (bK.mono ae.size);have bF:=(ge HH.out.1).1;have tl:=tV (bO F1 bg) (λ_=>False) vb.AQ AM _ vb.cQ nM ds s1.ay (bz z s1) w4 rfl (by have:=HH.out.2.1.l2;omega) (HD.out.prom.goes (.ao aU _)) bc.out (by rw[bc.out];unfold bz;rw[List.length_map];omega) (OM.slice (λb h=>h.elim) (λb h=>h.elim)) (λm hm=>by have:=(kc HH.out.2.1 m hm).2.1;omega);clear bF
  try dsimp only
  refine ad.out _ _ (⟨bt.cell 0,bt.cell 1,bt.cell 5,bt.cell 6,bt.cell 11,bI⟩) (λJ=>?_);clear ad K;refine aP 29 (λK ad=>?_);clear J;go_simp;go_fit tl;clear tl;rintro e w5 ⟨vV,rfl,OV,bS⟩;obtain⟨AV,nV,cV,rfl,bY,cv⟩:=OV.form;have cb:=bt.below bS bt.lt;have a9:=ch.below bS ch.lt;have bP:=cell_later bS bI;have bT:=aU.trans (bS.mono aU.size);have ah:=aT.trans (bS.mono aT.size);have ask:=vH z s1 bg F1 w5 HH.out.1 (bH.out.below ah) HH.out.2.1 hr.1;rw[<-bG.out]at ask
  try dsimp only
  refine ad.out _ _ (⟨cb.cell 0,cb.cell 1,cb.cell 5,cb.cell 6,cb.cell 11,bP⟩) (λJ=>?_);clear ad K;refine aP 31 (λK ad=>?_);clear J;go_simp;go_fit ask;clear ask;rintro e w6 ⟨vA,rfl,OA,b6⟩;obtain⟨AA,nA,c6,rfl,cK,db⟩:=OA.form;have b9:=cb.below b6 cb.lt;have aK:=a9.below b6 a9.lt;have bR:=cell_later b6 bP;have bq:=bT.trans (b6.mono bT.size);have aA:=ah.trans (b6.mono ah.size);have b3:=OV.below b6;have sV:SliceAt dm w6 (λ_=>False) AV (dM s1.ay (bz z s1)):=b3.slice (λb h=>h.elim) (λb h=>h.elim);have sA:SliceAt aB w6 (λ_=>False) AA (dF z s1):=OA.slice (λb h=>h.elim) (λb h=>h.elim);have MA:cI w6 (λ_=>False) (bL z s1) ⟨AV,cV,AA,c6,none,0,none,0⟩:=⟨sV,sA,SliceAt.nil _ _ _ _,SliceAt.nil _ _ _ _⟩;have sd:=pd base ob (z.p z.me) (bL z s1) ⟨AV,cV,AA,c6,none,0,none,0⟩ (bL z s1).kL [] aa w6 (λw' a7=>rK _ z s1 _ w' HH.out.2.1 hr.1 hr.2 (MA.below a7)) (by simp) aK (aD.nil _ _ _ _ _) (by have:=bX.out;have:=aU.size;have:=bS.size;have:=b6.size;omega) bC;rw[show((bL z s1).cellsOf ⟨AV,cV,AA,c6,none,0,none,0⟩).toArray=#[I af 1,I ak s1.list.length,Y AV nV cV,Y AA nA c6,aa,aa,aa,aa] by rw[bY.out,cK.out];rfl]at sd;clear MA b3 sV sA
  try dsimp only
  refine ad.out _ _ (⟨b9.cell 0,b9.cell 1,b9.cell 5,b9.cell 6,b9.cell 11,bR⟩) (λJ=>?_);clear ad K;refine tk 32 J ?_;refine aP 33 (λK ad=>?_);clear J;go_simp;go_fit sd;clear sd e8;rintro e wq ⟨⟨r8,rfl⟩,v8,a1,O8,t8,cy⟩;have cA:=t8.aW b9 (λe=>by have:=bH.out.ce;have:=bG.out;have:=aE.out;rcases e with e | e;(omega);(cases e));have cd:wq.cell? ⟨pb,off+z.me,none⟩=some (I af (z.p z.me)):=(World.cell?_of_block (w:=w6) (w':=wq) (a:=⟨pb,off+z.me,none⟩) (t8.aI pb (Nat.lt_of_lt_of_le cj aA.size) (λe=>by have:=aE.out;rcases e with e | e;(omega);(cases e)))).trans bR
  try dsimp only
  refine ad.out _ _ (⟨cA.cell 0,cA.cell 1,cA.cell 5,cA.cell 6,cA.cell 11,cd⟩) (λJ=>?_);clear ad K;refine cB ?_ _;clear J;have bf:Below w1 w1 wq:=aA.trans (t8.below aA.size (λb a7 e=>by rcases e with e | e;(rw[e];exact Nat.le_of_eq aE.out.symm);(cases e)));have ag:=a0.out.2 bd;have bh:pre.length<=1:=(by rw[ag];simp);rw[<-ag]at O8;have aX:base<=wq.heap.size:=(by have:=bX.out;have:=aU.size;have:=bS.size;have:=b6.size;have:=t8.size;omega);clear ag hr bd bp aJ bt cb b9 cA pk aq bI bP bR cd ch a9 aK aG;clear OM OV OA t8 cy bK bS b6 aA ah aT aU bT bq bU bE hg dj HD cj ae;clear bc dB bY cv cK db;exact tg
 case true=>
  obtain⟨wq,bD⟩:=am w2;have a1:=bZ;have O8:aD gV 178 w2 base (λb=>b<base) aa []:=aD.nil _ _ _ _ _;obtain⟨v8,bB⟩:∃v8:Value,v8=aa:=⟨_,rfl⟩;have bf:=b2;rw[<-bB]at a1 O8;rw[<-bD]at a1 O8 bf ⊢;have ag:pre=[]:=a0.out.1 (of_decide_eq_true aw.out.symm);rw[<-ag]at O8;have bh:pre.length<=1:=(by rw[ag];simp);have aX:base<=wq.heap.size:=(by rw[bD];exact Nat.le_of_eq bX.out);clear bD ag bB;exact tg
theorem bk.A9{z:aM}{s:aC}{a:b4}{F:Nat->Prop}{w1 w2:World}(h:bk w1 F z s a){k:Nat}{m:bc}{ma:fu}(hM:cI w1 (bO F a) m ma)
 (hu:∀f,dh w1 a.mr f->dh w2 a.mr (λb=>if b=(k:Int)then some (aE (m.cellsOf ma).toArray)else f b)) (g:w1.grownBy w2 (some a.mr)):bk w2 F z (s.told k m) a/\aw (λb=>b=a.mr) w1 w2:=by
 have t:aw (λb=>b=a.mr) w1 w2:=aw.bN g (λb a7=>(Option.some.inj a7).symm);have kk:Goes (bO F a) w1 (bO F a) w2:=⟨t.os,t.tape,t.output,t.size,λb a7 aL=>t.aI b a7 (λe=>aL (.inr (.inr (.inl e)))),λ_ _ e=>e⟩;have aI:∀b,b<w1.heap.size->b≠a.mr->w2.heap[b]? =w1.heap[b]? :=λb a7 ay=>t.aI b a7 ay;obtain⟨v,hB,D⟩:=h.ex;have hl:=h.log;obtain⟨f,hm,hf⟩:=h.bU.ex;have M:=D.goes kk;refine⟨⟨⟨v,(aI _ h.ce h.apart.b1).trans hB,⟨M.par,M.homes,M.list,M.cap,M.prom,M.aF,M.waits,M.mX,M.nx⟩⟩,⟨_,hu f hm,λj=>⟨λhj=>?_,λq hq=>?_⟩⟩,(aI _ (h.lt _ (h.own _ (.inr (.inr (.inl rfl))))) (Ne.symm h.apart.m1)).trans h.told,?_,h.apart,h.own,λb a7=>Nat.lt_of_lt_of_le (h.lt b a7) t.size⟩,t⟩
 ·unfold aC.told at hj;simp only at hj;split at hj
  ·cases hj
  ·rename_i ay;rw[if_neg (by omega)];exact(hf j).1 hj
 ·unfold aC.told at hq;simp only at hq;split at hq
  ·rename_i he;injection hq with hq;subst hq;exact⟨ma,by rw[if_pos (by omega)],hM.goes kk⟩
  ·rename_i ay;obtain⟨aK,h1,h2⟩:=(hf j).2 q hq;exact⟨aK,by rw[if_neg (by omega)];exact h1,h2.goes kk⟩
 ·exact hl.ba t (λb _ e=>.inr (.inr (.inl e))) (λb a7 e=>h.apart.m2 (e▸a7)) kk.only (λb a7=>.inr (.inr (.inr (.inr a7))))
theorem bk.zg{z:aM}{s:aC}{a:b4}{F:Nat->Prop}{w1:World}(h:bk w1 F z s a){k:Nat}{m:bc}{ma:fu}(hk:k<1000)(hM:cI w1 (bO F a) m ma):
 ∃w2,(Instr.mapUpdate 127 (.map (some a.mr)) (ag k) (aE (m.cellsOf ma).toArray)).run Tryz.prog w1=.ok () w2/\bk w2 F z (s.told k m) a/\aw (λb=>b=a.mr) w1 w2/\w2.heap.size=w1.heap.size:=by
 obtain⟨f,hm,hf⟩:=h.bU.ex;have wf:=ei (a:=(k:Int)) (by omega);obtain⟨w2,hr,a9,g,sz⟩:=bo Tryz.underlying127 hm (aE (m.cellsOf ma).toArray) wf;have:=h.A9 hM (λf' aa=>by
  obtain⟨w3,aJ,aD,_⟩:=bo Tryz.underlying127 aa (aE (m.cellsOf ma).toArray) wf;rw[hr]at aJ;injection aJ with _ e;rw[e];exact aD) g
 exact⟨w2,hr,this.1,this.2,sz⟩
theorem mW(z:aM)(s:aC)(a:b4)(F:Nat->Prop)(k:Nat)(m:bc)(A:Option Addr)(n c:Nat)(w:World)(hz:z.ok)(h:bk w F z s a)(hf:Fit z s)(hk:k∈cg z)(hc:j8 z s k m)(hm:m=⟨1,m.bf,m.a5,m.asks,[],[]⟩)(aN:∀v∈m.a5,v.aH)(aF:∀x∈m.asks,x.aH)(a9:m.a5.length<=16)(b9:m.asks.length<=16)(cr:m.bf<=1000)
 (aL:m.kL.length=n) (hA:Src w A (aA m.kL)):
 Calls Tryz.prog 99 #[aj a.bb,ag k,Y A n c] w λe w'=>e=.returned (ag 0)/\∃a':b4,aY w w' F z (eQ z s k m) a a':=by
 have a3:=Tr.e0.1 hk;have aI:(cg z).contains k=true:=List.contains_iff_mem.2 hk;have dh:k<16:=by have:=hz.n;omega
 obtain⟨v,hB,D⟩:=h.ex;have bs:=h.ce;obtain⟨bb,az⟩:=am a.bb;obtain⟨mr,a4⟩:=am a.mr;rw[<-az]at hB bs ⊢;have bG:=Lib.hid az;have a2:=Lib.hid a4;unfold bi at hB;rw[<-a4]at hB;have HS:=di aL hA;have HH:=B1 h hf hz hc hm aN aF a9 b9 cr;clear aN aF a9 b9 cr hk;have HD:=Lib.hid D;clear h hf hz hc hm aL hA az a4 D;have kd:=mN z s a F w HH.out.2.2.1 HH.out.1;rw[<-bG.out]at kd;go_enter Tryz.func99,Tryz.ntmps99;go_wp2_with fail;go_fit kd;clear kd;rintro e w1 ⟨dk,rfl,OK,b1⟩;obtain⟨AK,nK,cN,rfl,bl,cu⟩:=OK.form;have bF:=(ge HH.out.2.2.1).1;have ci:=hZ (λ_=>False) AK nK cN k (cg z) w1 bl.out (by rw[bl.out];omega) (OK.slice (λb h=>h.elim) (λb h=>h.elim));rw[aI]at ci;clear bF OK;go_wp2_with fail;go_fit ci;clear ci;rintro e w2 ⟨rfl,b2⟩;have bo:=b1.trans (b2.mono b1.size);have bq:=hB.below bo bs;have ah:Below w w w2.drew:=⟨bo.os,bo.tape,bo.output,bo.size,bo.block⟩;have aJ:ai w2.drew bb 130 _:=bq;have ro:=gY z s a F w2.drew (HH.out.1.below ah);rw[<-bG.out]at ro;clear bq;have ar:=HH.out.2.2.1.me;by_cases h0:z.me=0
 focus
  rw[decide_eq_true h0]at ro;go_wp2_with fail;refine wp_region_held_drew (S:=(λw'=>w'.cell? (aj bb)=some (I af z.me)/\w'.cell? ⟨bb,1,none⟩=some (Y v.AP z.n v.cP))) (by kernel_rfl) (⟨aJ.cell 0,aJ.cell 1⟩) (λJ=>?_);refine tk 0 J ?_;refine aP 1 (λK ad=>?_);clear J;go_simp;go_fit ro;clear ro;rintro e w3 ⟨rfl,rfl⟩
  try dsimp only
  refine ad.out _ _ (⟨aJ.cell 0,aJ.cell 1⟩) (λJ=>?_);clear ad K;refine tk 2 J ?_;refine tk 3 J ?_;refine fa 4 J ?_;refine fa 5 J ?_;refine fa 6 J ?_;refine fa 7 J ?_;refine fa 8 J ?_;refine fa 9 J ?_;refine fa 10 J ?_;refine fa 11 J ?_;refine fa 12 J ?_;refine fa 13 J ?_;refine fa 14 J ?_;refine fa 15 J ?_;refine tk 16 J ?_;refine tk 17 J ?_;refine cB ?_ _;clear J;clear aJ
 rotate_left
 focus
  rw[decide_eq_false h0]at ro;have aU:((k:Int)==(z.p z.me:Int))=false:=by
   have h1:=HD.out.par.1.2.2.1 k (by omega) (by omega);have h2:=HD.out.par.1.2.2.1 z.me (by omega) ar;rw[beq_eq_false_iff_ne];omega
  obtain⟨⟨bv,bm,ax,pb,off,aQ,bh,bn,a6⟩,aS⟩:=HD.out.par;have au:=ax z.me (by omega) ar;have pk:=a6 z.me (by omega) ar;have aq:w2.drew.cell? ⟨pb,off+z.me,none⟩=some (I af (z.p z.me)):=cell_later ah pk;rw[aQ]at aJ;have aX:(z.me:Int)<(z.n:Int):=(by omega);clear a6 bn aS aQ ax bv bm pk;go_wp2_with fail;refine wp_region_held_drew (S:=(λw'=>w'.cell? (aj bb)=some (I af z.me)/\w'.cell? ⟨bb,1,none⟩=some (Y (some ⟨pb,off,none⟩) z.n v.cP)/\w'.cell? ⟨pb,off+z.me,none⟩=some (I af (z.p z.me)))) (by kernel_rfl) (⟨aJ.cell 0,aJ.cell 1,aq⟩) (λJ=>?_);refine tk 0 J ?_;refine aP 1 (λK ad=>?_);clear J;go_simp;go_fit ro;clear ro;rintro e w3 ⟨rfl,rfl⟩
  try dsimp only
  refine ad.out _ _ (⟨aJ.cell 0,aJ.cell 1,aq⟩) (λJ=>?_);clear ad K;refine tk 2 J ?_;refine tk 3 J ?_;refine tk 4 J ?_;refine tk 5 J ?_;refine tk 6 J ?_;refine tk 7 J ?_;refine tk 8 J ?_;refine tk 9 J ?_;refine tk 10 J ?_;refine tk 11 J ?_;refine tk 12 J ?_;refine tk 13 J ?_;refine tk 14 J ?_;refine tk 15 J ?_;refine tk 16 J ?_;refine tk 17 J ?_;refine cB ?_ _;clear J;clear aJ aq aX au aU bh
 all_goals
  obtain⟨wd,aE⟩:=am w2.drew;rw[<-aE]at ah ⊢;clear aE bo b1 b2 bl cu;obtain⟨hv,vo,qs,aR⟩:∃ (hv:Nat) (vo:List PId) (qs:List ae),m=⟨1,hv,vo,qs,[],[]⟩:=⟨_,_,_,HH.out.2.2.2.2.1⟩;have HM:=Lib.hid aR;obtain⟨_,_,_,_,_,g1,g2,l1,l2,l3⟩:=HH.out;obtain⟨aL,hA⟩:=HS.out;rw[aR]at g1 g2 l1 l2 l3 aL hA;have dc:=qi A n c hv vo qs wd (by simp only at l3;omega) l1 g1 l2 g2 aL (hA.below ah);unfold bc.cellsOf at dc;simp only at dc;clear aR g1 g2 l1 l2 l3 aL hA;go_wp2_with fail;go_fit dc;clear dc;rintro e w3 ⟨⟨cm,cp,aO,cd,cj,cq,bT,cf⟩,rfl,MA,b3⟩;have br:=ah.trans (b3.mono ah.size);obtain⟨w4,bd⟩:=am (w3.alloc (.cells #[ag 1,av hv,Y cm vo.length cp,Y aO qs.length cd,Y cj 0 cq,Y bT 0 cf,aa,aa] 233));have bD:ai w4 w3 233 #[ag 1,av hv,Y cm vo.length cp,Y aO qs.length cd,Y cj 0 cq,Y bT 0 cf,aa,aa]:=(by rw[bd];exact ai.made _ _ _);have bK:=aV bd;obtain⟨xb,a0⟩:=am w3.heap.size;rw[<-a0]at bD;have bj:=Lib.hid a0;have bp:=br.trans (bK.mono br.size);have bt:=hB.below bp bs;have x0:=bD.cell 0;simp at x0;have aZ:=MA.below bK;clear a0 MA;have aK:Below w w w4.drew:=⟨bp.os,bp.tape,bp.output,bp.size,bp.block⟩;have hN:bk w4.drew (New F w w4.drew) z s a:=HH.out.1.new aK;have aT:cI w4.drew (λb=>b<wd.heap.size) ⟨1,hv,vo,qs,[],[]⟩ ⟨cm,cp,aO,cd,cj,cq,bT,cf⟩:=aZ.goes ⟨rfl,rfl,rfl,Nat.le_refl _,λ_ _ _=>rfl,λ_ _ e=>e⟩;have MF:cI w4.drew (bO (New F w w4.drew) a) ⟨1,hv,vo,qs,[],[]⟩ ⟨cm,cp,aO,cd,cj,cq,bT,cf⟩:=aT.cJ (S':=bO (New F w w4.drew) a) (λb a7 e=>Classical.byContradiction λaL=>by
   have aL:¬b<wd.heap.size:=aL;have h1:=ah.size;rcases e with e | e
   ·exact e (.inr ⟨by omega,a7⟩)
   ·have:=HH.out.1.lt b (HH.out.1.own b e);omega)
  obtain⟨w5,ay,cb,t5,a1⟩:=hN.zg (k:=k) (by omega) MF;unfold bc.cellsOf at ay;rw[<-a2.out]at ay;simp only[List.length_nil]at ay;rw[show((1:Nat):Int)=1 from rfl]at ay;have aJ:ai w4.drew bb 130 _:=bt;have M:ai w4.drew xb 233 _:=bD;have ck:aY w w5 F z (s.told k m) a a:=by
   rw[HM.out];exact⟨cb.more (λb a7=>a7.imp id (λe=>⟨e.1,by rw[a1];exact e.2⟩)) (New.lt HH.out.1.lt (by rw[a1];exact aK.size)),(aw.ao aK _).trans t5 (λb _ e=>.inr (.inl e)),rfl,λ_ a7=>.inl a7,⟨rfl,rfl,rfl⟩⟩
  have aD:xb≠mr:=(by have:=bj.out;have:=a2.out;have:=HH.out.1.lt _ (HH.out.1.own a.mr (.inr (.inl rfl)));have:=br.size;omega);have aG:=t5.aW aJ (λe=>HH.out.1.apart.b1 (by rw[<-bG.out];exact e));have ca:=t5.aW M (λe=>aD (e.trans a2.out.symm));have wk:Calls Tryz.prog 160 #[aj a.bb] w5 λe w'=>(∃r,e=.returned r)/\∃a':b4,aY w5 w' (New F w w5) z (eQ z s k m) a a':=by
   by_cases aB:z.me=0
   ·refine(nU z _ a _ w5 HH.out.2.2.1 ck.at_ HH.out.2.2.2.1.fit aB (HH.out.2.2.2.1.work aB)).mono ?_;rintro e w' ⟨hr,a',st⟩;exact⟨hr,a',by unfold eQ;rw[if_pos aB];exact st⟩
   ·refine(lT z _ a _ w5 ck.at_ aB).mono ?_;rintro e w' ⟨hr,rfl⟩;exact⟨hr,a,by unfold eQ;rw[if_neg aB];exact aY.below ck.at_ (Below.refl _ _)⟩
  rw[<-bG.out]at wk;clear hN MF aT cb t5 aZ bt;go_wp2_with fail;rw[<-bd]
  try rw[<-bj.out]
  clear bd x0;refine wp_region_held_drew (S:=(λw'=>w'.cell? ⟨bb,10,none⟩=some (.map (some mr))/\w'.cell? (aj xb)=some (I af 1)/\w'.cell? ⟨xb,1,none⟩=some (I ak hv)/\w'.cell? ⟨xb,2,none⟩=some (Y cm vo.length cp)/\w'.cell? ⟨xb,3,none⟩=some (Y aO qs.length cd)/\w'.cell? ⟨xb,4,none⟩=some (Y cj 0 cq)/\w'.cell? ⟨xb,5,none⟩=some (Y bT 0 cf)/\w'.cell? ⟨xb,6,none⟩=some (aa)/\w'.cell? ⟨xb,7,none⟩=some (aa))) (by kernel_rfl) (⟨aJ.cell 10,M.cell 0,M.cell 1,M.cell 2,M.cell 3,M.cell 4,M.cell 5,M.cell 6,M.cell 7⟩) (λJ=>?_);refine tk 0 J ?_;refine tk 1 J ?_;refine tk 2 J ?_;refine tk 3 J ?_;refine tk 4 J ?_;refine tk 5 J ?_;refine aP 6 (λK ad=>?_);clear J;go_simp;refine ad.out _ _ (⟨aG.cell 10,ca.cell 0,ca.cell 1,ca.cell 2,ca.cell 3,ca.cell 4,ca.cell 5,ca.cell 6,ca.cell 7⟩) (λJ=>?_);clear ad K;refine cB ?_ _;clear J;go_wp2_with fail;go_fit wk;clear wk;rintro e w6 ⟨⟨r,rfl⟩,a',st⟩;go_wp2;go_ret;exact⟨rfl,a',ck.trans st⟩
theorem mK(z:aM)(s:aC)(a:b4)(F:Nat->Prop)(m:bc)(A:Option Addr)(n c:Nat)(w:World)(hz:z.ok)(h:bk w F z s a)(hf:Fit z s)(ct:z.me≠0)(hc:nc z s m)(M:m.aK.length<=16)(hm:m=⟨2,m.bf,[],[],m.entries,m.aK⟩)
 (aL:m.j4.length=n) (hA:Src w A (aA m.j4)):
 Calls Tryz.prog 99 #[aj a.bb,ag (z.p z.me),Y A n c] w λe w'=>e=.returned (ag 0)/\∃a':b4,aY w w' F z (iB m s) a a':=by
 have ar:=hz.me;have a3:=hz.n;obtain⟨v,hB,D⟩:=h.ex;have bs:=h.ce;obtain⟨bb,az⟩:=am a.bb;obtain⟨mr,a4⟩:=am a.mr;rw[<-az]at hB bs ⊢;have bG:=Lib.hid az;have a2:=Lib.hid a4;unfold bi at hB;rw[<-a4]at hB;have HS:=di aL hA;have ax:=D.par.1.2.2.1;have aI:(cg z).contains (z.p z.me)=false:=by
  cases aT:(cg z).contains (z.p z.me)with
  | false=>rfl
  | true=>
   have h1:=Tr.e0.1 (List.contains_iff_mem.1 aT);have h2:=ax z.me (by omega) hz.me;have a1:=ax (z.p z.me) h1.2.1 h1.1;omega
 have HH:=lv h hf hz hc hm M;clear ax;have HD:=Lib.hid D;clear h hf hz hc hm aL hA az a4 D;have kd:=mN z s a F w HH.out.2.2.1 HH.out.1;rw[<-bG.out]at kd;go_enter Tryz.func99,Tryz.ntmps99;go_wp2_with fail;go_fit kd;clear kd;rintro e w1 ⟨dk,rfl,OK,b1⟩;obtain⟨AK,nK,cN,rfl,bl,cu⟩:=OK.form;have bF:=(ge HH.out.2.2.1).1;have ci:=hZ (λ_=>False) AK nK cN (z.p z.me) (cg z) w1 bl.out (by rw[bl.out];omega) (OK.slice (λb h=>h.elim) (λb h=>h.elim));rw[aI]at ci;clear bF OK;go_wp2_with fail;go_fit ci;clear ci;rintro e w2 ⟨rfl,b2⟩;have bo:=b1.trans (b2.mono b1.size);have bq:=hB.below bo bs;have ah:Below w w w2.drew:=⟨bo.os,bo.tape,bo.output,bo.size,bo.block⟩;have aJ:ai w2.drew bb 130 _:=bq;have ro:=gY z s a F w2.drew (HH.out.1.below ah);rw[<-bG.out]at ro;clear bq;rw[decide_eq_false ct]at ro;have aU:((z.p z.me:Int)==(z.p z.me:Int))=true:=beq_self_eq_true _;obtain⟨⟨bv,bm,ax,pb,off,aQ,bh,bn,a6⟩,aS⟩:=HD.out.par;have au:=ax z.me (by omega) ar;have pk:=a6 z.me (by omega) ar;have aq:w2.drew.cell? ⟨pb,off+z.me,none⟩=some (I af (z.p z.me)):=cell_later ah pk;rw[aQ]at aJ;have aX:(z.me:Int)<(z.n:Int):=by omega
 clear a6 bn aS aQ ax bv bm pk;go_wp2_with fail;refine wp_region_held_drew (S:=(λw'=>w'.cell? (aj bb)=some (I af z.me)/\w'.cell? ⟨bb,1,none⟩=some (Y (some ⟨pb,off,none⟩) z.n v.cP)/\w'.cell? ⟨pb,off+z.me,none⟩=some (I af (z.p z.me)))) (by kernel_rfl) (⟨aJ.cell 0,aJ.cell 1,aq⟩) (λJ=>?_);refine tk 0 J ?_;refine aP 1 (λK ad=>?_);clear J;go_simp;go_fit ro;clear ro;rintro e w3 ⟨rfl,rfl⟩
 try dsimp only
 refine ad.out _ _ (⟨aJ.cell 0,aJ.cell 1,aq⟩) (λJ=>?_);clear ad K;refine tk 2 J ?_;refine tk 3 J ?_;refine tk 4 J ?_;refine tk 5 J ?_;refine tk 6 J ?_;refine tk 7 J ?_;refine tk 8 J ?_;refine tk 9 J ?_;refine tk 10 J ?_;refine tk 11 J ?_;refine tk 12 J ?_;refine tk 13 J ?_;refine tk 14 J ?_;refine tk 15 J ?_;refine tk 16 J ?_;refine tk 17 J ?_;refine cB ?_ _;clear J;clear aJ aq aX au aU bh;obtain⟨wd,aE⟩:=am w2.drew;rw[<-aE]at ah ⊢;clear aE bo b1 b2 bl cu;obtain⟨hv,en,pr,aR⟩:∃ (hv:Nat) (en pr:List ae),m=⟨2,hv,[],[],en,pr⟩:=⟨_,_,_,HH.out.2.2.2.2.1⟩;have HM:=Lib.hid aR;obtain⟨_,_,_,hc,_,M⟩:=HH.out;obtain⟨aL,hA⟩:=HS.out;have g1:=λx hx=>(hc.g1 x hx).aH;have g2:=λx hx=>(hc.g2 x hx).aH;have l1:=hc.l1;have l3:=hc.l2;rw[aR]at g1 g2 l1 M l3 aL hA;have dc:=qM A n c hv en pr wd (by simp only at l3;omega) l1 g1 M g2 aL (hA.below ah);unfold bc.cellsOf at dc;simp only at dc;clear aR g1 g2 l1 M l3 aL hA hc;go_wp2_with fail;go_fit dc;clear dc;rintro e w3 ⟨⟨cm,cp,aO,cd,cj,cq,bT,cf⟩,rfl,MA,b3⟩;have br:=ah.trans (b3.mono ah.size);obtain⟨w4,bd⟩:=am (w3.alloc (.cells #[ag 2,av hv,Y cm 0 cp,Y aO 0 cd,Y cj en.length cq,Y bT pr.length cf,aa,aa] 233));have bD:ai w4 w3 233 #[ag 2,av hv,Y cm 0 cp,Y aO 0 cd,Y cj en.length cq,Y bT pr.length cf,aa,aa]:=by rw[bd];exact ai.made _ _ _
 have bK:=aV bd;obtain⟨xb,a0⟩:=am w3.heap.size;rw[<-a0]at bD;have bj:=Lib.hid a0;have bp:=br.trans (bK.mono br.size);have bt:=hB.below bp bs;have x0:=bD.cell 0;simp at x0;have aZ:=MA.below bK;clear a0 MA;have hc:=HH.out.2.2.2.1;rw[HM.out]at hc;have ob:=A6 z s a F (λb=>b<wd.heap.size) ⟨2,hv,[],[],en,pr⟩ ⟨cm,cp,aO,cd,cj,cq,bT,cf⟩ w4 HH.out.2.2.1 (HH.out.1.below bp) HH.out.2.1 aZ (λb a7=>Nat.lt_of_lt_of_le (HH.out.1.lt b (HH.out.1.own b a7)) ah.size) hc.l1 hc.l2 hc.g1 hc.g2 hc.c1 hc.l3 hc.c2;rw[<-bG.out,<-HM.out]at ob;rw[HM.out]at ob;unfold bc.cellsOf at ob;simp only at ob;clear hc;go_wp2_with fail;rw[<-bd];clear bd x0;go_fit ob;clear ob;rintro e w5 ⟨⟨r,rfl⟩,a',st⟩;go_wp2;go_ret;exact⟨rfl,a',by rw[HM.out];exact aY.from bp st⟩
theorem wC(b c:Nat):(Program.built Tryz.prog 32 [(0,I af b),(1,I ak 1),(2,I ak ((c:Int)+1))]).map Array.toList=some [I af b,I ak 1,I ak ((c:Int)+1)]:=by kernel_rfl
theorem xF(b c:Nat)(w:World):(Instr.build 32 #[(0,I af b),(1,I ak 1),(2,I ak ((c:Int)+1))]).run Tryz.prog w=.ok (aE #[ag b,av 1,av ((c:Int)+1)]) w:=by
 obtain⟨cs,h1,h2⟩:=Option.map_eq_some_iff.1 (wC b c);rw[run_build w 32 _ cs h1];rw[show cs=#[I af b,I ak 1,I ak ((c:Int)+1)] from Array.toList_inj.1 h2]
theorem uv(b l s c n:Int):(Program.built Tryz.prog 132 [(0,I af 2),(1,aE #[ag b,av l,av s]),(2,I af c),(3,I ak n),(4,aa)]).map Array.toList=some [I af 2,I af b,I ak l,I ak s,I af c,I ak n,aa,aa]:=by kernel_rfl
theorem tW(b l s c n:Int)(w:World):(Instr.build 132 #[(0,I af 2),(1,aE #[ag b,av l,av s]),(2,I af c),(3,I ak n),(4,aa)]).run Tryz.prog w=.ok (aE #[ag 2,ag b,av l,av s,ag c,av n,aa,aa]) w:=by
 obtain⟨cs,h1,h2⟩:=Option.map_eq_some_iff.1 (uv b l s c n);rw[run_build w 132 _ cs h1];rw[show cs=#[I af 2,I af b,I ak l,I ak s,I af c,I ak n,aa,aa] from Array.toList_inj.1 h2]
theorem uu(b l s c n:Int):(Program.built Tryz.prog 132 [(0,I af 3),(1,aE #[ag b,av l,av s]),(2,I af c),(3,I ak n)]).map Array.toList=some [I af 3,I af b,I ak l,I ak s,I af c,I ak n,aa,aa]:=by kernel_rfl
theorem uN(b l s c n:Int)(w:World):(Instr.build 132 #[(0,I af 3),(1,aE #[ag b,av l,av s]),(2,I af c),(3,I ak n)]).run Tryz.prog w=.ok (aE #[ag 3,ag b,av l,av s,ag c,av n,aa,aa]) w:=by
 obtain⟨cs,h1,h2⟩:=Option.map_eq_some_iff.1 (uu b l s c n);rw[run_build w 132 _ cs h1];rw[show cs=#[I af 3,I af b,I ak l,I ak s,I af c,I ak n,aa,aa] from Array.toList_inj.1 h2]
theorem vv(z:aM)(s:aC)(a:b4)(F:Nat->Prop)(c:Nat)(w:World)(h:bk w F z s a)(hz:z.ok)(hc:c<z.homes.length)(hh:z.homes[c]=z.me):
 Calls Tryz.prog 60 #[aj a.bb,ag c] w λe w'=>e=.returned (.bool true)/\Below w w w':=by
 obtain⟨v,hB,D⟩:=h.ex;have bs:=h.ce;obtain⟨bb,az⟩:=am a.bb;rw[<-az]at hB bs ⊢;have bG:=Lib.hid az;unfold bi at hB;have aL:=hz.n;have h2:=hz.h2;obtain⟨b,off,u,hA,bV,b8,bx,hcell,hu⟩:=D.homes.at_ hc (by decide);have aR:u=[I af (z.homes[c]:Nat)]:=hu;rw[aR,hh]at hcell;have d0:w.cell? ⟨b,off+c,none⟩=some (I af (z.me:Nat)):=by simpa[b5]using hcell 0 _ rfl
 rw[hA]at hB;have bA:(c:Int)<(z.homes.length:Int):=by omega
 obtain⟨nh,M⟩:=am z.homes.length;rw[<-M]at hB bA h2;have g1:decide ((0:Int)<=(c:Int))=true:=decide_eq_true (by omega);have ct:z.me<32:=by have:=hz.me;omega
 clear h hz hh bx hcell hu aR b8 D M hc az hA;go_enter Tryz.func60,Tryz.ntmps60;have aJ:ai w.drew bb 130 _:=hB;have dd:w.drew.cell? ⟨b,off+c,none⟩=some (I af (z.me:Nat)):=d0;go_wp2_with fail;refine wp_region_held_drew (S:=(λw'=>w'.cell? (aj bb)=some (I af z.me)/\w'.cell? ⟨bb,2,none⟩=some (Y (some ⟨b,off,none⟩) nh v.cH)/\w'.cell? ⟨b,off+c,none⟩=some (I af (z.me:Nat)))) (by kernel_rfl) (⟨aJ.cell 0,aJ.cell 2,dd⟩) (λJ=>?_);refine tk 0 J ?_;refine tk 1 J ?_;refine tk 2 J ?_;refine tk 3 J ?_;refine tk 4 J ?_;refine tk 5 J ?_;refine tk 6 J ?_;refine tk 7 J ?_;refine tk 8 J ?_;refine tk 9 J ?_;refine tk 10 J ?_;refine tk 11 J ?_;refine tk 12 J ?_;refine tk 13 J ?_;refine tk 14 J ?_;refine tk 15 J ?_;refine tk 16 J ?_;refine tk 17 J ?_;refine tk 18 J ?_;refine tk 19 J ?_;refine tk 20 J ?_;refine tk 21 J ?_;refine tk 22 J ?_;refine tk 23 J ?_;refine tk 24 J ?_;refine tk 25 J ?_;refine cB ?_ _;clear J;go_wp2;go_ret;exact⟨rfl,⟨rfl,rfl,rfl,Nat.le_refl _,λ_ _=>rfl⟩⟩
theorem pz{z:aM}{s:aC}{a:b4}{F:Nat->Prop}{w:World}(h:bk w F z s a){v:yl}(hB:ai w a.bb 130 (bi z s a v).toArray)(D:oG w (bO F a) z s v){A:Option Addr}{n c:Nat}{l:List ct}(aL:n=l.length)(hl:SliceAt bg w (bO F a) A l):
 aY w (w.setCell ⟨a.bb,8,none⟩ (Y A n c)) F z {s with aF:=l} a a:=by
 refine h.put (s':={s with aF:=l}) (v':={v with AT:=A,cT:=c}) (Below.refl _ _) 8 (Y A n c) rfl ?_ (λkk=>?_) rfl rfl
 ·have:=hB.put 8 (Y A n c);unfold bi at this ⊢;rw[aL]at this ⊢;simpa using this
 ·have:=D.goes kk;exact⟨this.par,this.homes,this.list,this.cap,this.prom,hl.goes kk,this.waits,this.mX,this.nx⟩
theorem vQ(z:aM)(s:aC)(a:b4)(F:Nat->Prop)(A:Option Addr)(n c:Nat)(l:List ct)(w:World)(h:bk w F z s a)(aL:n=l.length)(hl:SliceAt bg w (bO F a) A l):
 Calls Tryz.prog 57 #[aj a.bb,Y A n c,ag 0] w λe w'=>e=.returned (ag 0)/\aY w w' F z {s with aF:=l} a a:=by
 obtain⟨v,hB,D⟩:=h.ex;have st:=pz h hB D (c:=c) aL hl;obtain⟨bb,az⟩:=am a.bb;rw[<-az]at hB st ⊢;have y8:=hB.cell 8;have f8:=hB.free 8;unfold bi at y8;simp at y8;clear h hB D aL hl az;go_enter Tryz.func57,Tryz.ntmps57;go_wp2;go_ret;exact⟨rfl,st⟩
theorem w3(bb:Nat)(v:Value)(e:Int)(w:World)(he:e≠0):
 Calls Tryz.prog 57 #[aj bb,v,ag e] w λe' w'=>e'=.returned (ag e)/\w=w':=by
 have g:(e==0)=false:=by rw[beq_eq_false_iff_ne];exact he
 go_enter Tryz.func57,Tryz.ntmps57;go_wp2;go_ret;exact⟨rfl,rfl⟩
theorem qG{P:Prop}(h:P:=by
 refine cB ?_ _;clear J;go_wp2;go_ret2;exact⟨_,rfl,(O1.mono aB).weak (λb a7=>Nat.lt_of_lt_of_le a7 aB),aK.trans (b1.mono aK.size)⟩
 ):P:=h
theorem sJ(z:aM)(s:aC)(a:b4)(F:Nat->Prop)(pb cb ah _sub:Nat)(id:PId)(w:World)(h:bk w F z s a)(hf:Fit z s)(hl:s.aF.length<8)(bl:ai w pb 80 #[aj a.bb])(M:ai w cb 3 #[ag ah])(hg:((⟨1,id,ah,0,[]⟩:ae)).aH)(a7:dZ (⟨1,id,ah,0,[]⟩:ae)=false)(aA:dj s.aF id= -1):
 Calls Tryz.prog 55 #[id.val,aj pb,aj cb] w λe w'=>∃v,e=.returned (.tuple #[v,ag 0])/\aD bg 148 w' w (λb=>b<w.heap.size) v (s.aF++[⟨⟨1,id,ah,0,[]⟩,false⟩])/\Below w w w':=by
 obtain⟨v,hB,D⟩:=h.ex;have bs:=h.ce;obtain⟨bb,az⟩:=am a.bb;rw[<-az]at hB bs bl;have bG:=Lib.hid az;unfold bi at hB;unfold PId.val;obtain⟨w0,ar⟩:=am (w.alloc (.cells (bY id) 32));have hI:ai w0 w 32 (bY id):=by rw[ar];exact ai.made _ _ _
 have aU:=aV ar;obtain⟨ib,aQ⟩:=am w.heap.size;rw[<-aQ]at hI;have a4:=Lib.hid aQ;clear aQ;have aN:=bl.below aU bl.lt;have aL:=M.below aU M.lt;have aR:=hB.below aU bs;have aw:ai w0.drew pb 80 _:=aN;have ay:ai w0.drew cb 3 _:=aL;have aJ:ai w0.drew bb 130 _:=aR;have aG:ai w0.drew ib 32 _:=hI;have aK:Below w w w0.drew:=⟨aU.os,aU.tape,aU.output,aU.size,aU.block⟩;have a0:=wP (bO F a) v.AT _ v.cT s.aF id ah w0.drew rfl hl (D.aF.goes (.ao aK _)) (λt ht=>(hf.aF t ht).aH) hg aA a7;unfold PId.val at a0;have aB:=aU.size;clear h hf D hg a7 aA hl aU hB aR hI az bl M aN aL;go_enter Tryz.func55,Tryz.ntmps55;go_wp2_with fail;rw[<-ar]
 try rw[<-a4.out]
 clear ar;refine wp_region_held_drew (S:=(λw'=>w'.cell? ⟨bb,8,none⟩=some (Y v.AT s.aF.length v.cT)/\w'.cell? (aj ib)=some (I af id.au)/\w'.cell? ⟨ib,1,none⟩=some (I ak id.aq)/\w'.cell? ⟨ib,2,none⟩=some (I ak id.ax)/\w'.cell? (aj pb)=some (.pointer (aj bb))/\w'.cell? (aj cb)=some (I af ah))) (by kernel_rfl) (⟨aJ.cell 8,aG.cell 0,aG.cell 1,aG.cell 2,aw.cell 0,ay.cell 0⟩) (λJ=>?_);refine tk 0 J ?_;refine tk 1 J ?_;refine tk 2 J ?_;refine tk 3 J ?_;refine tk 4 J ?_;refine tk 5 J ?_;refine aP 6 (λK ad=>?_);clear J;go_simp;go_fit a0;clear a0;rintro e w1 ⟨v1,rfl,O1,b1⟩;have aX:=aw.below b1 aw.lt;have aY:=ay.below b1 ay.lt;have aE:=aJ.below b1 aJ.lt;have aI:=aG.below b1 aG.lt
 try dsimp only
 refine ad.out _ _ (⟨aE.cell 8,aI.cell 0,aI.cell 1,aI.cell 2,aX.cell 0,aY.cell 0⟩) (λJ=>?_);clear ad K;refine tk 7 J ?_;refine tk 8 J ?_;refine tk 9 J ?_;refine tk 10 J ?_;exact qG
theorem wQ(z:aM)(s:aC)(a:b4)(F:Nat->Prop)(pb cb nb fb ah sub:Nat)(id:PId)(w:World)(h:bk w F z s a)(hf:Fit z s)(hl:s.aF.length<8)(bl:ai w pb 80 #[aj a.bb])(M:ai w cb 3 #[ag ah])(aS:ai w nb 30 #[av sub])(aO:ai w fb 53 #[aa])(hg:((⟨2,id,ah,sub,[]⟩:ae)).aH)(a7:dZ (⟨2,id,ah,sub,[]⟩:ae)=false)(aA:dj s.aF id= -1):
 Calls Tryz.prog 48 #[id.val,aj pb,aj cb,aj nb,aj fb] w λe w'=>∃v,e=.returned (.tuple #[v,ag 0])/\aD bg 148 w' w (λb=>b<w.heap.size) v (s.aF++[⟨⟨2,id,ah,sub,[]⟩,true⟩])/\Below w w w':=by
 obtain⟨v,hB,D⟩:=h.ex;have bs:=h.ce;obtain⟨bb,az⟩:=am a.bb;rw[<-az]at hB bs bl;have bG:=Lib.hid az;unfold bi at hB;unfold PId.val;obtain⟨w0,ar⟩:=am (w.alloc (.cells (bY id) 32));have hI:ai w0 w 32 (bY id):=by rw[ar];exact ai.made _ _ _
 have aU:=aV ar;obtain⟨ib,aQ⟩:=am w.heap.size;rw[<-aQ]at hI;have a4:=Lib.hid aQ;clear aQ;have aN:=bl.below aU bl.lt;have aL:=M.below aU M.lt;have aW:=aS.below aU aS.lt;have a2:=aO.below aU aO.lt;have aR:=hB.below aU bs;have aw:ai w0.drew pb 80 _:=aN;have ay:ai w0.drew cb 3 _:=aL;have aT:ai w0.drew nb 30 _:=aW;have aZ:ai w0.drew fb 53 _:=a2;have aJ:ai w0.drew bb 130 _:=aR;have aG:ai w0.drew ib 32 _:=hI;have aK:Below w w w0.drew:=⟨aU.os,aU.tape,aU.output,aU.size,aU.block⟩;have a0:=wc (bO F a) (λ_=>False) v.AT none _ v.cT 0 s.aF ⟨2,id,ah,sub,[]⟩ w0.drew rfl hl (D.aF.goes (.ao aK _)) (λt ht=>(hf.aF t ht).aH) hg (SliceAt.nil _ _ _ _) aA a7;unfold ae.cellsOf at a0;simp only[List.length_nil]at a0;have aB:=aU.size;clear h hf D hg a7 aA hl aU hB aR hI az bl M aS aO aN aL aW a2;have bF:=λw=>tW id.au id.aq id.ax ah sub w;go_enter Tryz.func48,Tryz.ntmps48;go_wp2_with fail;rw[<-ar]
 try rw[<-a4.out]
 clear ar;refine wp_region_held_drew (S:=(λw'=>w'.cell? ⟨bb,8,none⟩=some (Y v.AT s.aF.length v.cT)/\w'.cell? (aj ib)=some (I af id.au)/\w'.cell? ⟨ib,1,none⟩=some (I ak id.aq)/\w'.cell? ⟨ib,2,none⟩=some (I ak id.ax)/\w'.cell? (aj pb)=some (.pointer (aj bb))/\w'.cell? (aj cb)=some (I af ah)/\w'.cell? (aj nb)=some (I ak sub)/\w'.cell? (aj fb)=some (aa))) (by kernel_rfl) (⟨aJ.cell 8,aG.cell 0,aG.cell 1,aG.cell 2,aw.cell 0,ay.cell 0,aT.cell 0,aZ.cell 0⟩) (λJ=>?_);refine tk 0 J ?_;refine tk 1 J ?_;refine tk 2 J ?_;refine tk 3 J ?_;refine tk 4 J ?_;refine tk 5 J ?_;refine tk 6 J ?_;refine tk 7 J ?_;refine tk 8 J ?_;refine aP 9 (λK ad=>?_);clear J;go_simp;go_fit a0;clear a0;rintro e w1 ⟨v1,rfl,O1,b1⟩;have aX:=aw.below b1 aw.lt;have aY:=ay.below b1 ay.lt;have a1:=aT.below b1 aT.lt;have a3:=aZ.below b1 aZ.lt;have aE:=aJ.below b1 aJ.lt;have aI:=aG.below b1 aG.lt
 try dsimp only
 refine ad.out _ _ (⟨aE.cell 8,aI.cell 0,aI.cell 1,aI.cell 2,aX.cell 0,aY.cell 0,a1.cell 0,a3.cell 0⟩) (λJ=>?_);clear ad K;refine tk 10 J ?_;refine tk 11 J ?_;refine tk 12 J ?_;refine tk 13 J ?_;exact qG
theorem r4(z:aM)(s:aC)(a:b4)(F:Nat->Prop)(pb cb nb ah sub:Nat)(id:PId)(w:World)(h:bk w F z s a)(hf:Fit z s)(hl:s.aF.length<8)(bl:ai w pb 80 #[aj a.bb])(M:ai w cb 3 #[ag ah])(aS:ai w nb 30 #[av sub])(hg:((⟨3,id,ah,sub,[]⟩:ae)).aH)(a7:dZ (⟨3,id,ah,sub,[]⟩:ae)=false)(aA:dj s.aF id= -1):
 Calls Tryz.prog 54 #[id.val,aj pb,aj cb,aj nb] w λe w'=>∃v,e=.returned (.tuple #[v,ag 0])/\aD bg 148 w' w (λb=>b<w.heap.size) v (s.aF++[⟨⟨3,id,ah,sub,[]⟩,true⟩])/\Below w w w':=by
 obtain⟨v,hB,D⟩:=h.ex;have bs:=h.ce;obtain⟨bb,az⟩:=am a.bb;rw[<-az]at hB bs bl;have bG:=Lib.hid az;unfold bi at hB;unfold PId.val;obtain⟨w0,ar⟩:=am (w.alloc (.cells (bY id) 32));have hI:ai w0 w 32 (bY id):=by rw[ar];exact ai.made _ _ _
 have aU:=aV ar;obtain⟨ib,aQ⟩:=am w.heap.size;rw[<-aQ]at hI;have a4:=Lib.hid aQ;clear aQ;have aN:=bl.below aU bl.lt;have aL:=M.below aU M.lt;have aW:=aS.below aU aS.lt;have aR:=hB.below aU bs;have aw:ai w0.drew pb 80 _:=aN;have ay:ai w0.drew cb 3 _:=aL;have aT:ai w0.drew nb 30 _:=aW;have aJ:ai w0.drew bb 130 _:=aR;have aG:ai w0.drew ib 32 _:=hI;have aK:Below w w w0.drew:=⟨aU.os,aU.tape,aU.output,aU.size,aU.block⟩;have a0:=wc (bO F a) (λ_=>False) v.AT none _ v.cT 0 s.aF ⟨3,id,ah,sub,[]⟩ w0.drew rfl hl (D.aF.goes (.ao aK _)) (λt ht=>(hf.aF t ht).aH) hg (SliceAt.nil _ _ _ _) aA a7;unfold ae.cellsOf at a0;simp only[List.length_nil]at a0;have aB:=aU.size;clear h hf D hg a7 aA hl aU hB aR hI az bl M aS aN aL aW;have bF:=λw=>uN id.au id.aq id.ax ah sub w;go_enter Tryz.func54,Tryz.ntmps54;go_wp2_with fail;rw[<-ar]
 try rw[<-a4.out]
 clear ar;refine wp_region_held_drew (S:=(λw'=>w'.cell? ⟨bb,8,none⟩=some (Y v.AT s.aF.length v.cT)/\w'.cell? (aj ib)=some (I af id.au)/\w'.cell? ⟨ib,1,none⟩=some (I ak id.aq)/\w'.cell? ⟨ib,2,none⟩=some (I ak id.ax)/\w'.cell? (aj pb)=some (.pointer (aj bb))/\w'.cell? (aj cb)=some (I af ah)/\w'.cell? (aj nb)=some (I ak sub))) (by kernel_rfl) (⟨aJ.cell 8,aG.cell 0,aG.cell 1,aG.cell 2,aw.cell 0,ay.cell 0,aT.cell 0⟩) (λJ=>?_);refine tk 0 J ?_;refine tk 1 J ?_;refine tk 2 J ?_;refine tk 3 J ?_;refine tk 4 J ?_;refine tk 5 J ?_;refine tk 6 J ?_;refine tk 7 J ?_;refine aP 8 (λK ad=>?_);clear J;go_simp;go_fit a0;clear a0;rintro e w1 ⟨v1,rfl,O1,b1⟩;have aX:=aw.below b1 aw.lt;have aY:=ay.below b1 ay.lt;have a1:=aT.below b1 aT.lt;have aE:=aJ.below b1 aJ.lt;have aI:=aG.below b1 aG.lt
 try dsimp only
 refine ad.out _ _ (⟨aE.cell 8,aI.cell 0,aI.cell 1,aI.cell 2,aX.cell 0,aY.cell 0,a1.cell 0⟩) (λJ=>?_);clear ad K;refine tk 9 J ?_;refine tk 10 J ?_;refine tk 11 J ?_;refine tk 12 J ?_;exact qG
theorem qN(z:aM)(s:aC)(a:b4)(F:Nat->Prop)(K c:Nat)(aa:Array Value)(l:List ct)(w:World)(hz:z.ok)(h:bk w F z s a)(ad:Real K)(hc:c<z.homes.length)(hh:z.homes[c]=z.me)(aq:s.calls<1000)
 (M:∀w',Below w w w'->Calls Tryz.prog K (#[(⟨z.me,1,s.calls+1⟩:PId).val]++aa) w' λe w''=>∃v,e=.returned (.tuple #[v,ag 0])/\aD bg 148 w'' w' (λb=>b<w'.heap.size) v l/\Below w' w' w''):
 Calls Tryz.prog 47 #[aj a.bb,ag c,.func (.func K) #[] aa] w λe w'=>e=.returned (.tuple #[(⟨z.me,1,s.calls+1⟩:PId).val,ag 0])/\aY w w' F z {s with aF:=l,calls:=s.calls+1} a a:=by
 have bZ:∀ (args:Array Value) (w:World),(callFunc K args).run Tryz.prog w=.ok (.enter K args) w:=ad;obtain⟨v,hB,D⟩:=h.ex;have bs:=h.ce;obtain⟨bb,az⟩:=am a.bb;rw[<-az]at hB bs ⊢;have bG:=Lib.hid az;unfold bi at hB;have aL:=hz.n;have hm:=hz.me;have HH:=fm h hz M;have HD:=Lib.hid D;have ew:IntKind.u64.wrap ((s.calls:Int)+1)=(s.calls:Int)+1:=IntWalk.u64_in _ (by omega);obtain⟨w0,ar⟩:=am (w.alloc (.cells ep 32));have ay:ai w0 w 32 ep:=by rw[ar];exact ai.made _ _ _
 have aU:=aV ar;obtain⟨rb,bh⟩:=am w.heap.size;rw[<-bh]at ay;have bn:=Lib.hid bh;have ho:=vv z s a F c w0 (h.below aU) hz hc hh;rw[<-bG.out]at ho;unfold PId.val at M ⊢;have aR:=hB.below aU bs;have bF:=λw=>xF z.me s.calls w;clear h hz M hh bh az D;go_enter Tryz.func47,Tryz.ntmps47;go_wp2_with fail;rw[<-ar]
 try rw[<-bn.out]
 clear ar;go_fit ho;clear ho;rintro e w1 ⟨rfl,b1⟩;have a6:=aU.trans (b1.mono aU.size);have aE:=aR.below b1 aR.lt;have bz:=ay.below b1 ay.lt;have aK:Below w w w1.drew:=⟨a6.os,a6.tape,a6.output,a6.size,a6.block⟩;have aJ:ai w1.drew bb 130 _:=aE;have aA:ai w1.drew rb 32 _:=bz;go_wp2_with fail;refine wp_region_held_drew (S:=(λw'=>w'.cell? (aj bb)=some (I af z.me)/\w'.cell? ⟨bb,4,none⟩=some (I ak 1)/\w'.cell? ⟨bb,9,none⟩=some (I ak s.calls))) (by kernel_rfl) (⟨aJ.cell 0,aJ.cell 4,aJ.cell 9⟩) (λJ=>?_);refine tk 0 J ?_;refine tk 1 J ?_;refine tk 2 J ?_;refine tk 3 J ?_;refine tk 4 J ?_;refine tk 5 J ?_;refine tk 6 J ?_;refine tk 7 J ?_;refine tk 8 J ?_;refine tk 9 J ?_;refine tk 10 J ?_;refine tk 11 J ?_;refine tk 12 J ?_;refine tk 13 J ?_;refine tk 14 J ?_;refine aP 15 (λK ad=>?_);clear J;go_simp;obtain⟨w2,a8⟩:=am ((w1.alloc (.cells ep 32)).drew);rw[<-a8];have ae:ai w2 w1 32 ep:=by rw[a8];exact ai.made _ _ _
 have b2:Below w1.drew.heap.size w1.drew w2:=by rw[a8];have hq:=(Below.refl w1 w1).alloc (Nat.le_refl _) (.cells ep 32);exact⟨hq.os,hq.tape,hq.output,hq.size,hq.block⟩
 obtain⟨ib,aQ⟩:=am w1.heap.size;rw[<-aQ]at ae ⊢;have a4:=Lib.hid aQ;have bq:=aJ.below b2 aJ.lt;have bN:=aA.below b2 aA.lt;clear a8 aQ;refine ad.out _ _ (⟨bq.cell 0,bq.cell 4,bq.cell 9⟩) (λJ=>?_);clear ad K;refine aP 16 (λK ad=>?_);clear J;refine bH 32 (.tmp 8) (.tmp 33) rfl ib #[ag z.me,av 1,av ((s.calls:Int)+1)] rfl rfl 32 _ ae (by kernel_rfl) rfl (by kernel_rfl) ?_;intro w3 aH g3 s3;have a1:bb<ib:=by have:=aE.lt;have:=a4.out;omega
 have ax:rb<ib:=by have:=bz.lt;have:=a4.out;omega
 have bW:=bq.grown g3 (λe=>by have e:=Option.some.inj e;omega);have b0:=bN.grown g3 (λe=>by have e:=Option.some.inj e;omega);have b3:Below w w w3:=(aK.trans (b2.mono aK.size)).grown g3 (Nat.le_trans aK.size b2.size) (λk e=>by have e:=Option.some.inj e;have:=a4.out;have:=a6.size;omega);refine ad.out _ _ (⟨bW.cell 0,bW.cell 4,bW.cell 9⟩) (λJ=>?_);clear ad K;refine cB ?_ _;clear J;obtain⟨i0,i1,i2⟩:=aH.c3;simp at i0 i1 i2;have ly:=HH.out.2.2 w3 b3;unfold PId.val at ly;simp only at ly;rw[show((s.calls+1:Nat):Int)=(s.calls:Int)+1 by omega,show((1:Nat):Int)=1 from rfl]at ly;go_wp2_with fail;go_fit ly;clear ly i0 i1 i2;rintro e w4 ⟨v4,rfl,O4,bK⟩;obtain⟨A4,n4,c4,rfl,aS,bd⟩:=O4.form;have bp:=b3.trans (bK.mono b3.size);have bt:=bW.below bK bW.lt;have aB:=aH.below bK aH.lt;have aX:=b0.below bK b0.lt;have hN:=(HH.out.1.below b3).new bK;have au:ai w4 a.bb 130 (bi z s a v).toArray:=by rw[<-bG.out];exact bt
 have aT:Goes (bO F a) w3 (bO (New F w3 w4) a) w4:=jv (aw.ao bK (λ_=>False)) (λb _ e=>e.elim) (λb a7=>.inl a7);have D4:=(HD.out.goes (.ao b3 _)).goes aT;have sl:SliceAt bg w4 (bO (New F w3 w4) a) A4 l:=(O4.slice (S':=λb=>b<w3.heap.size) (λb a7=>a7) (λb a7=>a7)).cJ (λb a7 e=>by
  rcases e with e | e
  ·exact Classical.byContradiction λaL=>e (.inr ⟨by omega,a7⟩)
  ·exact Nat.lt_of_lt_of_le (HH.out.1.lt b (HH.out.1.own b e)) b3.size)
 have aO:=pz hN au D4 (c:=c4) aS.out sl;have aI:=aO.at_;obtain⟨v5,cb,D5⟩:=aI.ex;have aN:=aI.put (s':={s with aF:=l,calls:=s.calls+1}) (v':=v5) (Below.refl _ _) 9 (av ((s.calls:Int)+1)) rfl (by
  have:=cb.put 9 (av ((s.calls:Int)+1));unfold bi at this ⊢;simp only at this ⊢;rw[show((s.calls+1:Nat):Int)=(s.calls:Int)+1 by omega];simpa using this) (λkk=>by have:=D5.goes kk;exact⟨this.par,this.homes,this.list,this.cap,this.prom,this.aF,this.waits,this.mX,this.nx⟩) rfl rfl
 have fin:=(aY.below (HH.out.1.below b3) bK).trans (aO.trans aN);rw[<-bG.out]at fin;have mid:eK w ((w4.setCell ⟨bb,8,none⟩ (Y A4 n4 c4)).setCell ⟨bb,9,none⟩ (av ((s.calls:Int)+1))) F _ z {s with aF:=l,calls:=s.calls+1} a a:=
  ⟨fin.at_,λb a7=>.inl a7,λb a7=>a7.imp id (λe=>⟨Nat.le_trans b3.size e.1,e.2⟩),(aw.ao b3 _).trans fin.ba (λ_ _ e=>e),rfl,λ_ a7=>.inl a7,⟨rfl,rfl,rfl⟩⟩
 have aG:ai (w4.setCell ⟨bb,8,none⟩ (Y A4 n4 c4)) bb 130 _:=bt.put 8 (Y A4 n4 c4);simp only[List.setIfInBounds_toArray,List.set_cons_zero,List.set_cons_succ]at aG;have y9:=aG.cell 9;have f9:=aG.free 9;have y8:=bt.cell 8;have f8:=bt.free 8;simp at y8 y9;have aZ:ib≠bb:=by omega
 have a0:bb≠ib:=by omega
 have ah:rb≠bb:=by have:=bn.out;omega
 have aW:bb≠rb:=Ne.symm ah;obtain⟨i0,i1,i2⟩:=aB.c3;obtain⟨r0,r1,bf⟩:=aX.c3;have cj:=aX.free 0;have cf:=aX.free 1;have cd:=aX.free 2;simp at i0 i1 i2 r0 r1 bf;have b9:=aG.put 9 (av ((s.calls:Int)+1));have bP:=((aX.dA (p:=⟨bb,8,none⟩) ah (Y A4 n4 c4)).dA (p:=⟨bb,9,none⟩) ah (av ((s.calls:Int)+1))).put 0 (ag z.me) |>.put 1 (av 1) |>.put 2 (av ((s.calls:Int)+1));simp only[List.setIfInBounds_toArray,List.set_cons_zero,List.set_cons_succ]at bP;clear aO aN hN aI D4 D5 cb au sl O4 fin b9;go_wp2_with fail;refine bodyPost_ret (bI rfl _ _ rb 32 _ (0,0) _ rfl bP Tryz.underlying32 rfl (by kernel_rfl)) rfl ?_;refine⟨by rw[show((s.calls+1:Nat):Int)=(s.calls:Int)+1 by omega];rfl,?_⟩;refine(mid.grown (G:=λb=>b=rb) ?_ (λb a7 e=>?_) (λb e=>by have:=bn.out;omega)).done HH.out.1.lt
 ·refine⟨rfl,rfl,rfl,by simp,λb a7 aL=>?_⟩;rw[Below.heap_setCell _ _ _ b aL,Below.heap_setCell _ _ _ b aL,Below.heap_setCell _ _ _ b aL]
 ·rcases a7 with a7 | a7
  ·have:=HH.out.1.lt b a7;have:=bn.out;omega
  ·have:=b0.lt;omega
theorem Bk:Real 55:=bW Tryz.func55 (by kernel_rfl) (by kernel_rfl)
theorem Bo:Real 48:=bW Tryz.func48 (by kernel_rfl) (by kernel_rfl)
theorem By:Real 54:=bW Tryz.func54 (by kernel_rfl) (by kernel_rfl)
theorem p6{P:Prop}(h:P:=by
 rintro e w1 ⟨rfl,st⟩;have bz:=st.ba.aW aI (λa7=>by have:=HH.out.1.lt _ (HH.out.1.own _ a7);have:=HE.out;omega);have cj:=bz.free 0;have cf:=bz.free 1;have cd:=bz.free 2;obtain⟨r0,r1,bf⟩:=bz.c3;simp at r0 r1 bf;have bN:=bz.put 0 (ag z.me) |>.put 1 (av 1) |>.put 2 (av ((s.calls+1:Nat):Int));simp only[List.setIfInBounds_toArray,List.set_cons_zero,List.set_cons_succ]at bN;go_wp2_with fail;refine bodyPost_ret (bI rfl _ _ rb 32 _ (0,0) _ rfl bN Tryz.underlying32 rfl (by kernel_rfl)) rfl ?_;refine⟨rfl,?_⟩;have mid:eK w w1 F (New F w0 w1) z _ a a:=⟨st.at_,λb a7=>.inl a7,λb a7=>a7.imp id (λe=>⟨Nat.le_trans aU.size e.1,e.2⟩),(aw.ao aU _).trans st.ba (λ_ _ e=>e),rfl,λ_ a7=>.inl a7,⟨rfl,rfl,rfl⟩⟩;refine(mid.grown (G:=λb=>b=rb) ?_ (λb a7 e=>?_) (λb e=>by have:=HE.out;omega)).done HH.out.1.lt
 ·refine⟨rfl,rfl,rfl,by simp,λb a7 aL=>?_⟩;rw[Below.heap_setCell _ _ _ b aL,Below.heap_setCell _ _ _ b aL,Below.heap_setCell _ _ _ b aL]
 ·rcases a7 with a7 | a7
  ·have:=HH.out.1.lt b a7;have:=HE.out;omega
  ·have:=aI.lt;omega
 ):P:=h
theorem zI(z:aM)(s:aC)(a:b4)(F:Nat->Prop)(ah:Nat)(w:World)(hz:z.ok)(h:bk w F z s a)(hf:Fit z s)(hl:s.aF.length<8)(hc:ah<z.homes.length)(hh:z.homes[ah]=z.me)(aq:s.calls<1000)
 (hg:(⟨1,⟨z.me,1,s.calls+1⟩,ah,0,[]⟩:ae).aH) (a7:dZ (⟨1,⟨z.me,1,s.calls+1⟩,ah,0,[]⟩:ae)=false) (aA:dj s.aF ⟨z.me,1,s.calls+1⟩= -1):
 Calls Tryz.prog 28 #[aj a.bb,ag ah] w λe w'=>e=.returned (.tuple #[(⟨z.me,1,s.calls+1⟩:PId).val,ag 0])/\aY w w' F z {s with aF:=s.aF++[⟨⟨1,⟨z.me,1,s.calls+1⟩,ah,0,[]⟩,false⟩],calls:=s.calls+1} a a:=by
 obtain⟨bb,az⟩:=am a.bb;rw[<-az];have bG:=Lib.hid az;obtain⟨w0,ar⟩:=am (((w.alloc (.cells #[aj bb] 80)).alloc (.cells #[ag ah] 3)).alloc (.cells ep 32));have aU:Below w w w0:=by rw[ar];exact(((Below.refl _ _).alloc (Nat.le_refl _) _).alloc (by simp) _).alloc (by simp[Nat.add_assoc]) _
 have bl:ai w0 (w.heap.size+0) 80 #[aj bb]:=by
  rw[ar];have:=ai.made w 80 #[aj bb];refine ai.alloc (ai.alloc (?_) _) _;simpa[Nat.add_assoc]using this
 have M:ai w0 (w.heap.size+1) 3 #[ag ah]:=by
  rw[ar];have:=ai.made (w.alloc (.cells #[aj bb] 80)) 3 #[ag ah];refine ai.alloc (?_) _;simpa[Nat.add_assoc]using this
 have aI:ai w0 (w.heap.size+2) 32 ep:=by
  rw[ar];have:=ai.made (((w.alloc (.cells #[aj bb] 80)).alloc (.cells #[ag ah] 3))) 32 ep;simpa[Nat.add_assoc]using this
 obtain⟨pb,Y⟩:=am (w.heap.size+0);rw[<-Y]at bl;obtain⟨cb,I⟩:=am (w.heap.size+1);rw[<-I]at M;obtain⟨rb,bh⟩:=am (w.heap.size+2);rw[<-bh]at aI;have HE:=fm Y I bh;have cl:=qN z s a F 55 ah #[aj pb,aj cb] (s.aF++[⟨⟨1,⟨z.me,1,s.calls+1⟩,ah,0,[]⟩,false⟩]) w0 hz (h.below aU) Bk hc hh aq (λw' J=>by simp only[List.append_toArray,List.cons_append,List.nil_append];exact sJ z s a F pb cb ah 0 ⟨z.me,1,s.calls+1⟩ w' ((h.below aU).below J) hf hl (by rw[<-bG.out];exact bl.below J bl.lt) (M.below J M.lt) hg a7 aA);rw[<-az]at cl;unfold PId.val at cl ⊢;simp only at cl ⊢;have bA:=h.lt;have ak:=bl.cell 0;have af:=M.cell 0;simp at ak af;have HH:=di h bA;clear h hf hz hl hc hh hg a7 aA az Y I bh bA;go_enter Tryz.func28,Tryz.ntmps28;go_wp2_with fail;rw[<-ar]
 try rw[show w.heap.size+1+1=rb by have:=HE.out;omega]
 try rw[show w.heap.size+1=cb by have:=HE.out;omega]
 try rw[show w.heap.size=pb by have:=HE.out;omega]
 clear ar;go_fit cl;clear cl ak af;exact p6
theorem CP(z:aM)(s:aC)(a:b4)(F:Nat->Prop)(ah sub:Nat)(w:World)(hz:z.ok)(h:bk w F z s a)(hf:Fit z s)(hl:s.aF.length<8)(hc:ah<z.homes.length)(hh:z.homes[ah]=z.me)(aq:s.calls<1000)
 (hg:(⟨2,⟨z.me,1,s.calls+1⟩,ah,sub,[]⟩:ae).aH) (a7:dZ (⟨2,⟨z.me,1,s.calls+1⟩,ah,sub,[]⟩:ae)=false) (aA:dj s.aF ⟨z.me,1,s.calls+1⟩= -1):
 Calls Tryz.prog 23 #[aj a.bb,ag ah,av sub,aa] w λe w'=>e=.returned (.tuple #[(⟨z.me,1,s.calls+1⟩:PId).val,ag 0])/\aY w w' F z {s with aF:=s.aF++[⟨⟨2,⟨z.me,1,s.calls+1⟩,ah,sub,[]⟩,true⟩],calls:=s.calls+1} a a:=by
 obtain⟨bb,az⟩:=am a.bb;rw[<-az];have bG:=Lib.hid az;obtain⟨w0,ar⟩:=am (((((w.alloc (.cells #[aj bb] 80)).alloc (.cells #[ag ah] 3)).alloc (.cells #[av sub] 30)).alloc (.cells #[aa] 53)).alloc (.cells ep 32));have aU:Below w w w0:=by rw[ar];exact(((((Below.refl _ _).alloc (Nat.le_refl _) _).alloc (by simp) _).alloc (by simp[Nat.add_assoc]) _).alloc (by simp[Nat.add_assoc]) _).alloc (by simp[Nat.add_assoc]) _
 have bl:ai w0 (w.heap.size+0) 80 #[aj bb]:=by
  rw[ar];have:=ai.made w 80 #[aj bb];refine ai.alloc (ai.alloc (ai.alloc (ai.alloc (?_) _) _) _) _;simpa[Nat.add_assoc]using this
 have M:ai w0 (w.heap.size+1) 3 #[ag ah]:=by
  rw[ar];have:=ai.made (w.alloc (.cells #[aj bb] 80)) 3 #[ag ah];refine ai.alloc (ai.alloc (ai.alloc (?_) _) _) _;simpa[Nat.add_assoc]using this
 have aS:ai w0 (w.heap.size+2) 30 #[av sub]:=by
  rw[ar];have:=ai.made ((w.alloc (.cells #[aj bb] 80)).alloc (.cells #[ag ah] 3)) 30 #[av sub];refine ai.alloc (ai.alloc (?_) _) _;simpa[Nat.add_assoc]using this
 have aO:ai w0 (w.heap.size+3) 53 #[aa]:=by
  rw[ar];have:=ai.made (((w.alloc (.cells #[aj bb] 80)).alloc (.cells #[ag ah] 3)).alloc (.cells #[av sub] 30)) 53 #[aa];refine ai.alloc (?_) _;simpa[Nat.add_assoc]using this
 have aI:ai w0 (w.heap.size+4) 32 ep:=by
  rw[ar];have:=ai.made (((((w.alloc (.cells #[aj bb] 80)).alloc (.cells #[ag ah] 3)).alloc (.cells #[av sub] 30)).alloc (.cells #[aa] 53))) 32 ep;simpa[Nat.add_assoc]using this
 obtain⟨pb,Y⟩:=am (w.heap.size+0);rw[<-Y]at bl;obtain⟨cb,I⟩:=am (w.heap.size+1);rw[<-I]at M;obtain⟨nb,ad⟩:=am (w.heap.size+2);rw[<-ad]at aS;obtain⟨fb,au⟩:=am (w.heap.size+3);rw[<-au]at aO;obtain⟨rb,bh⟩:=am (w.heap.size+4);rw[<-bh]at aI;have HE:=ja Y I ad au bh;have cl:=qN z s a F 48 ah #[aj pb,aj cb,aj nb,aj fb] (s.aF++[⟨⟨2,⟨z.me,1,s.calls+1⟩,ah,sub,[]⟩,true⟩]) w0 hz (h.below aU) Bo hc hh aq (λw' J=>by simp only[List.append_toArray,List.cons_append,List.nil_append];exact wQ z s a F pb cb nb fb ah sub ⟨z.me,1,s.calls+1⟩ w' ((h.below aU).below J) hf hl (by rw[<-bG.out];exact bl.below J bl.lt) (M.below J M.lt) (aS.below J aS.lt) (aO.below J aO.lt) hg a7 aA);rw[<-az]at cl;unfold PId.val at cl ⊢;simp only at cl ⊢;have bA:=h.lt;have ak:=bl.cell 0;have af:=M.cell 0;have ax:=aS.cell 0;have ay:=aO.cell 0;simp at ak af ax ay;have HH:=di h bA;clear h hf hz hl hc hh hg a7 aA az Y I ad au bh bA;go_enter Tryz.func23,Tryz.ntmps23;go_wp2_with fail;rw[<-ar]
 try rw[show w.heap.size+1+1+1+1=rb by have:=HE.out;omega]
 try rw[show w.heap.size+1+1+1=fb by have:=HE.out;omega]
 try rw[show w.heap.size+1+1=nb by have:=HE.out;omega]
 try rw[show w.heap.size+1=cb by have:=HE.out;omega]
 try rw[show w.heap.size=pb by have:=HE.out;omega]
 clear ar;go_fit cl;clear cl ak af ax ay;exact p6
theorem z8(z:aM)(s:aC)(a:b4)(F:Nat->Prop)(ah sub:Nat)(w:World)(hz:z.ok)(h:bk w F z s a)(hf:Fit z s)(hl:s.aF.length<8)(hc:ah<z.homes.length)(hh:z.homes[ah]=z.me)(aq:s.calls<1000)
 (hg:(⟨3,⟨z.me,1,s.calls+1⟩,ah,sub,[]⟩:ae).aH) (a7:dZ (⟨3,⟨z.me,1,s.calls+1⟩,ah,sub,[]⟩:ae)=false) (aA:dj s.aF ⟨z.me,1,s.calls+1⟩= -1):
 Calls Tryz.prog 27 #[aj a.bb,ag ah,av sub] w λe w'=>e=.returned (.tuple #[(⟨z.me,1,s.calls+1⟩:PId).val,ag 0])/\aY w w' F z {s with aF:=s.aF++[⟨⟨3,⟨z.me,1,s.calls+1⟩,ah,sub,[]⟩,true⟩],calls:=s.calls+1} a a:=by
 obtain⟨bb,az⟩:=am a.bb;rw[<-az];have bG:=Lib.hid az;obtain⟨w0,ar⟩:=am ((((w.alloc (.cells #[aj bb] 80)).alloc (.cells #[ag ah] 3)).alloc (.cells #[av sub] 30)).alloc (.cells ep 32));have aU:Below w w w0:=by rw[ar];exact((((Below.refl _ _).alloc (Nat.le_refl _) _).alloc (by simp) _).alloc (by simp[Nat.add_assoc]) _).alloc (by simp[Nat.add_assoc]) _
 have bl:ai w0 (w.heap.size+0) 80 #[aj bb]:=by
  rw[ar];have:=ai.made w 80 #[aj bb];refine ai.alloc (ai.alloc (ai.alloc (?_) _) _) _;simpa[Nat.add_assoc]using this
 have M:ai w0 (w.heap.size+1) 3 #[ag ah]:=by
  rw[ar];have:=ai.made (w.alloc (.cells #[aj bb] 80)) 3 #[ag ah];refine ai.alloc (ai.alloc (?_) _) _;simpa[Nat.add_assoc]using this
 have aS:ai w0 (w.heap.size+2) 30 #[av sub]:=by
  rw[ar];have:=ai.made ((w.alloc (.cells #[aj bb] 80)).alloc (.cells #[ag ah] 3)) 30 #[av sub];refine ai.alloc (?_) _;simpa[Nat.add_assoc]using this
 have aI:ai w0 (w.heap.size+3) 32 ep:=by
  rw[ar];have:=ai.made ((((w.alloc (.cells #[aj bb] 80)).alloc (.cells #[ag ah] 3)).alloc (.cells #[av sub] 30))) 32 ep;simpa[Nat.add_assoc]using this
 obtain⟨pb,Y⟩:=am (w.heap.size+0);rw[<-Y]at bl;obtain⟨cb,I⟩:=am (w.heap.size+1);rw[<-I]at M;obtain⟨nb,ad⟩:=am (w.heap.size+2);rw[<-ad]at aS;obtain⟨rb,bh⟩:=am (w.heap.size+3);rw[<-bh]at aI;have HE:=dx Y I ad bh;have cl:=qN z s a F 54 ah #[aj pb,aj cb,aj nb] (s.aF++[⟨⟨3,⟨z.me,1,s.calls+1⟩,ah,sub,[]⟩,true⟩]) w0 hz (h.below aU) By hc hh aq (λw' J=>by simp only[List.append_toArray,List.cons_append,List.nil_append];exact r4 z s a F pb cb nb ah sub ⟨z.me,1,s.calls+1⟩ w' ((h.below aU).below J) hf hl (by rw[<-bG.out];exact bl.below J bl.lt) (M.below J M.lt) (aS.below J aS.lt) hg a7 aA);rw[<-az]at cl;unfold PId.val at cl ⊢;simp only at cl ⊢;have bA:=h.lt;have ak:=bl.cell 0;have af:=M.cell 0;have ax:=aS.cell 0;simp at ak af ax;have HH:=di h bA;clear h hf hz hl hc hh hg a7 aA az Y I ad bh bA;go_enter Tryz.func27,Tryz.ntmps27;go_wp2_with fail;rw[<-ar]
 try rw[show w.heap.size+1+1+1=rb by have:=HE.out;omega]
 try rw[show w.heap.size+1+1=nb by have:=HE.out;omega]
 try rw[show w.heap.size+1=cb by have:=HE.out;omega]
 try rw[show w.heap.size=pb by have:=HE.out;omega]
 clear ar;go_fit cl;clear cl ak af ax;exact p6
end Go.Proofs.YtgblliofomgggaaGreat
