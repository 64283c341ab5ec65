import Derived.Test.YtgblliofomgggaaGreatM01
import Derived.Test.YtgblliofomgggaaGreatM11
import Derived.Test.YtgblliofomgggaaGreatM05
import Derived.Test.YtgblliofomgggaaGreatM17
namespace Go.Proofs.YtgblliofomgggaaGreat
set_option maxRecDepth 100000
set_option maxHeartbeats 8000000
open Go.RowKit a7 bA p7
open Go.IntKind renaming i64 -> af,u64 -> ak
open Go.Value renaming int -> I,slice -> Y,pointer -> aL,agg -> aE
theorem aD.mid{α:Type}{r:dD α}{e:TypeId}{w:World}{base:Nat}{S:Nat->Prop}{A:Option Addr}{c n:Nat}{l:List α}(h:aD r e w base S (Y A n c) l)(hk:0<r.k){i:Nat}(hi:i<l.length){u:List Value}{x:α}(aI:r.R w (bm S (Y A n c)) u x):
 ∃b,A=some ⟨b,0,none⟩/\w.there b (i*r.k) r.k/\aD r e (w.setCells b (i*r.k) u) base S (Y A n c) (l.set i x)/\w.grownBy (w.setCells b (i*r.k) u) (some b):=by
 obtain⟨A',n',c',aB,aL,_⟩:=h.form;injection aB with e1 a5 e3;have a3:n=l.length:=by rw[a5];exact aL.out
 clear aL e1 a5 e3;obtain⟨b,cur,hA,hB,aA,hcs,_⟩:=h.block (by omega);subst hA;have bJ:i*r.k+r.k<=cur.size:=by
  have bi:(i+1)*r.k<=c*r.k:=Nat.mul_le_mul_right _ (by omega);rw[Nat.add_mul,Nat.one_mul]at bi;omega
 have bx:=r.len aI;have gr:=eD b u (i*r.k) w;have bN:=r.goes aI (bv (S:=bm S (Y (aj b) n c)) gr (λk hk=>by injection hk with hk;subst hk;exact .inr rfl));refine⟨b,rfl,λj hj=>⟨?_,hB.free _⟩,h.set hk hB (ai.over (w:=w) u _ hB) hi u x (fr _ _ _) (λj hj=>?_) (λm hm=>?_) bN gr,gr⟩
 ·rw[hB.cell,Array.getElem?_eq_getElem (by omega)];rfl
 ·rw[gw _ _ _ _ (by omega),if_pos (by omega),Nat.add_sub_cancel_left]
 ·rw[gw _ _ _ _ (by omega),if_neg (by omega)]
structure fv (z:aM) (s:aC) (bF:Nat):Prop where
 known:∀v∈(s.rep bF).a5,(bd s.list v || bd s.ay v || bd s.waits v)=true
 bf:(s.rep bF).bf<=1000
theorem wJ{z:aM}{s:aC}(hf:Fit z s)(k:Nat):(∀x∈(s.rep k).asks,ch z x)/\(s.rep k).a5.length<=16/\(s.rep k).asks.length<=16:=by
 unfold aC.rep;cases h:s.bU k with
 | none=>exact⟨(λx hx=>by cases hx),by simp[bc.zero],by simp[bc.zero]⟩
 | some m=>exact hf.bU k m h
theorem pn{l:List dY}{cl:List Nat}{x:ae}(h:x.aH):(dI l cl x).aH:=by
 unfold dI;refine⟨h.kind,h.id,h.ah,h.sub,h.yw,?_,?_,?_⟩
 ·simp only;split
  ·split
   ·exact h.len
   ·simp
  ·exact h.len
 ·intro hk;simp only at hk ⊢;rw[if_neg hk];exact h.none hk
 ·simp only;split
  ·split
   ·exact h.ev
   ·intro e he;cases he
  ·exact h.ev
theorem fK(x:ae)(A:Option Addr)(c:Nat):(x.cellsOf A c).toArray.all (·.oneCell')=true:=by
 unfold ae.cellsOf;kernel_rfl
def cE(z:aM)(s:aC)(bF:Nat)(l:List ae)(i:Nat):List ae:=((l.take i).mapIdx λk x=>dI (bQ (s.list.take (gQ s bF+k))) (bw z bF) x)++l.drop i
theorem p3(z:aM)(s:aC)(bF:Nat)(l:List ae):cE z s bF l 0=l:=by simp[cE]
theorem mB(z:aM)(s:aC)(bF:Nat)(l:List ae)(i:Nat):(cE z s bF l i).length=l.length:=by
 simp[cE];omega
theorem tZ(z:aM)(s:aC)(bF:Nat)(l:List ae)(i:Nat)(h:i<l.length)(h2:i<(cE z s bF l i).length):(cE z s bF l i)[i]=l[i]:=by
 have:(cE z s bF l i)[i]? =l[i]? :=by
  unfold cE;rw[List.getElem?_append_right (by simp;omega)];simp;congr 1;omega
 rw[List.getElem?_eq_getElem h2,List.getElem?_eq_getElem h]at this;injection this
theorem sg(z:aM)(s:aC)(bF:Nat)(l:List ae)(i:Nat)(h:i<l.length):(cE z s bF l i).set i (dI (bQ (s.list.take (gQ s bF+i))) (bw z bF) l[i])=cE z s bF l (i+1):=by
 unfold cE;rw[List.set_append_right _ _ (by simp;omega)];rw[List.take_succ_eq_append_getElem h,List.mapIdx_append];have e:min i l.length=i:=by omega
 simp[e];rw[List.drop_eq_getElem_cons h];rfl
theorem BM{z:aM}{s:aC}{bF:Nat}{w w2 w4 wr w7 w8:World}{hv i tb nM n3:Nat}{AE A3:Option Addr}{ba c3:Nat}{fl ml:List ae}(cr:hv=gQ s bF)(a1:fl=eU s.list hv)(cC:i=fl.length)(hM:nM=ml.length)(er:nM<=4)(bl:ml=gR z s)
 (a2:n3=((ml.take nM).map (dI (bQ s.list) (bw z bF))).length) (O:aD aB 132 wr w2 (λb=>b<w2.heap.size) (Y AE i ba) (cE z s bF fl i))
 (O2:aD aB 132 wr w4 (λb=>b<w4.heap.size) (Y A3 n3 c3) ((ml.take nM).map (dI (bQ s.list) (bw z bF)))) (c4:Below wr wr w7) (cP:w7.grownBy w8 (some tb)) (bg:tb=w.heap.size) (bm:tb<w2.heap.size) (cR:Below w w wr) (dv:w2.heap.size<=w4.heap.size):
 ∃ma,Ending.returned (aE #[ag 2,av hv,aa,aa,Y AE i ba,Y A3 n3 c3,aa,aa])=.returned (aE ((aZ z s bF).cellsOf ma).toArray)/\cI w8 (λb=>b<w.heap.size) (aZ z s bF) ma/\Below w w w8:=by
 have e1:(eU s.list (gQ s bF)).mapIdx (λi x=>dI (bQ (s.list.take (gQ s bF+i))) (bw z bF) x)=cE z s bF fl i:=by
  unfold cE;rw[cC,List.take_length,List.drop_length,List.append_nil,a1,cr]
 have a5:((gR z s).take 16).map (dI (bQ s.list) (bw z bF))=(ml.take nM).map (dI (bQ s.list) (bw z bF)):=by
  rw[<-bl,hM,List.take_length,List.take_of_length_le (by omega)]
 have ao:aZ z s bF=⟨2,hv,[],[],cE z s bF fl i,(ml.take nM).map (dI (bQ s.list) (bw z bF))⟩:=by
  unfold aZ;rw[e1,a5,cr]
 have hle:(cE z s bF fl i).length=i:=by rw[mB,cC]
 rw[ao];have O7:=(O.below c4).dA cP (λe=>by have:=(O.lt e).1;omega) (show tb<w2.heap.size from bm);have I:=(O2.below c4).dA cP (λe=>by have:=(O2.lt e).1;omega) (show tb<w4.heap.size by omega);refine⟨⟨none,0,none,0,AE,ba,A3,c3⟩,?_,⟨SliceAt.nil _ _ _ _,SliceAt.nil _ _ _ _,O7.slice (λb a7=>?_) (λb a7=>?_),I.slice (λb a7=>?_) (λb a7=>?_)⟩,(cR.trans (c4.mono cR.size)).grown cP (Nat.le_trans cR.size c4.size) (λk e=>by have e:=Option.some.inj e;omega)⟩
 ·unfold bc.cellsOf;simp only;rw[hle,<-a2];rfl
 all_goals
  have J:b<w.heap.size:=a7;show b<_;omega
theorem ud(z:aM)(s:aC)(a:b4)(F:Nat->Prop)(bF:Nat)(w:World)(hz:z.ok)(h:bk w F z s a)(hf:Fit z s)(hk:bF<z.n)(hc:fv z s bF):
 Calls Tryz.prog 168 #[aj a.bb,ag bF] w λe w'=>∃ma,e=.returned (aE ((aZ z s bF).cellsOf ma).toArray)/\cI w' (λb=>b<w.heap.size) (aZ z s bF) ma/\Below w w w':=by
 obtain⟨i0,z0,bM,bL,bB,bJ,bR⟩:=aS Tryz.dJ;obtain⟨v,hB,D⟩:=h.ex;have bs:=h.ce;obtain⟨bb,az⟩:=am a.bb;rw[<-az]at hB bs ⊢;have bG:=Lib.hid az;unfold bi at hB;have dh:bF<16:=by have:=hz.n;omega
 obtain⟨w0,ar⟩:=am (w.alloc (.cells #[ag 0,av 0,aa,aa,aa,aa,aa,aa] 233));have cg:ai w0 w 233 #[ag 0,av 0,aa,aa,aa,aa,aa,aa]:=by rw[ar];exact ai.made _ _ _
 have aU:=aV ar;obtain⟨tb,bg⟩:=am w.heap.size;rw[<-bg]at cg;have ch:=Lib.hid bg;have aR:=hB.below aU bs;have cx:=hB.cell 10;simp at cx;obtain⟨⟨cm,cp,aO,cd,cj,cq,bT,cf⟩,aL,cD⟩:=pD (h.bU.goes (.ao aU _) (aU.block _ h.bU.lt)) bF (by omega);obtain⟨rp,dz⟩:=am (s.rep bF);have dC:=wJ hf bF;have c0:=hc.known;have cr:=hc.bf;rw[<-dz]at aL cD dC c0 cr;have dM:=Lib.hid dz;unfold bc.cellsOf at aL;simp only at aL;obtain⟨w1,aN⟩:=am (w0.alloc (.cells (fD rp cm cp aO cd cj cq bT cf) 233));have bz:ai w1 w0 233 (fD rp cm cp aO cd cj cq bT cf):=by rw[aN];exact ai.made _ _ _
 have b1:=aV aN;obtain⟨rb,bh⟩:=am w0.heap.size;rw[<-bh]at bz;have bn:=Lib.hid (show rb=w.heap.size+1 by rw[bh,ar];simp);have c5:=cg.below b1 cg.lt;have a6:=aU.trans (b1.mono aU.size);have ed:=cD.below b1;have HH:=ja h hf hz c0 dC;have HD:=Lib.hid D;have cl:=qK z s a F bF w1 hz (h.below a6) hk;rw[<-az]at cl;have dj:=hf.l1;obtain⟨nl,cu⟩:=am s.list.length;rw[<-cu]at hB aR dj;have cH:=Lib.hid cu;have dL:=aL;rw[ar]at dL;clear h hf hz hc c0 dC D az dz bh bg cD cu aL;go_enter Tryz.func168,Tryz.ntmps168;go_wp2_with fail;rw[<-ar,<-aN,<-bn.out,<-ch.out];clear ar aN cx dL;refine cl.mono ?_;clear cl;rintro e w2 ⟨vC,rfl,OC,b2⟩;obtain⟨AC,nC,dn,rfl,cU,ev⟩:=OC.form;have bo:=a6.trans (b2.mono a6.size);have bq:=hB.below bo bs;have bN:=bz.below b2 bz.lt;have cV:=c5.below b2 c5.lt;have eg:=ed.below b2;have y5:=bq.cell 5;have r1:=bN.cell 1;simp at y5 r1;obtain⟨hv,dm⟩:=am (gQ s bF);have dG:hv=min rp.bf nl:=by rw[dm,cH.out,dM.out];rfl
 have df:(if (nl:Int)<(rp.bf:Int)then(nl:Int)else(rp.bf:Int))=(hv:Int):=by split<;>omega
 have dK:(if nl<rp.bf then(nl:Int)else(rp.bf:Int))=(hv:Int):=by split<;>omega
 have dA:=Lib.hid dm;have fr:=x8 (bO F a) v.AL nl v.cL hv s.list w2 cH.out (by omega) (by have:=HD.out.cap;have:=cH.out;omega) (HD.out.list.goes (.ao bo _)) (λx hx=>(HH.out.2.1.list x hx).aH);have cZ:hv<=60:=by omega
 clear dG dm;go_wp2_with fail;refine fr.mono ?_;clear fr y5 r1 df dK;rintro e w3 ⟨vE,rfl,OE,b3⟩;obtain⟨AE,nE,ba,rfl,cC,dU⟩:=OE.form;have br:=bo.trans (b3.mono bo.size);have bW:=hB.below br bs;have b0:=bN.below b3 bN.lt;have eh:=cV.below b3 cV.lt;obtain⟨fl,a1⟩:=am (eU s.list hv);rw[<-a1]at OE cC;have dF:∀x∈fl,x.aH:=λx hx=>by
  rw[a1]at hx;exact(HH.out.2.1.list x (List.mem_of_mem_drop (List.mem_of_mem_take hx))).aH
 have dO:nE<=4:=by rw[cC.out,a1];unfold eU;rw[List.length_take];omega
 have et:hv+fl.length<=nl:=by rw[a1];unfold eU;rw[List.length_take,List.length_drop,cH.out];have:=dA.out;unfold gQ at this;omega
 have cS:=di a1 dF;have ek:SliceAt b5 w3 (λk=>w2.heap.size<=k) AC (bw z bF):=((OC.slice (S':=λ_=>False) (λb h=>h.elim) (λb h=>h.elim)).cJ (S':=λk=>w2.heap.size<=k) (λb a7 e=>by omega)).below b3;have ej:nC<=32:=by rw[cU.out];unfold bw;exact Nat.le_trans (List.length_filter_le _ _) (by simp;exact HH.out.2.2.1.h2)
 have ea:aD aB 132 w3 w2 (λb=>b<w2.heap.size) (Y AE nE ba) (cE z s bF fl 0):=by rw[p3];exact OE
 clear a1 dF OE OC;go_wp2_with fail
 go_loopw [46] (λi_ wr=>∃i:Nat,i_=I af i/\i<=nE/\aD aB 132 wr w2 (λb=>b<w2.heap.size) (Y AE nE ba) (cE z s bF fl i)/\Below w2 w2 wr/\SliceAt b5 wr (λk=>w2.heap.size<=k) AC (bw z bF)) (λi _=>nE- (intOf i).toNat)
 case atStart=>exact⟨0,rfl,by omega,ea,b3,ek⟩
 case round=>
  obtain⟨i,rfl,hi,O,a7,sC⟩:=hrel;have c1:=bo.trans (a7.mono bo.size);have cF:=hB.below c1 bs;have aw:=bN.below a7 bN.lt;have dR:=cV.below a7 cV.lt;by_cases bA:i<nE
  ·have dt:i<fl.length:=(by have:=cC.out;omega);have bu:i<(cE z s bF fl i).length:=(by rw[mB];exact dt);have bE:(i:Int)<(nE:Int):=(by omega);have aX:=cS.out.2 _ (List.getElem_mem dt);have cO:=sg z s bF fl i dt;have aY:=lj (s.list.take (hv+i));obtain⟨b,off,u,rfl,bV,b8,bx,hcell,A9,c9,hu,h2⟩:=(O).at_ bu (by decide);rw[hu]at hcell;have d0:wr.cell? ⟨b,off+i*8,none⟩=some (I af (cE z s bF fl i)[i].kind):=hcell 0 _ rfl;have d1:wr.cell? ⟨b,off+i*8+1,none⟩=some (I af (cE z s bF fl i)[i].id.au):=hcell 1 _ rfl;have d2:wr.cell? ⟨b,off+i*8+2,none⟩=some (I ak (cE z s bF fl i)[i].id.aq):=hcell 2 _ rfl;have d3:wr.cell? ⟨b,off+i*8+3,none⟩=some (I ak (cE z s bF fl i)[i].id.ax):=hcell 3 _ rfl;have d4:wr.cell? ⟨b,off+i*8+4,none⟩=some (I af (cE z s bF fl i)[i].ah):=hcell 4 _ rfl;have d5:wr.cell? ⟨b,off+i*8+5,none⟩=some (I ak (cE z s bF fl i)[i].sub):=hcell 5 _ rfl;have d7:wr.cell? ⟨b,off+i*8+7,none⟩=some (.slice A9 (cE z s bF fl i)[i].events.length c9):=hcell 7 _ rfl;have d6:wr.cell? ⟨b,off+i*8+6,none⟩=some aa:=hcell 6 _ rfl;obtain⟨x,hx⟩:=am ((cE z s bF fl i)[i]);rw[<-hx]at d0 d1 d2 d3 d4 d5 d7 h2;have aT:=hx.trans (tZ z s bF fl i dt bu);rw[<-aT]at aX cO;clear aT;have dx:=Lib.hid cO;rw[<-dA.out]at dx;have dS:=Lib.hid a7.size;clear cO;obtain⟨w4,bd⟩:=am (wr.alloc (.cells (a3 x A9 c9) 132));have bK:=aV bd;have bD:ai w4 wr 132 (a3 x A9 c9):=(by rw[bd];exact ai.made _ _ _);obtain⟨xb,a0⟩:=am wr.heap.size;rw[<-a0]at bD;have bj:=Lib.hid a0;have dk:=c1.trans (bK.mono c1.size);have cc:Below w w w4.drew:=⟨dk.os,dk.tape,dk.output,dk.size,dk.block⟩;have da:Below wr wr w4.drew:=⟨bK.os,bK.tape,bK.output,bK.size,bK.block⟩;have sb:=lM z s a F (hv+i) w4.drew (HH.out.1.below cc) HH.out.2.1 (by have:=cH.out;omega);rw[<-bG.out,show((hv+i:Nat):Int)=(hv:Int)+(i:Int) by omega]at sb;have eq:IntKind.i64.wrap (hv:Int)=hv:=IntWalk.i64_in _ (by omega);have ee:IntKind.i64.wrap ((hv:Int)+(i:Int))=(hv:Int)+(i:Int):=IntWalk.i64_in _ (by omega);have M:ai w4.drew xb 132 _:=bD;have O4:aD aB 132 w4.drew w2 (λb=>b<w2.heap.size) _ _:=O.below da;have dr:SliceAt b5 w4.drew (λk=>w2.heap.size<=k) AC (bw z bF):=sC.below da;have dv:=h2.below da;clear hcell bx hu hx a0 h2;go_wp2_with fail;rw[<-bd]
   try rw[<-bj.out]
   clear bd d0 d1 d2 d3 d4 d5 d6 d7;refine wp_region_held_drew (S:=(λw'=>w'.cell? (aj xb)=some (I af x.kind)/\w'.cell? ⟨xb,1,none⟩=some (I af x.id.au)/\w'.cell? ⟨xb,2,none⟩=some (I ak x.id.aq)/\w'.cell? ⟨xb,3,none⟩=some (I ak x.id.ax)/\w'.cell? ⟨xb,4,none⟩=some (I af x.ah)/\w'.cell? ⟨xb,5,none⟩=some (I ak x.sub)/\w'.cell? ⟨xb,6,none⟩=some (aa)/\w'.cell? ⟨xb,7,none⟩=some (Y A9 x.events.length c9))) (by kernel_rfl) (⟨M.cell 0,M.cell 1,M.cell 2,M.cell 3,M.cell 4,M.cell 5,M.cell 6,M.cell 7⟩) (λJ=>?_);refine tk 0 J ?_;refine tk 1 J ?_;refine tk 2 J ?_;refine tk 3 J ?_;refine tk 4 J ?_;refine tk 5 J ?_;refine tk 6 J ?_;refine tk 8 J ?_;refine tk 9 J ?_;refine aP 7 (λK ad=>?_);clear J;go_simp;refine sb.mono ?_;clear sb eq ee;rintro e w5 ⟨vS,rfl,OS,bS⟩;obtain⟨AS,nS,c2,rfl,cX,eo⟩:=OS.form;have ca:=M.below bS M.lt;have cM:=rB (λ_=>False) (λk=>w2.heap.size<=k) _ AS AC A9 c9 nS c2 nC dn (bQ (s.list.take (hv+i))) (bw z bF) x w5 cX.out (by rw[cX.out];exact aY) (OS.slice (λb h=>h.elim) (λb h=>h.elim)) cU.out (by omega) (dr.below bS) (dv.below bS) aX
   try dsimp only
   refine ad.out _ _ (⟨ca.cell 0,ca.cell 1,ca.cell 2,ca.cell 3,ca.cell 4,ca.cell 5,ca.cell 6,ca.cell 7⟩) (λJ=>?_);clear ad K;refine aP 10 (λK ad=>?_);clear J;go_simp;refine cM.mono ?_;clear cM;rintro e w6 ⟨A6,bX,rfl,h6,b6⟩;have bZ:=ca.below b6 ca.lt;have dp:=bS.trans (b6.mono bS.size)
   try dsimp only
   refine ad.out _ _ (⟨bZ.cell 0,bZ.cell 1,bZ.cell 2,bZ.cell 3,bZ.cell 4,bZ.cell 5,bZ.cell 6,bZ.cell 7⟩) (λJ=>?_);clear ad K;refine tk 11 J ?_;refine aP 12 (λK ad=>?_);clear J;have O6:=O4.below dp;have aI:aB.R w6 (bm (λb=>b<w2.heap.size) (Y (some ⟨b,off,none⟩) nE ba)) ((dI (bQ (s.list.take (hv+i))) (bw z bF) x).cellsOf A6 bX) (dI (bQ (s.list.take (hv+i))) (bw z bF) x):=⟨A6,bX,rfl,h6.weak (λb a7=>by rcases a7 with a7 | a7;(have:=dS.out;have:=da.size;have:=bS.size;show b<w5.heap.size;omega);(have:=(O4.lt a7).2;have:=bS.size;show b<w5.heap.size;omega))⟩;obtain⟨eb,hE,dy,OM,gM⟩:=O6.mid (by decide) bu aI;have dE:b=eb:=congrArg Addr.block (Option.some.inj hE);have dQ:off=0:=congrArg Addr.off (Option.some.inj hE);rw[<-dE]at dy OM gM;have e8:off+i*8=i*aB.k:=(by rw[dQ,Nat.zero_add];rfl);rw[<-e8]at dy OM gM;have c6:=bZ.grown gM (λe=>by have e:=Option.some.inj e;have:=bV;have:=bj.out;omega);refine wp_store_mid 132 (.tmp 62) (.tmp 61) rfl b (off+i*8) ((dI (bQ (s.list.take (hv+i))) (bw z bF) x).cellsOf A6 bX).toArray rfl rfl dy (by unfold ae.cellsOf;kernel_rfl) (fK _ A6 bX) ?_;refine ad.out _ _ (⟨c6.cell 0,c6.cell 1,c6.cell 2,c6.cell 3,c6.cell 4,c6.cell 5,c6.cell 6,c6.cell 7⟩) (λJ=>?_);clear ad K;refine cB ?_ _;clear J;have ei:Below w2 w2 (w6.setCells b (off+i*8) ((dI (bQ (s.list.take (hv+i))) (bw z bF) x).cellsOf A6 bX)):=(a7.trans (da.mono a7.size)).trans (dp.mono (Nat.le_trans a7.size da.size)) |>.grown gM (Nat.le_trans (Nat.le_trans a7.size da.size) dp.size) (λk e=>by have e:=Option.some.inj e;have:=(O.lt (g:=b) rfl).1;omega);have dZ:SliceAt b5 _ (λk=>w2.heap.size<=k) AC (bw z bF):=(dr.below dp).goes (bv gM (λk hk=>(Option.some.inj hk)▸(O.lt (g:=b) rfl).1));clear hE dE dQ e8;go_wp2_with fail
   go_round
   case rel=>exact⟨i+1,by go_num,by omega,by rw[<-dx.out];exact OM,ei,dZ⟩
   case measure=>simp[intOf];omega
  ·obtain rfl:i=nE:=(by omega);obtain⟨wm,rfl⟩:=am wr;have ro:=gY z s a F wm (HH.out.1.below c1);have sb:=lM z s a F nl wm (HH.out.1.below c1) HH.out.2.1 (by have:=cH.out;omega);rw[<-bG.out]at ro sb;have dN:bb<wm.heap.size:=cF.lt;have y6:=cF.cell 6;have cY:=cF.cell 13;simp at y6 cY;have ef:=HH.out.2.1.l4;have dg:=HH.out.2.1.l2;have join:∃ (AM AQ:Option Addr) (nM ds nQ cQ:Nat) (mb:Bool),mb=decide (z.me=0)/\wm.cell? ⟨bb,6,none⟩=some (if mb then Y AQ nQ cQ else Y AM nM ds)/\(mb=true->wm.cell? ⟨bb,13,none⟩=some (Y AM nM ds))/\nM<=ds/\Hid (SliceAt aB wm (bO F a) AM (gR z s)/\nM=(gR z s).length/\nM<=4/\∀x∈gR z s,x.aH):=by
    by_cases ct:z.me=0
    ·exact⟨v.AW,v.AQ,s.waits.length,v.cW,s.ay.length,v.cQ,true,by simp[ct],by simpa using y6,(λ_=>cY),HD.out.nx,by unfold gR;rw[if_pos ct];exact⟨HD.out.waits.goes (.ao c1 _),rfl,ef,λx hx=>(HH.out.2.1.waits x hx).aH⟩⟩
    ·exact⟨v.AQ,v.AQ,s.ay.length,v.cQ,s.ay.length,v.cQ,false,by simp[ct],by simpa using y6,(λh=>by cases h),HD.out.mX,by unfold gR;rw[if_neg ct];exact⟨HD.out.prom.goes (.ao c1 _),rfl,by omega,λx hx=>(HH.out.2.1.ay x hx).aH⟩⟩
   clear y6 cY;obtain⟨AM,AQ,nM,ds,nQ,cQ,mb,b7,y6,cY,dB,HM⟩:=join;rw[<-b7]at ro;clear b7;have er:=HM.out.2.2.1;have df:(if (nM:Int)<(16:Int)then(nM:Int)else(16:Int))=(nM:Int):=(by rw[if_pos (by omega)]);have dK:(if nM<16 then(nM:Int)else(16:Int))=(nM:Int):=(by rw[if_pos (by omega)]);have db:(nM:Int)<=(ds:Int):=(by omega);have ey:(nM:Int)<16:=(by omega);have eu:¬ (16:Int)<(nM:Int):=(by omega);cases mb
   all_goals (
    try simp at y6 cY
    go_wp2_with fail;refine ro.mono ?_;clear ro;rintro e wn ⟨rfl,rfl⟩;go_wp2_with fail;refine sb.mono ?_;clear sb;rintro e w4 ⟨vS,rfl,OS,bK⟩;obtain⟨AS,nS,c2,rfl,cX,eo⟩:=OS.form;have c8:nS<=1:=(by rw[cX.out];exact lj _);rw[cH.out,List.take_length]at OS cX;have ep:SliceAt du w4 (λk=>w4.heap.size<=k) AS (bQ s.list):=(OS.slice (S':=λ_=>False) (λb h=>h.elim) (λb h=>h.elim)).cJ (S':=λk=>w4.heap.size<=k) (λb a7 e=>by omega);have dr:=sC.below bK;obtain⟨ml,bl⟩:=am (gR z s);rw[<-bl]at HM;have dq:=Lib.hid bl;have dY:=HM.out.1.below bK;have O4:=O.below bK;have bp:=c1.trans (bK.mono c1.size);clear bl O OS sC;go_wp2_with fail;clear y6 cY
    go_loopw [14,84] (λv_ i_ wr=>∃j:Nat,i_=I af j/\j<=nM/\aD aB 132 wr w4 (λb=>b<w4.heap.size) v_ ((ml.take j).map (dI (bQ s.list) (bw z bF)))/\Below w4 w4 wr) (λ_ i _=>nM- (intOf i).toNat)
    case atStart=>exact⟨0,rfl,by omega,aD.nil _ _ _ _ _,.refl _ _⟩
    case round=>
     obtain⟨j,rfl,hj,O2,cn⟩:=hrel;by_cases dc:j<nM
     ·have bu:j<ml.length:=(by have:=HM.out.2.1;omega);have bE:(j:Int)<(nM:Int):=(by omega);have aX:=HM.out.2.2.2 _ (List.getElem_mem bu);have a4:Hid ((ml.take (j+1)).map (dI (bQ s.list) (bw z bF))=(ml.take j).map (dI (bQ s.list) (bw z bF))++[dI (bQ s.list) (bw z bF) ml[j]]):=by
       show _=_;rw[List.take_succ_eq_append_getElem bu,List.map_append];rfl
      have aW:((ml.take j).map (dI (bQ s.list) (bw z bF))).length=j:=(by rw[List.length_map,List.length_take];omega);obtain⟨b,off,u,rfl,bV,b8,bx,hcell,A9,c9,hu,h2⟩:=(dY.below cn).at_ bu (by decide);rw[hu]at hcell;have d0:wr.cell? ⟨b,off+j*8,none⟩=some (I af ml[j].kind):=hcell 0 _ rfl;have d1:wr.cell? ⟨b,off+j*8+1,none⟩=some (I af ml[j].id.au):=hcell 1 _ rfl;have d2:wr.cell? ⟨b,off+j*8+2,none⟩=some (I ak ml[j].id.aq):=hcell 2 _ rfl;have d3:wr.cell? ⟨b,off+j*8+3,none⟩=some (I ak ml[j].id.ax):=hcell 3 _ rfl;have d4:wr.cell? ⟨b,off+j*8+4,none⟩=some (I af ml[j].ah):=hcell 4 _ rfl;have d5:wr.cell? ⟨b,off+j*8+5,none⟩=some (I ak ml[j].sub):=hcell 5 _ rfl;have d7:wr.cell? ⟨b,off+j*8+7,none⟩=some (Y A9 ml[j].events.length c9):=hcell 7 _ rfl;have d6:wr.cell? ⟨b,off+j*8+6,none⟩=some aa:=hcell 6 _ rfl;obtain⟨x,hx⟩:=am (ml[j]);rw[<-hx]at d0 d1 d2 d3 d4 d5 d7 h2 aX a4;obtain⟨A3,n3,c3,rfl,a2,bY⟩:=O2.form;have e3:n3=j:=(by rw[a2.out,aW]);subst e3;obtain⟨w5,a8⟩:=am (wr.alloc (.cells (a3 x A9 c9) 132));have bS:=aV a8;have cM:=rB (λk=>w4.heap.size<=k) (λk=>w2.heap.size<=k) _ AS AC A9 c9 nS c2 nC dn (bQ s.list) (bw z bF) x w5 cX.out c8 ((ep.below cn).below bS) cU.out (by omega) ((dr.below cn).below bS) (h2.below bS) aX;obtain⟨y,hy⟩:=am (dI (bQ s.list) (bw z bF) x);rw[<-hy]at cM a4;unfold ae.cellsOf at cM;clear hcell bx hu hx h2 aX hy;go_wp2_with fail
      try rw[<-a8]
      clear a8 d0 d1 d2 d3 d4 d5 d6 d7;refine cM.mono ?_;clear cM;rintro e w6 ⟨A6,bX,rfl,h6,b6⟩;have cy:=bS.trans (b6.mono bS.size);have O6:=O2.below cy;have bC:=(Below.refl w6 w6).alloc (Nat.le_refl _) (.cells (a3 y A6 bX) 132);have bI:aB.R (w6.alloc (.cells (a3 y A6 bX) 132)) (bm (λb=>b<w4.heap.size) (Y A3 n3 c3)) (a3 y A6 bX) y:=
       ⟨A6,bX,rfl,(h6.below bC).weak (λb aG=>by
        have:=bS.size;rcases aG with aG | aG
        ·have:=cn.size;omega
        ·have:=(O2.lt aG).2;omega)⟩
      go_wp2_with (at_builtin;refine a9 _ rfl (.tmp 88) (.tmp 93) 46 rfl aB w4 132 i0 z0 96 Tryz.underlying46 bM bL bJ bR bB (by decide) (λb=>b<w4.heap.size) (Y A3 n3 c3) ((ml.take n3).map (dI (bQ s.list) (bw z bF))) rfl (O6.below bC) (aj w6) 1 (a3 y A6 bX) y rfl (Src.made w6 _ _) bI (by rw[aW];unfold maxLen;omega) (by rw[aW];omega) (by simp;have:=cn.size;have:=cy.size;omega) ?_;rw[aW];intro A7 c7 w7 O7 cz gr ew);rw[<-a4.out]at O7;have aQ:∀k,(Value.slice A3 n3 c3).ownBlock=some k->w4.heap.size<=k:=λk hk=>(O2.lt hk).1
      go_round
      case rel=>exact⟨n3+1,by go_num,by omega,O7,((cn.trans (cy.mono cn.size)).trans (bC.mono (Nat.le_trans cn.size cy.size))).grown gr (by simp;have:=cn.size;have:=cy.size;omega) aQ⟩
      case measure=>simp[intOf];omega
     ·obtain rfl:j=nM:=(by omega);obtain⟨A3,n3,c3,rfl,a2,bY⟩:=O2.form;have cR:=bp.trans (cn.mono bp.size);have dX:=hB.below cR bs;have dH:=aw.below bK aw.lt;have cG:=dH.below cn dH.lt;have dP:=dR.below bK dR.lt;have ec:=dP.below cn dP.lt;have cc:Below w w wr.drew:=⟨cR.os,cR.tape,cR.output,cR.size,cR.block⟩;have aJ:ai wr.drew bb 130 _:=dX;have aA:ai wr.drew rb 233 _:=cG;have cK:ai wr.drew tb 233 _:=ec;have dW:cI wr.drew (bO F a) rp ⟨cm,cp,aO,cd,cj,cq,bT,cf⟩:=(((eg.below a7).below bK).below cn).goes ⟨rfl,rfl,rfl,Nat.le_refl _,λ_ _ _=>rfl,λ_ _ h=>h⟩;have kn:=sj z s a F wr.drew (HH.out.1.below cc);rw[<-bG.out]at kn;clear hi;go_wp2_with fail;refine wp_region_held_drew (S:=(λw'=>w'.cell? ⟨bb,4,none⟩=some (I ak 1)/\w'.cell? ⟨bb,5,none⟩=some (Y v.AL nl v.cL)/\w'.cell? ⟨bb,6,none⟩=some (Y v.AQ s.ay.length v.cQ)/\w'.cell? ⟨bb,7,none⟩=some (aa)/\w'.cell? ⟨bb,13,none⟩=some (Y v.AW s.waits.length v.cW)/\w'.cell? (aj rb)=some (I af rp.kind)/\w'.cell? ⟨rb,1,none⟩=some (I ak rp.bf)/\w'.cell? ⟨rb,2,none⟩=some (Y cm rp.a5.length cp)/\w'.cell? ⟨rb,3,none⟩=some (Y aO rp.asks.length cd)/\w'.cell? ⟨rb,4,none⟩=some (Y cj rp.entries.length cq)/\w'.cell? ⟨rb,5,none⟩=some (Y bT rp.aK.length cf)/\w'.cell? ⟨rb,6,none⟩=some (aa)/\w'.cell? ⟨rb,7,none⟩=some (aa))) (by kernel_rfl) (⟨aJ.cell 4,aJ.cell 5,aJ.cell 6,aJ.cell 7,aJ.cell 13,aA.cell 0,aA.cell 1,aA.cell 2,aA.cell 3,aA.cell 4,aA.cell 5,aA.cell 6,aA.cell 7⟩) (λJ=>?_);refine tk 0 J ?_;refine tk 1 J ?_;refine tk 2 J ?_;refine tk 3 J ?_;refine tk 5 J ?_;refine tk 6 J ?_;refine tk 8 J ?_;refine tk 9 J ?_;refine tk 10 J ?_;refine tk 11 J ?_;refine tk 12 J ?_;refine tk 13 J ?_;refine tk 14 J ?_;refine tk 15 J ?_;refine tk 16 J ?_;refine aP 4 (λK ad=>?_);clear J;go_simp;refine kn.mono ?_;clear kn;rintro e w5 ⟨rfl,bS⟩;have cb:=aJ.below bS aJ.lt;have aF:=aA.below bS aA.lt;have cT:=cK.below bS cK.lt;have dw:=dW.below bS;have tl:=wv (bO F a) aO rp.asks.length cd rp.asks w5 rfl (by have:=HH.out.2.2.2.2.2.2;omega) dw.asks
      try dsimp only
      refine ad.out _ _ (⟨cb.cell 4,cb.cell 5,cb.cell 6,cb.cell 7,cb.cell 13,aF.cell 0,aF.cell 1,aF.cell 2,aF.cell 3,aF.cell 4,aF.cell 5,aF.cell 6,aF.cell 7⟩) (λJ=>?_);clear ad K;refine aP 7 (λK ad=>?_);clear J;go_simp;refine tl.mono ?_;clear tl;rintro e w6 ⟨rfl,b6⟩;have b9:=cb.below b6 cb.lt;have bP:=aF.below b6 aF.lt;have de:=cT.below b6 cT.lt;have dV:=dw.below b6;have dT:Below wr wr w5:=⟨bS.os,bS.tape,bS.output,bS.size,bS.block⟩;have cy:=dT.trans (b6.mono dT.size);have cN:=cR.trans (cy.mono cR.size);have en:=wA (bO F a) (bO F a) (bO F a) 1 v.AL v.AQ v.AW nl v.cL s.ay.length v.cQ s.waits.length v.cW s.list s.ay s.waits rp _ w6 (HD.out.list.goes (.ao cN _)) (HD.out.prom.goes (.ao cN _)) cH.out (by omega) rfl (by omega) rfl (by omega) (HD.out.waits.goes (.ao cN _)) dV (by have:=HH.out.2.2.2.2.2.1;omega) HH.out.2.2.2.1;unfold bc.cellsOf at en
      try dsimp only
      refine ad.out _ _ (⟨b9.cell 4,b9.cell 5,b9.cell 6,b9.cell 7,b9.cell 13,bP.cell 0,bP.cell 1,bP.cell 2,bP.cell 3,bP.cell 4,bP.cell 5,bP.cell 6,bP.cell 7⟩) (λJ=>?_);clear ad K;refine aP 17 (λK ad=>?_);clear J;go_simp;refine en.mono ?_;clear en;rintro e w7 ⟨rfl,bt⟩;have cw:=b9.below bt b9.lt;have ck:=bP.below bt bP.lt;have dD:=de.below bt de.lt;have c4:=cy.trans (bt.mono cy.size)
      try dsimp only
      refine ad.out _ _ (⟨cw.cell 4,cw.cell 5,cw.cell 6,cw.cell 7,cw.cell 13,ck.cell 0,ck.cell 1,ck.cell 2,ck.cell 3,ck.cell 4,ck.cell 5,ck.cell 6,ck.cell 7⟩) (λJ=>?_);clear ad K;refine tk 18 J ?_;refine aP 19 (λK ad=>?_);clear J;refine bH 233 (.tmp 4) (.tmp 114) rfl tb #[ag 2,av hv,aa,aa,Y AE i ba,Y A3 n3 c3,aa,aa] rfl rfl 233 _ dD (by kernel_rfl) rfl (by kernel_rfl) ?_;intro w8 dd cP s8;have cA:=cw.grown cP (λe=>by have e:=Option.some.inj e;have:=ch.out;omega);have cv:=ck.grown cP (λe=>by have e:=Option.some.inj e;have:=ch.out;have:=bn.out;omega);refine ad.out _ _ (⟨cA.cell 4,cA.cell 5,cA.cell 6,cA.cell 7,cA.cell 13,cv.cell 0,cv.cell 1,cv.cell 2,cv.cell 3,cv.cell 4,cv.cell 5,cv.cell 6,cv.cell 7⟩) (λJ=>?_);clear ad K;refine cB ?_ _;clear J;go_wp2_with fail
      try rw[Exit.noGoto_ret]
      refine bodyPost_ret (results_cell_row rfl _ _ tb 233 _ (0,0) _ rfl dd Tryz.underlying233 rfl (by kernel_rfl)) rfl ?_;exact BM dA.out cS.out.1 cC.out HM.out.2.1 HM.out.2.2.1 dq.out a2.out (O4.below cn) O2 c4 cP ch.out cV.lt cR (Nat.le_trans a7.size bK.size))
section
namespace Sk
structure R where
 h:Nat
 v:List Nat
 q:List Nat
structure B where
 l:List Nat
 pr:List Nat
 tx:List Nat
 wt:List Nat
 r:List (Option R)
 n:Nat
def fN{α:Type}(n:Nat)(k:Nat->α):α:=match n with
 | 0=>k 0
 | m+1=>k (m+1)
def fL{α:Type}:List Nat->(List Nat->α)->α
 | [],k=>k []
 | x::l,k=>fN x λx=>fL l λl=>k (x::l)
def fM{α:Type}(m:R)(k:R->α):α:=fN m.h λh=>fL m.v λv=>fL m.q λq=>k ⟨h,v,q⟩
def fO{α:Type}:List (Option R)->(List (Option R)->α)->α
 | [],k=>k []
 | none::l,k=>fO l λl=>k (none::l)
 | some m::l,k=>fM m λm=>fO l λl=>k (some m::l)
def fB{α:Type}(b:B)(k:B->α):α:=fL b.l λl=>fL b.pr λpr=>fL b.tx λtx=>fL b.wt λwt=>fO b.r λr=>fN b.n λn=>k ⟨l,pr,tx,wt,r,n⟩
def fG{α:Type}:List B->(List B->α)->α
 | [],k=>k []
 | b::l,k=>fG l λl=>k (b::l)
theorem qx{α:Type}(n:Nat)(k:Nat->α):fN n k=k n:=by cases n<;>rfl
theorem h6{α:Type}:∀ (l:List Nat) (k:List Nat->α),fL l k=k l
 | [],_=>rfl
 | x::l,k=>by rw[fL,qx,h6 l]
theorem zK{α:Type}(m:R)(k:R->α):fM m k=k m:=by rw[fM,qx,h6,h6]
theorem uZ{α:Type}:∀ (l:List (Option R)) (k:List (Option R)->α),fO l k=k l
 | [],_=>rfl
 | none::l,k=>by rw[fO,uZ l]
 | some m::l,k=>by rw[fO,zK,uZ l]
theorem tS{α:Type}(b:B)(k:B->α):fB b k=k b:=by rw[fB,h6,h6,h6,h6,uZ,qx]
theorem ur{α:Type}:∀ (l:List B) (k:List B->α),fG l k=k l
 | [],_=>rfl
 | b::l,k=>by rw[fG,ur l]
def mem(x:Nat):List Nat->Bool
 | []=>false
 | y::l=>Nat.beq x y || mem x l
def ky:List Nat->List Nat->Bool
 | [],[]=>true
 | x::a,y::b=>Nat.beq x y&&ky a b
 | _,_=>false
def jy(l:List Nat):Bool:=ky l [0] || (ky l [0,1] || (ky l [0,1,2] || ky l [0,2]))
def qT(x:Nat):List Nat->List Nat
 | []=>[]
 | y::l=>bif Nat.beq y x then l else y::qT x l
def B.nd(b:B)(x:Nat):B:=⟨b.l++[x],b.pr.filter λy=> !Nat.beq y x,qT x b.tx,b.wt,b.r,b.n+1⟩
def note(b:B)(x:Nat):Option B:=bif !mem x b.l&&(jy (b.l++[x])&&Nat.ble (b.n+1) 8)then some (b.nd x)else none
def notes:List Nat->B->Option B
 | [],b=>some b
 | x::l,b=>(note b x).bind (notes l)
def rep(b:B)(k:Nat):R:=match b.r.getD k none with
 | some m=>m
 | none=>⟨0,[],[]⟩
def kids(p:List Nat)(i:Nat):List Nat:=(List.range p.length).filter λj=>Nat.ble 1 j&&Nat.beq (p.getD j 0) i
def last(p:List Nat)(i:Nat)(b:B):List R:=(kids p i).map (rep b)
def bn(l acc:List Nat)(x:Nat):List Nat:=bif mem x acc || (mem x l || Nat.ble 16 acc.length)then acc else acc++[x]
def asks(ks:List R)(b:B):List Nat:=ks.foldl (λacc m=>m.q.foldl (bn b.l) acc) ((b.tx.take 4).foldl (bn b.l) [])
def sum(ks:List R):Nat:=ks.foldr (λm k=>m.q.length+k) 0
def says(ks:List R)(x:Nat):Bool:=ks.all λm=>mem x m.v
def bh(l:List Nat)(s:List Nat×List Nat)(x:Nat):List Nat×List Nat:=
 bif mem x l || (mem x s.1 || mem x s.2)then s else bif Nat.beq x 2 then(bif Nat.blt s.1.length 4 then(s.1++[x],s.2)else s)else(s.1,s.2++[x])
def B.waits(b:B)(l:List Nat):B:=⟨b.l,b.pr,b.tx,l,b.r,b.n⟩
def B.told(b:B)(k:Nat)(m:R):B:=⟨b.l,b.pr,b.tx,b.wt,b.r.set k (some m),b.n⟩
def B.prom(b:B)(x:Nat):B:=⟨b.l,b.pr++[x],b.tx,b.wt,b.r,b.n+1⟩
def work(ks:List R)(b:B):Option B:=
 bif Nat.ble ((b.tx.take 4).length+sum ks) 15 then
  let a:=(asks ks b).foldl (bh b.l) (b.wt,[])
  let wt:=a.1.filter λx=> !says ks x
  bif Nat.ble wt.length 4 then(notes a.2 b).bind λb1=>(notes (a.1.filter (says ks)) b1).bind λb2=>some (b2.waits wt)else none
 else none
structure C where
 h:Nat
 e:List Nat
 pr:List Nat
def command(i:Nat)(b:B)(k:Nat):Option C:=
 let m:=rep b k
 bif (m.v.all λx=>mem x b.l || (mem x b.pr || mem x b.wt))&&Nat.ble m.h 1000 then
  some ⟨min m.h b.l.length,(b.l.drop (min m.h b.l.length)).take 4,(bif Nat.beq i 0 then b.wt else b.pr).take 16⟩else none
def cn:List Nat->Nat->B->Option B
 | [],_,b=>some b
 | x::l,h,b=>(bif Nat.beq h b.l.length then note b x else some b).bind (cn l (h+1))
def b6(b:B)(acc:List Nat)(x:Nat):List Nat:=bif mem x b.l || (mem x b.pr || mem x acc)then acc else acc++[x]
def CC(b:B)(x:Nat):Option B:=bif !mem x b.l&&(ky b.pr []&&Nat.ble (b.n+1) 8)then some (b.prom x)else none
def uJ:List Nat->B->Option B
 | [],b=>some b
 | x::l,b=>(CC b x).bind (uJ l)
def B3(c:C)(b:B):Option B:=
 (cn c.e c.h b).bind λb=>bif Nat.ble (b.pr.length+c.pr.length) 5 then uJ (c.pr.foldl (b6 b) []) b else none
def report(p:List Nat)(i:Nat)(b:B):Option R:=
 let ks:=last p i b
 bif Nat.ble ((b.tx.take 4).length+sum ks) 15 then some ⟨b.l.length,b.pr.filter (says ks),asks ks b⟩else none
def sQ:B:=⟨[],[],[],[],[],0⟩
def self(p:List Nat)(i:Nat)(b:B):Option B:=bif Nat.beq i 0 then work (last p i b) b else some b
def handle(p:List Nat)(j:Nat)(b:B)(k:Nat)(m:R):Option B:=
 fB (b.told k m) λb=>bif Nat.beq j 0 then work (last p j b) b else some b
def fC{α:Type}(c:C)(k:C->α):α:=fN c.h λh=>fL c.e λe=>fL c.pr λpr=>k ⟨h,e,pr⟩
theorem Cn{α:Type}(c:C)(k:C->α):fC c k=k c:=by rw[fC,qx,h6,h6]
def lay(g:List B)(to:Nat)(b:B):Option (List B):=fB b λb=>fG (g.set to b) some
theorem v9(g:List B)(to:Nat)(b:B):lay g to b=some (g.set to b):=by rw[lay,tS,ur]
def send(p:List Nat)(i:Nat)(s:B)(g:List B)(to:Nat):Option (List B):=
 bif !Nat.beq i 0&&Nat.beq to (p.getD i 0)then(report p i s).bind λm=>fM m λm=>(handle p to (g.getD to sQ) i m).bind (lay g to)
 else bif Nat.ble 1 to&&Nat.beq (p.getD to 0) i then(command i s to).bind λc=>fC c λc=>(B3 c (g.getD to sQ)).bind (lay g to)
 else some g
def sends(p:List Nat)(i:Nat)(s:B):List Nat->List B->Option (List B)
 | [],g=>some g
 | to::l,g=>(send p i s g to).bind (sends p i s l)
def tick(p:List Nat)(g:List B)(i:Nat):Option (List B):=
 (self p i (g.getD i sQ)).bind λs=>fB s λs=>fG (g.set i s) (sends p i s (List.range p.length))
def uI(p:List Nat):List Nat->List B->Option (List B)
 | [],g=>some g
 | i::l,g=>(tick p g i).bind (uI p l)
def turns(n:Nat):List Nat:=(List.range n).reverse++List.range n
def round(p:List Nat)(g:List B):Option (List B):=uI p (turns p.length) g
end Sk
def ae.bare(x:ae):ae:=⟨x.kind,x.id,x.ah,x.sub,[]⟩
structure cG (E:Nat->ae) (g:Nat):Prop where
 kR:(E 0).id≠(E 1).id
 jP:(E 0).id≠(E 2).id
 d12:(E 1).id≠(E 2).id
 k0:(E 0).kind=2
 k1:(E 1).kind=3
 k2:(E 2).kind=1
 cl:(E 1).ah=(E 0).ah
 sb:(E 1).sub=(E 0).sub
 fit:∀t,t<3->((E t).aH/\(E t).enc.length+70<=g)/\(E t).bare.aH/\(E t).bare.enc.length+70<=g
def dO(E:Nat->ae)(id:PId):Nat:=if id=(E 0).id then 0 else if id=(E 1).id then 1 else 2
def tok(E:Nat->ae)(x:ae):Nat:=dO E x.id
def In(E:Nat->ae)(x:ae):Prop:=∃t,t<3/\(x=E t\/x=(E t).bare)
def lL(E:Nat->ae)(id:PId):Prop:=∃t,t<3/\id=(E t).id
section
variable {E:Nat->ae}{g:Nat}
theorem In.id{x:ae}(h:In E x):lL E x.id:=by
 obtain⟨t,ht,rfl | rfl⟩:=h
 ·exact⟨t,ht,rfl⟩
 ·exact⟨t,ht,rfl⟩
theorem cG.dO(h:cG E g){t:Nat}(ht:t<3):dO E (E t).id=t:=by
 unfold Go.Proofs.YtgblliofomgggaaGreat.dO;obtain rfl | rfl | rfl:t=0\/t=1\/t=2:=by omega
 ·simp
 ·simp[h.kR.symm]
 ·simp[h.jP.symm,h.d12.symm]
theorem cG.inj(h:cG E g){a b:PId}(ha:lL E a)(a7:lL E b):a=b↔Go.Proofs.YtgblliofomgggaaGreat.dO E a=Go.Proofs.YtgblliofomgggaaGreat.dO E b:=by
 obtain⟨t,ht,rfl⟩:=ha;obtain⟨u,hu,rfl⟩:=a7;rw[h.dO ht,h.dO hu];constructor
 ·intro e;have:=congrArg (Go.Proofs.YtgblliofomgggaaGreat.dO E) e
  rwa [h.dO ht,h.dO hu]at this
 ·rintro rfl;rfl
theorem cG.beq(h:cG E g){a b:PId}(ha:lL E a)(a7:lL E b):decide (a=b)=Nat.beq (Go.Proofs.YtgblliofomgggaaGreat.dO E a) (Go.Proofs.YtgblliofomgggaaGreat.dO E b):=by
 rw[Bool.eq_iff_iff,decide_eq_true_iff,Nat.beq_eq,h.inj ha a7]
theorem tX(a b:Nat):Nat.beq a b=Nat.beq b a:=by
 rw[Bool.eq_iff_iff,Nat.beq_eq,Nat.beq_eq];exact eq_comm
theorem cG.kind(h:cG E g){x:ae}(hx:In E x):(x.kind=1↔tok E x=2)/\(x.kind=2↔tok E x=0)/\(x.kind=3↔tok E x=1)/\x.ah<32:=by
 obtain⟨t,ht,hx⟩:=hx;have e:x.kind=(E t).kind/\x.id=(E t).id/\x.ah=(E t).ah:=by rcases hx with rfl | rfl<;>exact⟨rfl,rfl,rfl⟩
 unfold tok;rw[e.1,e.2.1,h.dO ht,e.2.2];have:=(h.fit t ht).1.1.ah;obtain rfl | rfl | rfl:t=0\/t=1\/t=2:=by omega
 ·simp[h.k0,this]
 ·simp[h.k1,this]
 ·simp[h.k2,this]
theorem cG.ch(h:cG E g){z:aM}(hz:z.g=g){x:ae}(hx:In E x):ch z x:=by
 obtain⟨t,ht,rfl | rfl⟩:=hx
 ·exact⟨(h.fit t ht).1.1,by rw[hz];exact(h.fit t ht).1.2⟩
 ·exact⟨(h.fit t ht).2.1,by rw[hz];exact(h.fit t ht).2.2⟩
theorem In.cut{x:ae}(h:In E x)(l:List dY)(cl:List Nat):In E (dI l cl x):=by
 obtain⟨t,ht,hx⟩:=h;refine⟨t,ht,?_⟩;unfold dI;split
 ·split
  ·rcases hx with rfl | rfl
   ·exact .inl rfl
   ·exact .inr rfl
  ·right;rcases hx with rfl | rfl<;>rfl
 ·rcases hx with rfl | rfl
  ·exact .inl rfl
  ·exact .inr rfl
theorem rC(h:cG E g){l:List PId}(hl:∀y∈l,lL E y){id:PId}(hx:lL E id):(l.any λy=>decide (y=id))=Sk.mem (dO E id) (l.map (dO E)):=by
 induction l with
 | nil=>rfl
 | cons y l M=>
  rw[List.any_cons,List.map_cons,Sk.mem,M (λz hz=>hl z (by simp[hz])),h.beq (hl y (by simp)) hx,tX]
theorem gm(h:cG E g){l:List ae}(hl:∀y∈l,In E y){id:PId}(hx:lL E id):bd l id=Sk.mem (dO E id) (l.map (tok E)):=by
 have:=rC h (l:=l.map (·.id)) (λy hy=>by obtain⟨x,hx,rfl⟩:=List.mem_map.1 hy;exact(hl x hx).id) hx;rw[List.any_map,List.map_map]at this;exact this
theorem gD(h:cG E g){l:List ae}(hl:∀y∈l,In E y){x:ae}(hx:In E x):bd l x.id=Sk.mem (tok E x) (l.map (tok E)):=gm h hl hx.id
theorem kB(h:cG E g){l:List PId}(hl:∀y∈l,lL E y){id:PId}(hx:lL E id):eR l id true=Sk.mem (dO E id) (l.map (dO E)):=by
 rw[<-rC h hl hx];unfold eR;congr 1;funext y;simp[eq_comm]
theorem mD(h:cG E g){id:PId}(hx:lL E id):∀ (l:List ct),(∀y∈l,In E y.entry)->(iu l id).map (λt=>tok E t.entry)=Sk.qT (dO E id) (l.map λt=>tok E t.entry)
 | [],_=>rfl
 | t::l,hl=>by
  have M:=mD h hx l (λy hy=>hl y (by simp[hy]));unfold iu at M ⊢;rw[List.eraseP_cons,List.map_cons,Sk.qT,h.beq (hl t (by simp)).id hx];rw[show dO E t.entry.id=tok E t.entry from rfl];cases Nat.beq (tok E t.entry) (dO E id)with
  | true=>rfl
  | false=>simp[M]
theorem gO{p:ae->Bool}{q:Nat->Bool}:∀ (l:List ae),(∀y∈l,p y=q (tok E y))->(l.filter p).map (tok E)=(l.map (tok E)).filter q
 | [],_=>rfl
 | y::l,hl=>by
  rw[List.filter_cons,List.map_cons,List.filter_cons,<-gO l (λz hz=>hl z (by simp[hz])),hl y (by simp)];cases q (tok E y)<;>rfl
end
def ig(E:Nat->ae)(m:bc):Sk.R:=⟨m.bf,m.a5.map (dO E),m.asks.map (tok E)⟩
def bV(E:Nat->ae)(n:Nat)(s:aC):Sk.B:=
 ⟨s.list.map (tok E),s.ay.map (tok E),s.aF.map λt=>tok E t.entry,s.waits.map (tok E),(List.range n).map λk=>(s.bU k).map (ig E),s.recs.length⟩
structure tp (E:Nat->ae) (m:bc):Prop where
 asks:∀x∈m.asks,In E x
 a5:∀v∈m.a5,lL E v
 l1:m.a5.length<=16
 l2:m.asks.length<=16
structure Inv (E:Nat->ae) (z:aM) (s:aC):Prop where
 list:∀x∈s.list,In E x
 ay:∀x∈s.ay,In E x
 aF:∀t∈s.aF,t.asked=true/\In E t.entry
 waits:∀x∈s.waits,In E x
 bU:∀k m,s.bU k=some m->tp E m
 fit:Fit z s
structure lH (E:Nat->ae) (z:aM) (p:List Nat):Prop where
 ok:z.ok
 env:cG E z.g
 room:8*z.g<=z.room
 len:p.length=z.n
 par:∀j,1<=j->j<z.n->p.getD j 0=z.p j
section
variable {E:Nat->ae}{z:aM}{p:List Nat}{s:aC}
theorem e2:∀ {a b:List Nat},Sk.ky a b=true->a=b
 | [],[],_=>rfl
 | x::a,y::b,h=>by
  rw[Sk.ky,Bool.and_eq_true,Nat.beq_eq]at h;rw[h.1,e2 h.2]
 | [],_::_,h=>by cases h
 | _::_,[],h=>by cases h
theorem qj(h:cG E z.g){l:List ae}(hl:∀x∈l,In E x)(hk:Sk.jy (l.map (tok E))=true):mQ l:=by
 have one:∀ {x:ae} {t:Nat},In E x->tok E x=t->(t<3)->x.kind=(E t).kind/\x.ah=(E t).ah/\x.sub=(E t).sub:=by
  rintro x t ⟨u,hu,hx⟩ ht a1;have:tok E x=u:=(by rcases hx with rfl | rfl<;>exact h.dO hu);obtain rfl:u=t:=this.symm.trans ht;rcases hx with rfl | rfl<;>exact⟨rfl,rfl,rfl⟩
 have gen:∀ (ts:List Nat),l.map (tok E)=ts->(∀t∈ts,t<3)->∀ (i:Nat) (hi:i<l.length),∃t,ts[i]? =some t/\l[i].kind=(E t).kind/\l[i].ah=(E t).ah/\l[i].sub=(E t).sub:=by
  intro ts e a1 i hi;have e1:ts[i]? =some (tok E l[i]):=(by rw[<-e,List.getElem?_map,List.getElem?_eq_getElem hi];rfl);exact⟨_,e1,one (hl _ (List.getElem_mem hi)) rfl (a1 _ (List.mem_of_getElem? e1))⟩
 have hs:∀ (x:ae) (a:List dY),dR a x=if x.kind=2 then [⟨x.ah,x.sub⟩]else if x.kind=3 then []else a:=λ_ _=>rfl;have fin:∀ (ts:List Nat),l.map (tok E)=ts->(ts=[0]\/ts=[0,1]\/ts=[0,1,2]\/ts=[0,2])->mQ l:=by
  intro ts e M;have G:=gen ts e (by rcases M with rfl | rfl | rfl | rfl<;>simp);have hlen:l.length=ts.length:=(by rw[<-e,List.length_map]);have k0:=h.k0;have k1:=h.k1;have k2:=h.k2;intro i hi;have h0:0<l.length:=(by omega);obtain⟨t0,aB,f0⟩:=G 0 h0;obtain rfl:t0=0:=(by rcases M with rfl | rfl | rfl | rfl<;>simpa using aB.symm);have s1:bQ (l.take 1)=[⟨(E 0).ah,(E 0).sub⟩]:=by
   rw[show(1:Nat)=0+1 from rfl,jt l 0 h0,hs,if_pos (f0.1.trans k0),f0.2.1,f0.2.2]
  obtain⟨t,J,I⟩:=G i hi
  match i,hi,J,I with
  | 0,_,J,I=>
   obtain rfl:t=0:=(by rw[aB]at J;exact(Option.some.inj J).symm);exact⟨λ_=>rfl,λhk=>by rw[I.1,k0]at hk;cases hk⟩
  | 1,hi,J,I=>
   refine⟨λhk=>?_,λhk=>?_⟩
   ·exfalso;rcases M with rfl | rfl | rfl | rfl
    ·simp at J
    ·obtain rfl:t=1:=(by simpa using J.symm);rw[I.1,k1]at hk;cases hk
    ·obtain rfl:t=1:=(by simpa using J.symm);rw[I.1,k1]at hk;cases hk
    ·obtain rfl:t=2:=(by simpa using J.symm);rw[I.1,k2]at hk;cases hk
   ·rw[s1,I.2.1,I.2.2];rcases M with rfl | rfl | rfl | rfl
    ·simp at J
    ·obtain rfl:t=1:=(by simpa using J.symm);rw[h.cl,h.sb]
    ·obtain rfl:t=1:=(by simpa using J.symm);rw[h.cl,h.sb]
    ·obtain rfl:t=2:=(by simpa using J.symm);rw[I.1,k2]at hk;cases hk
  | 2,hi,J,I=>
   obtain rfl:t=2:=(by rcases M with rfl | rfl | rfl | rfl<;>simpa using J.symm);exact⟨λhk=>(by rw[I.1,k2]at hk;cases hk),λhk=>(by rw[I.1,k2]at hk;cases hk)⟩
  | i+3,hi,J,I=>
   rcases M with rfl | rfl | rfl | rfl<;>simp at J
 unfold Sk.jy at hk;simp only[Bool.or_eq_true]at hk;rcases hk with hk | hk | hk | hk
 ·exact fin _ (e2 hk) (.inl rfl)
 ·exact fin _ (e2 hk) (.inr (.inl rfl))
 ·exact fin _ (e2 hk) (.inr (.inr (.inl rfl)))
 ·exact fin _ (e2 hk) (.inr (.inr (.inr rfl)))
theorem ss{l:List Nat}(h:Sk.jy l=true):l.length<=3:=by
 unfold Sk.jy at h;simp only[Bool.or_eq_true]at h;rcases h with h | h | h | h<;>rw[e2 h]<;>decide
theorem fq{α:Type}{c:Bool}{a:Option α}{b:α}(h:(bif c then a else none)=some b):c=true/\a=some b:=by
 cases c with
 | true=>exact⟨rfl,h⟩
 | false=>cases h
theorem bind_some{α β:Type}{a:Option α}{f:α->Option β}{b:β}(h:a.bind f=some b):∃x,a=some x/\f x=some b:=by
 cases a with
 | none=>cases h
 | some x=>exact⟨x,rfl,h⟩
theorem pS(hz:lH E z p)(hs:Inv E z s){x:ae}(hx:In E x){b:Sk.B}(h:Sk.note (bV E z.n s) (tok E x)=some b):jh z s x/\Inv E z (s.bP x)/\bV E z.n (s.bP x)=b:=by
 obtain⟨hc,a7⟩:=fq h;simp only[Bool.and_eq_true,Bool.not_eq_true']at hc;obtain⟨h1,h2,a1⟩:=hc;have a1:=Nat.le_of_ble_eq_true a1;injection a7 with a7;have aA:bd s.list x.id=false:=(gm hz.env hs.list hx.id).trans h1;have hl:∀y∈s.list++[x],In E y:=λy hy=>(List.mem_append.1 hy).elim (hs.list y) (λe=>by rw[List.mem_singleton.1 e];exact hx);have I:Sk.jy ((s.list++[x]).map (tok E))=true:=by rw[List.map_append];exact h2
 have J:jh z s x:=⟨aA,by
  have aD:s.recs.length+1<=8:=a1;exact Nat.le_trans (Nat.mul_le_mul_right _ aD) hz.room,qj hz.env hl I,by
  have:=ss I;simp at this;omega⟩
 refine⟨J,⟨hl,λy hy=>hs.ay y (List.mem_filter.1 hy).1,λt ht=>hs.aF t (List.mem_of_mem_eraseP ht),hs.waits,hs.bU,hs.fit.bP hz.ok J (hz.env.ch rfl hx)⟩,?_⟩;rw[<-a7];unfold bV aC.bP Sk.B.nd;simp only[List.map_append,List.map_cons,List.map_nil,List.length_append,List.length_cons,List.length_nil,Sk.B.mk.injEq,true_and,and_true];refine⟨gO (q:=λy=> !Nat.beq y (tok E x)) _ λy hy=>?_,mD hz.env hx.id _ λt ht=>(hs.aF t ht).2⟩;rw[hz.env.beq (hs.ay y hy).id hx.id];rfl
theorem ko(hz:lH E z p):∀ (l:List ae) (s:aC),Inv E z s->(∀x∈l,In E x)->∀ {b:Sk.B},Sk.notes (l.map (tok E)) (bV E z.n s)=some b->gU z s l/\Inv E z (l.foldl aC.bP s)/\bV E z.n (l.foldl aC.bP s)=b
 | [],s,hs,_,b,h=>by
  injection h with h;exact⟨trivial,hs,h⟩
 | x::l,s,hs,hl,b,h=>by
  obtain⟨b1,h1,h2⟩:=bind_some h;obtain⟨c1,i1,e1⟩:=pS hz hs (hl x (by simp)) h1;rw[<-e1]at h2;obtain⟨c2,i2,a5⟩:=ko hz l _ i1 (λy hy=>hl y (by simp[hy])) h2;exact⟨⟨c1,c2⟩,i2,a5⟩
theorem sV(n:Nat)(s:aC){k:Nat}(hk:k<n):Sk.rep (bV E n s) k=ig E (s.rep k):=by
 have e:(bV E n s).r.getD k none=(s.bU k).map (ig E):=by
  unfold bV;rw[List.getD_eq_getElem?_getD,List.getElem?_map,List.getElem?_range hk];rfl
 unfold Sk.rep aC.rep;rw[e];cases s.bU k<;>rfl
theorem v8(hs:Inv E z s)(k:Nat):tp E (s.rep k):=by
 unfold aC.rep;cases h:s.bU k with
 | none=>exact⟨λx hx=>(by cases hx),λx hx=>(by cases hx),by simp[bc.zero],by simp[bc.zero]⟩
 | some m=>exact hs.bU k m h
theorem yA(hz:lH E z p)(i:Nat):Sk.kids p i=Tr.kids z.p z.n i:=by
 unfold Sk.kids Tr.kids;rw[hz.len];apply List.filter_congr;intro j hj;have hj:=List.mem_range.1 hj;rw[Bool.eq_iff_iff,Bool.and_eq_true,Nat.ble_eq,Nat.beq_eq,decide_eq_true_iff];constructor
 ·rintro⟨h1,h2⟩;exact⟨h1,(hz.par j h1 hj).symm.trans h2⟩
 ·rintro⟨h1,h2⟩;exact⟨h1,(hz.par j h1 hj).trans h2⟩
theorem gZ(hz:lH E z p)(s:aC):(bz z s).map (ig E)=Sk.last p z.me (bV E z.n s):=by
 unfold bz Sk.last cg;rw[List.map_map,yA hz];apply List.map_congr_left;intro k hk;exact(sV z.n s (Tr.e0.1 hk).1).symm
theorem kv(hs:Inv E z s):∀m∈bz z s,tp E m:=λm hm=>by
 obtain⟨k,_,rfl⟩:=List.mem_map.1 hm;exact v8 hs k
theorem nt:∀ (l:List bc),cz l=Sk.sum (l.map (ig E))
 | []=>rfl
 | m::l=>by
  have:=nt l;unfold cz at this ⊢;rw[List.map_cons,List.sum_cons,this];show m.asks.length+_=(m.asks.map (tok E)).length+_;rw[List.length_map];rfl
theorem qw(h:cG E z.g){list acc:List ae}{x:ae}(hl:∀y∈list,In E y)(ha:∀y∈acc,In E y)(hx:In E x):
 (bn list acc x).map (tok E)=Sk.bn (list.map (tok E)) (acc.map (tok E)) (tok E x)/\∀y∈bn list acc x,In E y:=by
 unfold bn Sk.bn;rw[gD h ha hx,gD h hl hx,List.length_map,show decide (16<=acc.length)=Nat.ble 16 acc.length by rw[Bool.eq_iff_iff,decide_eq_true_iff,Nat.ble_eq],Bool.or_assoc];cases Sk.mem (tok E x) (acc.map (tok E)) || (Sk.mem (tok E x) (list.map (tok E)) || Nat.ble 16 acc.length)with
 | true=>exact⟨rfl,ha⟩
 | false=>exact⟨by simp,λy hy=>(List.mem_append.1 hy).elim (ha y) (λe=>by rw[List.mem_singleton.1 e];exact hx)⟩
theorem iG(h:cG E z.g){list:List ae}(hl:∀y∈list,In E y):∀ (l acc:List ae),(∀y∈acc,In E y)->(∀y∈l,In E y)->
 (l.foldl (bn list) acc).map (tok E)=(l.map (tok E)).foldl (Sk.bn (list.map (tok E))) (acc.map (tok E))/\∀y∈l.foldl (bn list) acc,In E y
 | [],acc,ha,_=>⟨rfl,ha⟩
 | x::l,acc,ha,hx=>by
  obtain⟨e1,i1⟩:=qw h hl ha (hx x (by simp));have:=iG h hl l (bn list acc x) i1 (λy hy=>hx y (by simp[hy]));rw[List.foldl_cons,List.map_cons,List.foldl_cons,<-e1];exact this
theorem ml(h:cG E z.g){list:List ae}(hl:∀y∈list,In E y):∀ (ms:List bc) (acc:List ae),(∀y∈acc,In E y)->(∀m∈ms,tp E m)->
 (ms.foldl (λacc m=>m.asks.foldl (bn list) acc) acc).map (tok E)=(ms.map (ig E)).foldl (λacc m=>m.q.foldl (Sk.bn (list.map (tok E))) acc) (acc.map (tok E))/\∀y∈ms.foldl (λacc m=>m.asks.foldl (bn list) acc) acc,In E y
 | [],acc,ha,_=>⟨rfl,ha⟩
 | m::ms,acc,ha,hx=>by
  obtain⟨e1,i1⟩:=iG h hl m.asks acc ha (hx m (by simp)).asks;have:=ml h hl ms _ i1 (λy hy=>hx y (by simp[hy]));rw[List.foldl_cons,List.map_cons,List.foldl_cons,show(ig E m).q=m.asks.map (tok E) from rfl,<-e1];exact this
theorem uK{l:List ct}(h:∀t∈l,t.asked=true):b0 l=(l.map (·.entry)).take 4:=by
 unfold b0;rw[List.filter_eq_self.2 h]
theorem j9(hs:Inv E z s):(b0 s.aF).map (tok E)=(bV E z.n s).tx.take 4/\∀x∈b0 s.aF,In E x:=by
 rw[uK (λt ht=>(hs.aF t ht).1)];refine⟨?_,λx hx=>?_⟩
 ·unfold bV;rw[List.map_take,List.map_map];rfl
 ·obtain⟨t,ht,rfl⟩:=List.mem_map.1 (List.mem_of_mem_take hx);exact(hs.aF t ht).2
theorem lA(hz:lH E z p)(hs:Inv E z s):(dF z s).map (tok E)=Sk.asks (Sk.last p z.me (bV E z.n s)) (bV E z.n s)/\∀x∈dF z s,In E x:=by
 obtain⟨e1,i1⟩:=j9 hs;obtain⟨a5,i2⟩:=iG hz.env hs.list (b0 s.aF) [] (by simp) i1;have:=ml hz.env hs.list (bz z s) _ i2 (kv hs);unfold dF fk Sk.asks;rw[<-gZ hz];refine⟨this.1.trans ?_,this.2⟩;rw[a5,e1];rfl
theorem lh(h:cG E z.g){ms:List bc}(hm:∀m∈ms,tp E m){id:PId}(hx:lL E id):b9 ms id=Sk.says (ms.map (ig E)) (dO E id):=by
 unfold b9 Sk.says;rw[List.all_map,Bool.eq_iff_iff,List.all_eq_true,List.all_eq_true];constructor
 ·intro hh m hi;have:=hh m hi;rw[kB h (hm m hi).a5 hx]at this;exact this
 ·intro hh m hi;rw[kB h (hm m hi).a5 hx];exact hh m hi
theorem qk(h:cG E z.g){list a b:List ae}{x:ae}(hl:∀y∈list,In E y)(ha:∀y∈a,In E y)(a7:∀y∈b,In E y)(hx:In E x):
 ((bh list (a,b) x).1.map (tok E),(bh list (a,b) x).2.map (tok E))=Sk.bh (list.map (tok E)) (a.map (tok E),b.map (tok E)) (tok E x)/\(∀y∈(bh list (a,b) x).1,In E y)/\∀y∈(bh list (a,b) x).2,In E y:=by
 have one:∀ {l:List ae},(∀y∈l,In E y)->∀y∈l++[x],In E y:=λhl y hy=>(List.mem_append.1 hy).elim (hl y) (λe=>by rw[List.mem_singleton.1 e];exact hx);unfold bh Sk.bh;simp only;rw[gD h hl hx,gD h ha hx,gD h a7 hx,Bool.or_assoc];cases Sk.mem (tok E x) (list.map (tok E)) || (Sk.mem (tok E x) (a.map (tok E)) || Sk.mem (tok E x) (b.map (tok E)))with
 | true=>exact⟨rfl,ha,a7⟩
 | false=>
  rw[if_neg (by simp)];by_cases hk:x.kind=1
  ·rw[if_pos hk,show Nat.beq (tok E x) 2=true by rw[(h.kind hx).1.1 hk];rfl];rw[List.length_map];by_cases h4:a.length<4
   ·rw[if_pos h4,show Nat.blt a.length 4=true from Nat.ble_eq_true_of_le h4];exact⟨by simp,one ha,a7⟩
   ·rw[if_neg h4,show Nat.blt a.length 4=false from by
     cases e:Nat.blt a.length 4 with
     | false=>rfl
     | true=>exact absurd (Nat.le_of_ble_eq_true e) h4]
    exact⟨rfl,ha,a7⟩
  ·rw[if_neg hk,show Nat.beq (tok E x) 2=false from by
    cases e:Nat.beq (tok E x) 2 with
    | false=>rfl
    | true=>exact absurd ((h.kind hx).1.2 (Nat.eq_of_beq_eq_true e)) hk]
   exact⟨by simp,ha,one a7⟩
theorem sY(h:cG E z.g){list:List ae}(hl:∀y∈list,In E y):∀ (l a b:List ae),(∀y∈a,In E y)->(∀y∈b,In E y)->(∀y∈l,In E y)->
 ((l.foldl (bh list) (a,b)).1.map (tok E),(l.foldl (bh list) (a,b)).2.map (tok E))=(l.map (tok E)).foldl (Sk.bh (list.map (tok E))) (a.map (tok E),b.map (tok E))/\(∀y∈(l.foldl (bh list) (a,b)).1,In E y)/\∀y∈(l.foldl (bh list) (a,b)).2,In E y
 | [],a,b,ha,a7,_=>⟨rfl,ha,a7⟩
 | x::l,a,b,ha,a7,hx=>by
  obtain⟨e1,i1,i2⟩:=qk h hl ha a7 (hx x (by simp));rw[List.foldl_cons,List.map_cons,List.foldl_cons,<-e1];exact sY h hl l _ _ i1 i2 (λy hy=>hx y (by simp[hy]))
theorem pX(hz:lH E z p)(hs:Inv E z s){b:Sk.B}(h:Sk.work (Sk.last p z.me (bV E z.n s)) (bV E z.n s)=some b):ih z s/\Inv E z (hd z s)/\bV E z.n (hd z s)=b:=by
 obtain⟨h1,h2⟩:=fq h;have h1:=Nat.le_of_ble_eq_true h1;obtain⟨a1,h4⟩:=fq h2;have a1:=Nat.le_of_ble_eq_true a1;obtain⟨b1,bi,h6⟩:=bind_some h4;obtain⟨b2,h7,h8⟩:=bind_some h6;injection h8 with h8;obtain⟨ea,M⟩:=lA hz hs;obtain⟨aB,i0⟩:=j9 hs;obtain⟨J,i1,i2⟩:=sY hz.env hs.list (dF z s) s.waits [] hs.waits (by simp) M;rw[ea]at J;have I:(gP z s).map (tok E)=((Sk.asks (Sk.last p z.me (bV E z.n s)) (bV E z.n s)).foldl (Sk.bh (bV E z.n s).l) ((bV E z.n s).wt,[])).1:=congrArg Prod.fst J;have el:(hb z s).map (tok E)=((Sk.asks (Sk.last p z.me (bV E z.n s)) (bV E z.n s)).foldl (Sk.bh (bV E z.n s).l) ((bV E z.n s).wt,[])).2:=congrArg Prod.snd J;have io:∀x∈gP z s,In E x:=i1;have il:∀x∈hb z s,In E x:=i2;have Y:((gP z s).filter λx=>b9 (bz z s) x.id).map (tok E)=((gP z s).map (tok E)).filter (Sk.says (Sk.last p z.me (bV E z.n s))):=gO _ λy hy=>by
  rw[<-gZ hz,lh hz.env (kv hs) (io y hy).id];rfl
 have en:((gP z s).filter λx=> !b9 (bz z s) x.id).map (tok E)=((gP z s).map (tok E)).filter λx=> !Sk.says (Sk.last p z.me (bV E z.n s)) x:=gO (q:=λx=> !Sk.says (Sk.last p z.me (bV E z.n s)) x) _ λy hy=>by
  rw[<-gZ hz,lh hz.env (kv hs) (io y hy).id];rfl
 rw[<-el]at bi;obtain⟨c1,v1,q1⟩:=ko hz _ _ hs il bi;rw[<-q1,<-I,<-Y]at h7;have iy:∀x∈(gP z s).filter λx=>b9 (bz z s) x.id,In E x:=λx hx=>io x (List.mem_filter.1 hx).1;obtain⟨c2,v2,q2⟩:=ko hz _ _ v1 iy h7;rw[<-I,<-en,List.length_map]at a1;refine⟨⟨?_,λx hx=>hz.env.ch rfl (M x hx),c1,c2⟩,?_,?_⟩
 ·rw[<-gZ hz,<-nt,<-aB,List.length_map]at h1;exact h1
 ·have f:=v2.fit;exact⟨v2.list,v2.ay,v2.aF,λx hx=>io x (List.mem_filter.1 hx).1,v2.bU,⟨f.list,f.ay,f.aF,λx hx=>hz.env.ch rfl (io x (List.mem_filter.1 hx).1),f.bU,f.lX,f.l1,f.l2,f.l3,a1,f.run,f.enc⟩⟩
 ·rw[<-h8,<-q2,<-I,<-en];rfl
theorem th{f:Nat->ae->ae}(hf:∀i x,tok E (f i x)=tok E x)(l:List ae):(l.mapIdx f).map (tok E)=l.map (tok E):=by
 apply List.ext_getElem
 ·simp
 ·intro i h1 h2;simp[hf]
theorem qc(hz:lH E z p)(hs:Inv E z s){k:Nat}(hk:k<z.n){c:Sk.C}(h:Sk.command z.me (bV E z.n s) k=some c):
 fv z s k/\c=⟨(aZ z s k).bf,(aZ z s k).entries.map (tok E),(aZ z s k).aK.map (tok E)⟩/\(∀x∈(aZ z s k).entries,In E x)/\(∀x∈(aZ z s k).aK,In E x)/\(aZ z s k).entries.length<=4/\(aZ z s k).bf<=1000/\(aZ z s k).aK.length<=4:=by
 have hm:=v8 hs k;unfold Sk.command at h;simp only at h;rw[sV z.n s hk]at h;obtain⟨h1,h2⟩:=fq h;rw[Bool.and_eq_true]at h1;obtain⟨a1,h4⟩:=h1;have h4:=Nat.le_of_ble_eq_true h4;injection h2 with h2;have im:∀x∈gR z s,In E x:=by
  unfold gR;split
  ·exact hs.waits
  ·exact hs.ay
 have bl:(gR z s).length<=4:=by
  unfold gR;split
  ·exact hs.fit.l4
  ·exact Nat.le_trans hs.fit.l2 (by decide)
 have J:min (ig E (s.rep k)).h (bV E z.n s).l.length=gQ s k:=by
  show min (s.rep k).bf (s.list.map (tok E)).length=_;rw[List.length_map];rfl
 have em:(bif Nat.beq z.me 0 then(bV E z.n s).wt else(bV E z.n s).pr)=(gR z s).map (tok E):=by
  unfold gR;by_cases h0:z.me=0
  ·rw[if_pos h0,h0];rfl
  ·rw[if_neg h0,show Nat.beq z.me 0=false by
    cases e:Nat.beq z.me 0 with
    | false=>rfl
    | true=>exact absurd (Nat.eq_of_beq_eq_true e) h0]
   rfl
 refine⟨⟨λv hv=>?_,h4⟩,?_,λx hx=>?_,λx hx=>?_,?_,?_,?_⟩
 ·have:=(List.all_eq_true.1 a1) (dO E v) (List.mem_map_of_mem hv);have I:=hm.a5 v hv;rw[gm hz.env hs.list I,gm hz.env hs.ay I,gm hz.env hs.waits I,Bool.or_assoc];exact this
 ·rw[<-h2,J,em];congr 1
  ·unfold aZ;simp only;rw[th (f:=λi x=>dI (bQ (s.list.take (gQ s k+i))) (bw z k) x) (λi x=>rfl)];unfold eU bV;simp only[List.map_take,List.map_drop]
  ·unfold aZ;simp only[List.map_take,List.map_map];rfl
 ·unfold aZ at hx;simp only at hx;obtain⟨i,hi,rfl⟩:=List.mem_mapIdx.1 hx;exact(hs.list _ (List.mem_of_mem_drop (List.mem_of_mem_take (List.getElem_mem hi)))).cut _ _
 ·unfold aZ at hx;simp only at hx;obtain⟨y,hy,rfl⟩:=List.mem_map.1 hx;exact(im y (List.mem_of_mem_take hy)).cut _ _
 ·unfold aZ eU;simp only[List.length_mapIdx,List.length_take];omega
 ·have:(aZ z s k).bf<=s.list.length:=Nat.min_le_right _ _;have:=hs.fit.l1;omega
 ·unfold aZ;simp only[List.length_map,List.length_take];omega
theorem lO(hz:lH E z p)(hs:Inv E z s){m:Sk.R}(h:Sk.report p z.me (bV E z.n s)=some m):(b0 s.aF).length+cz (bz z s)<=15/\ig E (bL z s)=m/\tp E (bL z s):=by
 obtain⟨h1,h2⟩:=fq h;have h1:=Nat.le_of_ble_eq_true h1;injection h2 with h2;obtain⟨ea,M⟩:=lA hz hs;obtain⟨aB,i0⟩:=j9 hs;rw[<-gZ hz,<-nt,<-aB,List.length_map]at h1;refine⟨h1,?_,M,λv hv=>?_,?_,?_⟩
 ·rw[<-h2];unfold ig bL;simp only;rw[ea];congr 1
  ·unfold bV;simp only[List.length_map]
  ·unfold dM;rw[List.map_map];refine gO (E:=E) _ λy hy=>?_;rw[<-gZ hz,lh hz.env (kv hs) (hs.ay y hy).id];rfl
 ·unfold bL dM at hv;simp only at hv;obtain⟨x,hx,rfl⟩:=List.mem_map.1 hv;exact(hs.ay x (List.mem_filter.1 hx).1).id
 ·unfold bL dM;simp only[List.length_map];have:=List.length_filter_le (λx=>b9 (bz z s) x.id) s.ay;have:=hs.fit.l2;omega
 ·have:=gN s.list (b0 s.aF) (bz z s);unfold bL dF;simp only;omega
structure nc (z:aM) (s:aC) (m:bc):Prop where
 l1:m.entries.length<=16
 l2:m.bf<=1000
 g1:∀x∈m.entries,ch z x
 g2:∀x∈m.aK,ch z x
 c1:gX z s m.bf m.entries
 l3:(cn s m.bf m.entries).ay.length+m.aK.length<=5
 c2:hp z (cn s m.bf m.entries) (dP (cn s m.bf m.entries).list (cn s m.bf m.entries).ay m.aK)
theorem ki(hz:lH E z p):∀ (l:List ae) (s:aC) (h:Nat),Inv E z s->(∀x∈l,In E x)->∀ {b:Sk.B},Sk.cn (l.map (tok E)) h (bV E z.n s)=some b->gX z s h l/\Inv E z (cn s h l)/\bV E z.n (cn s h l)=b
 | [],s,h,hs,_,b,a7=>by
  injection a7 with a7;exact⟨trivial,hs,a7⟩
 | x::l,s,h,hs,hl,b,a7=>by
  obtain⟨b1,h1,h2⟩:=bind_some a7;have hx:=hl x (by simp);have aa:=λy hy=>hl y (List.mem_cons_of_mem x hy);rw[show(bV E z.n s).l.length=s.list.length from List.length_map _]at h1;by_cases he:h=s.list.length
  ·rw[show Nat.beq h s.list.length=true from by rw[he];exact Nat.beq_refl _]at h1;obtain⟨c1,i1,e1⟩:=pS hz hs hx h1;rw[<-e1]at h2;have:=ki hz l (s.bP x) (h+1) i1 aa h2;have I:cw s h x=s.bP x:=if_pos he;refine⟨⟨λ_=>c1,by rw[I];exact this.1⟩,?_⟩;show Inv E z (cn (cw s h x) (h+1) l)/\_;rw[I];refine⟨this.2.1,?_⟩;show bV E z.n (cn (cw s h x) (h+1) l)=b;rw[I];exact this.2.2
  ·rw[show Nat.beq h s.list.length=false by
    cases e:Nat.beq h s.list.length with
    | false=>rfl
    | true=>exact absurd (Nat.eq_of_beq_eq_true e) he]at h1
   injection h1 with h1;rw[<-h1]at h2;have:=ki hz l s (h+1) hs aa h2;have I:cw s h x=s:=if_neg he;refine⟨⟨λe=>absurd e he,by rw[I];exact this.1⟩,?_⟩;show Inv E z (cn (cw s h x) (h+1) l)/\_;rw[I];refine⟨this.2.1,?_⟩;show bV E z.n (cn (cw s h x) (h+1) l)=b;rw[I];exact this.2.2
theorem oQ(h:cG E z.g){acc:List ae}{x:ae}(hs:Inv E z s)(ha:∀y∈acc,In E y)(hx:In E x):
 (b6 s.list s.ay acc x).map (tok E)=Sk.b6 (bV E z.n s) (acc.map (tok E)) (tok E x)/\∀y∈b6 s.list s.ay acc x,In E y:=by
 unfold b6 Sk.b6;rw[gD h hs.list hx,gD h hs.ay hx,gD h ha hx,Bool.or_assoc];change _=(bif Sk.mem (tok E x) (s.list.map (tok E)) || (Sk.mem (tok E x) (s.ay.map (tok E)) || Sk.mem (tok E x) (acc.map (tok E)))then _ else _)/\_;cases Sk.mem (tok E x) (s.list.map (tok E)) || (Sk.mem (tok E x) (s.ay.map (tok E)) || Sk.mem (tok E x) (acc.map (tok E)))with
 | true=>exact⟨rfl,ha⟩
 | false=>exact⟨by simp,λy hy=>(List.mem_append.1 hy).elim (ha y) (λe=>by rw[List.mem_singleton.1 e];exact hx)⟩
theorem pk(h:cG E z.g)(hs:Inv E z s):∀ (l acc:List ae),(∀y∈acc,In E y)->(∀y∈l,In E y)->
 (l.foldl (b6 s.list s.ay) acc).map (tok E)=(l.map (tok E)).foldl (Sk.b6 (bV E z.n s)) (acc.map (tok E))/\∀y∈l.foldl (b6 s.list s.ay) acc,In E y
 | [],acc,ha,_=>⟨rfl,ha⟩
 | x::l,acc,ha,hx=>by
  obtain⟨e1,i1⟩:=oQ h hs ha (hx x (by simp));rw[List.foldl_cons,List.map_cons,List.foldl_cons,<-e1];exact pk h hs l _ i1 (λy hy=>hx y (by simp[hy]))
theorem nW(hz:lH E z p):∀ (l:List ae) (s:aC),Inv E z s->(∀x∈l,In E x)->∀ {b:Sk.B},Sk.uJ (l.map (tok E)) (bV E z.n s)=some b->hp z s l/\Inv E z (l.foldl aC.dd s)/\bV E z.n (l.foldl aC.dd s)=b
 | [],s,hs,_,b,a7=>by
  injection a7 with a7;exact⟨trivial,hs,a7⟩
 | x::l,s,hs,hl,b,a7=>by
  obtain⟨b1,h1,h2⟩:=bind_some a7;have hx:=hl x (by simp);obtain⟨hc,aY⟩:=fq h1;simp only[Bool.and_eq_true,Bool.not_eq_true']at hc;obtain⟨g1,g2,g3⟩:=hc;have g3:s.recs.length+1<=8:=Nat.le_of_ble_eq_true g3;have g2:s.ay=[]:=List.map_eq_nil_iff.1 (e2 g2);injection aY with aY;have cp:rZ z s x:=⟨(gm hz.env hs.list hx.id).trans g1,by rw[g2];rfl,Nat.le_trans (Nat.mul_le_mul_right _ g3) hz.room,g2⟩;have i1:Inv E z (s.dd x):=⟨hs.list,λy hy=>(List.mem_append.1 hy).elim (hs.ay y) (λe=>by rw[List.mem_singleton.1 e];exact hx),hs.aF,hs.waits,hs.bU,hs.fit.dd hz.ok cp (hz.env.ch rfl hx)⟩;have e1:bV E z.n (s.dd x)=b1:=by
   rw[<-aY];unfold bV aC.dd Sk.B.prom;simp
  rw[<-e1]at h2;obtain⟨c2,i2,a5⟩:=nW hz l _ i1 (λy hy=>hl y (by simp[hy])) h2;exact⟨⟨cp,c2⟩,i2,a5⟩
theorem xO(hz:lH E z p)(hs:Inv E z s){m:bc}(h1:∀x∈m.entries,In E x)(h2:∀x∈m.aK,In E x)(l1:m.entries.length<=16)(l2:m.bf<=1000){b:Sk.B}
 (h:Sk.B3 ⟨m.bf,m.entries.map (tok E),m.aK.map (tok E)⟩ (bV E z.n s)=some b):nc z s m/\Inv E z (iB m s)/\bV E z.n (iB m s)=b:=by
 obtain⟨b1,a1,h4⟩:=bind_some h;obtain⟨c1,i1,e1⟩:=ki hz _ _ _ hs h1 a1;rw[<-e1]at h4;obtain⟨bi,h6⟩:=fq h4;have bi:=Nat.le_of_ble_eq_true bi;obtain⟨a5,i2⟩:=pk hz.env i1 m.aK [] (by simp) h2;have J:(dP (cn s m.bf m.entries).list (cn s m.bf m.entries).ay m.aK).map (tok E)=(m.aK.map (tok E)).foldl (Sk.b6 (bV E z.n (cn s m.bf m.entries))) []:=a5;rw[<-J]at h6;obtain⟨c2,i3,e3⟩:=nW hz _ _ i1 i2 h6;refine⟨⟨l1,l2,λx hx=>hz.env.ch rfl (h1 x hx),λx hx=>hz.env.ch rfl (h2 x hx),c1,?_,c2⟩,i3,e3⟩;unfold bV at bi;simpa using bi
def eQ(z:aM)(s:aC)(k:Nat)(m:bc):aC:=if z.me=0 then hd z (s.told k m)else s.told k m
structure j8 (z:aM) (s:aC) (k:Nat) (m:bc):Prop where
 fit:Fit z (s.told k m)
 work:z.me=0->ih z (s.told k m)
theorem q9(hz:lH E z p)(hs:Inv E z s){k:Nat}{m:bc}(hm:tp E m){b:Sk.B}(h:Sk.handle p z.me (bV E z.n s) k (ig E m)=some b):j8 z s k m/\Inv E z (eQ z s k m)/\bV E z.n (eQ z s k m)=b:=by
 have hf:=hs.fit;have I:Fit z (s.told k m):=⟨hf.list,hf.ay,hf.aF,hf.waits,λj q hj=>by
  unfold aC.told at hj;simp only at hj;split at hj
  ·injection hj with hj;rw[<-hj];exact⟨λx hx=>hz.env.ch rfl (hm.asks x hx),hm.l1,hm.l2⟩
  ·exact hf.bU j q hj,hf.lX,hf.l1,hf.l2,hf.l3,hf.l4,hf.run,hf.enc⟩
 have it:Inv E z (s.told k m):=⟨hs.list,hs.ay,hs.aF,hs.waits,λj q hj=>by
  unfold aC.told at hj;simp only at hj;split at hj
  ·injection hj with hj;rw[<-hj];exact hm
  ·exact hs.bU j q hj,I⟩
 have J:bV E z.n (s.told k m)=(bV E z.n s).told k (ig E m):=by
  unfold bV aC.told Sk.B.told;simp only[Sk.B.mk.injEq,true_and,and_true];apply List.ext_getElem
  ·simp
  ·intro i g1 g2;rw[List.getElem_set];simp only[List.getElem_map,List.getElem_range];by_cases e:k=i
   ·subst e;simp
   ·rw[if_neg e,if_neg (λh=>e h.symm)]
 unfold Sk.handle at h;rw[Sk.tS,<-J]at h;unfold eQ;by_cases h0:z.me=0
 ·rw[show Nat.beq z.me 0=true by rw[h0];rfl]at h;obtain⟨c,i,e⟩:=pX hz it h;rw[if_pos h0];exact⟨⟨I,λ_=>c⟩,i,e⟩
 ·rw[show Nat.beq z.me 0=false by
   cases e:Nat.beq z.me 0 with
   | false=>rfl
   | true=>exact absurd (Nat.eq_of_beq_eq_true e) h0]at h
  injection h with h;rw[if_neg h0];exact⟨⟨I,λe=>absurd e h0⟩,it,h⟩
end
def aM.at_(zz:aM)(i:Nat):aM:={zz with me:=i}
def put(bs:Nat->aC)(i:Nat)(s:aC):Nat->aC:=λj=>if j=i then s else bs j
def cN(zz:aM)(bs:Nat->aC)(i:Nat):aC:=if i=0 then hd (zz.at_ 0) (bs 0)else bs i
def dE(zz:aM)(s:aC)(i:Nat)(bs:Nat->aC)(to:Nat):Nat->aC:=
 if i≠0/\to=zz.p i then put bs to (eQ (zz.at_ to) (bs to) i (bL (zz.at_ i) s))
 else if 1<=to/\zz.p to=i then put bs to (iB (aZ (zz.at_ i) s to) (bs to))
 else bs
def g4(zz:aM)(bs:Nat->aC)(i:Nat):Nat->aC:=(List.range zz.n).foldl (dE zz (cN zz bs i) i) (put bs i (cN zz bs i))
def fJ(zz:aM)(l:List Nat)(bs:Nat->aC):Nat->aC:=l.foldl (g4 zz) bs
def eX(zz:aM)(bs:Nat->aC):Nat->aC:=fJ zz (Sk.turns zz.n) bs
structure kT (zz:aM) (s:aC) (i:Nat) (bs:Nat->aC) (to:Nat):Prop where
 rep:i≠0/\to=zz.p i->j8 (zz.at_ to) (bs to) i (bL (zz.at_ i) s)
 cmd:1<=to/\zz.p to=i->nc (zz.at_ to) (bs to) (aZ (zz.at_ i) s to)
def jF(zz:aM)(s:aC)(i:Nat):List Nat->(Nat->aC)->Prop
 | [],_=>True
 | to::l,bs=>kT zz s i bs to/\jF zz s i l (dE zz s i bs to)
structure ij (zz:aM) (bs:Nat->aC) (i:Nat):Prop where
 work:i=0->ih (zz.at_ 0) (bs 0)
 fit:Fit (zz.at_ i) (cN zz bs i)
 rep:i≠0->(b0 (cN zz bs i).aF).length+cz (bz (zz.at_ i) (cN zz bs i))<=15/\(∀x∈dF (zz.at_ i) (cN zz bs i),x.aH)
 cmd:∀k∈cg (zz.at_ i),fv (zz.at_ i) (cN zz bs i) k
 sends:jF zz (cN zz bs i) i (List.range zz.n) (put bs i (cN zz bs i))
def fz(zz:aM):List Nat->(Nat->aC)->Prop
 | [],_=>True
 | i::l,bs=>(∀k,k<zz.n->Fit (zz.at_ k) (bs k))/\ij zz bs i/\fz zz l (g4 zz bs i)
def dK(E:Nat->ae)(zz:aM)(bs:Nat->aC):List Sk.B:=(List.range zz.n).map λi=>bV E zz.n (bs i)
structure mG (E:Nat->ae) (zz:aM) (p:List Nat):Prop where
 z:∀i,i<zz.n->lH E (zz.at_ i) p
 up:∀i,1<=i->i<zz.n->zz.p i<i
def ec(E:Nat->ae)(zz:aM)(bs:Nat->aC):Prop:=∀i,i<zz.n->Inv E (zz.at_ i) (bs i)
section
variable {E:Nat->ae}{zz:aM}{p:List Nat}{bs:Nat->aC}{s:aC}
theorem jI(bs:Nat->aC){i:Nat}(hi:i<zz.n):(dK E zz bs).getD i Sk.sQ=bV E zz.n (bs i):=by
 unfold dK;rw[List.getD_eq_getElem?_getD,List.getElem?_map,List.getElem?_range hi];rfl
theorem jB(bs:Nat->aC)(i:Nat)(s:aC):dK E zz (put bs i s)=(dK E zz bs).set i (bV E zz.n s):=by
 unfold dK put;apply List.ext_getElem
 ·simp
 ·intro j g1 g2;rw[List.getElem_set];simp only[List.getElem_map,List.getElem_range];by_cases e:i=j
  ·subst e;simp
  ·rw[if_neg e,if_neg (λh=>e h.symm)]
theorem ec.put(h:ec E zz bs){i:Nat}(hs:Inv E (zz.at_ i) s):ec E zz (Go.Proofs.YtgblliofomgggaaGreat.put bs i s):=λj hj=>by
 unfold Go.Proofs.YtgblliofomgggaaGreat.put;by_cases e:j=i
 ·subst e;rw[if_pos rfl];exact hs
 ·rw[if_neg e];exact h j hj
theorem nI(a b:Nat):Nat.beq a b=decide (a=b):=by rw[Bool.eq_iff_iff,Nat.beq_eq,decide_eq_true_iff]
theorem xZ(aP:mG E zz p){i:Nat}(hi:i<zz.n)(hs:Inv E (zz.at_ i) s)(a7:ec E zz bs){to:Nat}(ht:to<zz.n){g:List Sk.B}(h:Sk.send p i (bV E zz.n s) (dK E zz bs) to=some g):
 kT zz s i bs to/\(1<=to/\zz.p to=i->fv (zz.at_ i) s to)/\ec E zz (dE zz s i bs to)/\dK E zz (dE zz s i bs to)=g:=by
 have hz:=aP.z i hi;unfold Sk.send at h;have e1:(!Nat.beq i 0&&Nat.beq to (p.getD i 0))=decide (i≠0/\to=zz.p i):=by
  by_cases h0:i=0
  ·subst h0;simp[nI]
  ·have:=hz.par i (by omega) hi;rw[this,nI,nI];show _=decide (i≠0/\to=zz.p i);simp[h0];rfl
 have a5:(Nat.ble 1 to&&Nat.beq (p.getD to 0) i)=decide (1<=to/\zz.p to=i):=by
  by_cases h0:1<=to
  ·have:=hz.par to h0 ht;rw[this,nI,Nat.ble_eq_true_of_le h0];show _=decide (1<=to/\zz.p to=i);simp[h0];rfl
  ·have:Nat.ble 1 to=false:=by
    cases e:Nat.ble 1 to with
    | false=>rfl
    | true=>exact absurd (Nat.le_of_ble_eq_true e) h0
   rw[this];simp[h0]
 rw[e1,a5,jI bs ht]at h;by_cases c1:i≠0/\to=zz.p i
 ·rw[decide_eq_true c1]at h;have aO:¬ (1<=to/\zz.p to=i):=by
   rintro⟨h1,h2⟩;have a:=aP.up i (by omega) hi;have b:=aP.up to h1 ht;omega
  obtain⟨m,h1,h2⟩:=bind_some h;rw[Sk.zK]at h2;obtain⟨b,a1,h4⟩:=bind_some h2;rw[Sk.v9]at h4;injection h4 with h4;obtain⟨c,em,im⟩:=lO hz hs h1;rw[<-em]at a1;obtain⟨c2,i2,a5⟩:=q9 (aP.z to ht) (a7 to ht) im a1;have es:dE zz s i bs to=put bs to (eQ (zz.at_ to) (bs to) i (bL (zz.at_ i) s)):=if_pos c1;refine⟨⟨λ_=>c2,λh=>absurd h aO⟩,λh=>absurd h aO,?_,?_⟩
  ·rw[es];exact a7.put i2
  ·rw[es,jB,<-h4,<-a5];rfl
 ·rw[decide_eq_false c1]at h;by_cases c2:1<=to/\zz.p to=i
  ·rw[decide_eq_true c2]at h;obtain⟨m,h1,h2⟩:=bind_some h;rw[Sk.Cn]at h2;obtain⟨b,a1,h4⟩:=bind_some h2;rw[Sk.v9]at h4;injection h4 with h4;obtain⟨bi,em,i1,i2,l1,l2,_⟩:=qc hz hs ht h1;rw[em]at a1;obtain⟨co,i3,e3⟩:=xO (aP.z to ht) (a7 to ht) i1 i2 (by omega) l2 a1;have es:dE zz s i bs to=put bs to (iB (aZ (zz.at_ i) s to) (bs to)):=(if_neg c1).trans (if_pos c2);refine⟨⟨λh=>absurd h c1,λ_=>co⟩,λ_=>bi,?_,?_⟩
   ·rw[es];exact a7.put i3
   ·rw[es,jB,<-h4,<-e3];rfl
  ·rw[decide_eq_false c2]at h;injection h with h;have es:dE zz s i bs to=bs:=(if_neg c1).trans (if_neg c2);exact⟨⟨λh=>absurd h c1,λh=>absurd h c2⟩,λh=>absurd h c2,by rw[es];exact a7,by rw[es];exact h⟩
theorem oz(aP:mG E zz p){i:Nat}(hi:i<zz.n)(hs:Inv E (zz.at_ i) s):∀ (l:List Nat) (bs:Nat->aC),ec E zz bs->(∀to∈l,to<zz.n)->∀ {g:List Sk.B},Sk.sends p i (bV E zz.n s) l (dK E zz bs)=some g->
 jF zz s i l bs/\(∀to∈l,1<=to/\zz.p to=i->fv (zz.at_ i) s to)/\ec E zz (l.foldl (dE zz s i) bs)/\dK E zz (l.foldl (dE zz s i) bs)=g
 | [],bs,a7,_,g,h=>by
  injection h with h;exact⟨trivial,by simp,a7,h⟩
 | to::l,bs,a7,hl,g,h=>by
  obtain⟨g1,h1,h2⟩:=bind_some h;obtain⟨c1,k1,i1,e1⟩:=xZ aP hi hs a7 (hl to (by simp)) h1;rw[<-e1]at h2;obtain⟨c2,k2,i2,a5⟩:=oz aP hi hs l _ i1 (λt ht=>hl t (by simp[ht])) h2;refine⟨⟨c1,c2⟩,λt ht hh=>?_,i2,a5⟩;rcases List.mem_cons.1 ht with rfl | ht
  ·exact k1 hh
  ·exact k2 t ht hh
theorem nE(aP:mG E zz p){i:Nat}(hi:i<zz.n)(h0:i≠0)(hs:Inv E (zz.at_ i) s):∀ (l:List Nat) (g0:List Sk.B),zz.p i∈l->∀ {g:List Sk.B},Sk.sends p i (bV E zz.n s) l g0=some g->(b0 s.aF).length+cz (bz (zz.at_ i) s)<=15
 | [],_,hm,_,_=>by cases hm
 | to::l,g0,hm,g,h=>by
  obtain⟨g1,h1,h2⟩:=bind_some h;by_cases e:zz.p i=to
  ·have hz:=aP.z i hi;unfold Sk.send at h1;rw[nI,nI,show p.getD i 0=zz.p i from hz.par i (by omega) hi,decide_eq_false h0,decide_eq_true e.symm]at h1;obtain⟨m,a1,_⟩:=bind_some h1;exact(lO hz hs a1).1
  ·exact nE aP hi h0 hs l g1 ((List.mem_cons.1 hm).resolve_left e) h2
theorem xQ(aP:mG E zz p){i:Nat}(hi:i<zz.n)(a7:ec E zz bs){g:List Sk.B}(h:Sk.tick p (dK E zz bs) i=some g):ij zz bs i/\ec E zz (g4 zz bs i)/\dK E zz (g4 zz bs i)=g:=by
 have hz:=aP.z i hi;obtain⟨b,h1,h2⟩:=bind_some h;rw[Sk.tS,Sk.ur]at h2;rw[jI bs hi]at h1;have I:(i=0->ih (zz.at_ 0) (bs 0))/\Inv E (zz.at_ i) (cN zz bs i)/\bV E zz.n (cN zz bs i)=b:=by
  unfold cN;by_cases h0:i=0
  ·subst h0;obtain⟨c,i1,e1⟩:=pX hz (a7 0 hi) h1;rw[if_pos rfl];exact⟨λ_=>c,i1,e1⟩
  ·unfold Sk.self at h1;rw[nI,decide_eq_false h0]at h1;injection h1 with h1;rw[if_neg h0];exact⟨λe=>absurd e h0,a7 i hi,h1⟩
 obtain⟨J,i1,e1⟩:=I;rw[<-e1,hz.len,<-jB]at h2;obtain⟨c2,k2,i2,a5⟩:=oz aP hi i1 _ _ (a7.put i1) (λt ht=>List.mem_range.1 ht) h2;refine⟨⟨J,i1.fit,λh0=>⟨?_,λx hx=>(hz.env.ch rfl ((lA hz i1).2 x hx)).aH⟩,λk hk=>?_,c2⟩,i2,a5⟩
 ·exact nE aP hi h0 i1 _ _ (List.mem_range.2 (Nat.lt_trans (aP.up i (by omega) hi) hi)) h2
 ·have:=Tr.e0.1 hk;exact k2 k (List.mem_range.2 this.1) this.2
theorem nH(aP:mG E zz p):∀ (l:List Nat) (bs:Nat->aC),ec E zz bs->(∀i∈l,i<zz.n)->∀ {g:List Sk.B},Sk.uI p l (dK E zz bs)=some g->fz zz l bs/\ec E zz (fJ zz l bs)/\dK E zz (fJ zz l bs)=g
 | [],bs,a7,_,g,h=>by
  injection h with h;exact⟨trivial,a7,h⟩
 | i::l,bs,a7,hl,g,h=>by
  obtain⟨g1,h1,h2⟩:=bind_some h;obtain⟨c1,i1,e1⟩:=xQ aP (hl i (by simp)) a7 h1;rw[<-e1]at h2;obtain⟨c2,i2,a5⟩:=nH aP l _ i1 (λt ht=>hl t (by simp[ht])) h2;exact⟨⟨λk hk=>(a7 k hk).fit,c1,c2⟩,i2,a5⟩
theorem xJ{n:Nat}:∀i∈Sk.turns n,i<n:=λi hi=>by
 unfold Sk.turns at hi;rcases List.mem_append.1 hi with h | h
 ·exact List.mem_range.1 (List.mem_reverse.1 h)
 ·exact List.mem_range.1 h
theorem iU(aP:mG E zz p)(aL:0<zz.n)(a7:ec E zz bs){g:List Sk.B}(h:Sk.round p (dK E zz bs)=some g):fz zz (Sk.turns zz.n) bs/\ec E zz (eX zz bs)/\dK E zz (eX zz bs)=g:=by
 unfold Sk.round at h;rw[(aP.z 0 aL).len]at h;exact nH aP _ _ a7 xJ h
end
end
end Go.Proofs.YtgblliofomgggaaGreat
