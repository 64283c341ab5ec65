import Derived.Test.YtgblliofomgggaaGreatM01
import Derived.Test.YtgblliofomgggaaGreatM05
import Derived.Test.YtgblliofomgggaaGreatM10
namespace Go.Proofs.YtgblliofomgggaaGreat
set_option maxRecDepth 100000
set_option maxHeartbeats 4000000
open Go.RowKit a7 bA
open Go.IntKind renaming i64 -> af,u64 -> ak
open Go.Value renaming int -> I,slice -> Y,pointer -> aL,agg -> aE
theorem iw(S:Nat->Prop)(x:ae)(A:Option Addr)(c:Nat)(w:World)(h:SliceAt aN w S A x.events)(bk:x.events.length<=100)(aB:∀e∈x.events,e.length<=1000/\∀a∈e,a.fits):
 Calls Tryz.prog 103 #[aE (x.cellsOf A c).toArray] w λe w'=>∃A' c',e=.returned (aE (x.cellsOf A' c').toArray)/\aD aN 39 w' w (λb=>b<w.heap.size) (Y A' x.events.length c') x.events/\Below w w w':=by
 obtain⟨kind,id,ah,sub,aX⟩:=x;unfold ae.cellsOf;simp only at h bk aB ⊢;obtain⟨m,hm⟩:=am aX.length;rw[<-hm]at bk ⊢;have HM:=Lib.hid hm;have HE:=Lib.hid aB;obtain⟨w0,ar⟩:=am ((w.alloc (.cells (eV kind id ah sub A m c) 132)).alloc (.cells cZ 132));have ha:=(Below.refl w w).alloc (Nat.le_refl _) (.cells (eV kind id ah sub A m c) 132);have aU:Below w w w0:=by rw[ar];exact ha.alloc ha.size _
 have bD:ai w0 w 132 (eV kind id ah sub A m c):=by rw[ar];exact(ai.made w 132 _).alloc _
 have aI:ai w0 (w.heap.size+1) 132 cZ:=by
  rw[ar];have:=ai.made (w.alloc (.cells (eV kind id ah sub A m c) 132)) 132 cZ;simpa using this
 have HS:=Lib.hid (h.below aU);have bL:w0.heap.size=w.heap.size+2:=by rw[ar];simp
 have HZ:=Lib.hid bL;obtain⟨xb,a0⟩:=am w.heap.size;have bj:=Lib.hid a0;rw[<-a0]at bD aI;clear hm aB h ha a0 bL;go_enter Tryz.func103,Tryz.ntmps103;go_wp2_with fail;rw[<-ar,<-bj.out];clear ar;obtain⟨i0,z0,bM,bL,bB,bJ,bR⟩:=aS Tryz.jM;obtain⟨j0,y0,aK,ba,bh,bd,a6⟩:=aS Tryz.iE
 go_loopw [3,13] (λv_ i_ wr=>∃i:Nat,i_=I af i/\i<=m/\aD aN 39 wr w0 (λb=>b<w0.heap.size) v_ (aX.take i)/\Below w0 w0 wr) (λ_ i _=>m- (intOf i).toNat)
 case atStart=>exact⟨0,rfl,by omega,aD.nil _ _ _ _ _,.refl _ _⟩
 case round=>
  obtain⟨i,rfl,hi,O,a7⟩:=hrel;by_cases bA:i<m
  ·have bu:i<aX.length:=(by have:=HM.out;omega);have bE:(i:Int)<(m:Int):=(by omega);have aY:=HE.out _ (List.getElem_mem bu);have a4:Hid (aX.take (i+1)=aX.take i++[aX[i]]):=List.take_succ_eq_append_getElem bu;have aW:(aX.take i).length=i:=(by rw[List.length_take];omega);obtain⟨b,off,u,rfl,bV,b8,bx,hcell,A2,c8,hu,h2⟩:=(HS.out.below a7).at_ bu (by decide);rw[hu]at hcell;have d8:wr.cell? ⟨b,off+i,none⟩=some (Y A2 aX[i].length c8):=(by simpa[aN]using hcell 0 _ rfl);obtain⟨ev,aB⟩:=am (aX[i]);rw[<-aB]at a4 d8 h2 aY;have a3:=ic h2;have a1:=gE ev;have fK:=eC ev;have aH:=aY.2;have bT:=aY.1;obtain⟨A3,n3,c3,rfl,a2,bY⟩:=O.form;have e3:n3=i:=(by rw[a2.out,aW]);subst e3;clear hcell bx hu aB h2 aY;go_wp2_with (first
    | (at_builtin;refine ca _ rfl (.const aa) (.tmp 18) 39 rfl wr 4 60 i0 z0 48 Tryz.underlying39 bM bL bJ bR bB (by omega) aa 0 [] rfl (World.ownsRow_nil _ _ _ _) A2 ev.length c8 _ rfl a1 a3 fK (by unfold maxLen;omega) (by omega) (Nat.le_refl _) ?_;intro A5 c5 w5 ay g5 bP
       rw[Nat.zero_add,List.nil_append]at ay;simp only[Nat.zero_add];have bS:Below wr wr w5:=(Below.refl _ wr).grown g5 (Nat.le_refl _) (λk hk=>by cases hk);have O1:=O.below bS;have bC:=(Below.refl w5 w5).alloc (Nat.le_refl _) (.cells #[Y A5 ev.length c5] 39);have bI:aN.R (w5.alloc (.cells #[Y A5 ev.length c5] 39)) (bm (λb=>b<w0.heap.size) (Y A3 n3 c3)) [Y A5 ev.length c5] ev:=
        ⟨A5,c5,rfl,dS (aT ay bC) (λb aG=>by
         rcases aG with aG | aG
         ·have:=a7.size;omega
         ·exact(O.lt aG).2) aH⟩
       clear ay bP g5)
    | (at_builtin;refine a9 _ rfl (.tmp 17) (.tmp 20) 23 rfl aN w0 39 j0 y0 24 Tryz.underlying23 aK ba bd a6 bh (by decide) (λb=>b<w0.heap.size) (Y A3 n3 c3) (aX.take n3) rfl (O1.below bC) (aj w5) 1 [Y A5 ev.length c5] ev rfl (Src.made w5 _ _) bI (by rw[aW];unfold maxLen;omega) (by rw[aW];omega) (by simp;have:=a7.size;have:=bS.size;omega) ?_;intro A6 bX w6 O6 cz gr aZ))
   rw[aW,<-a4.out]at O6;have aQ:∀k,(Value.slice A3 n3 c3).ownBlock=some k->w0.heap.size<=k:=λk hk=>(O.lt hk).1
   go_round
   case rel=>exact⟨n3+1,by go_num,by omega,O6,((a7.trans (bS.mono a7.size)).trans (bC.mono (Nat.le_trans a7.size bS.size))).grown gr (by simp;have:=a7.size;have:=bS.size;omega) aQ⟩
   case measure=>simp[intOf];omega
  ·obtain rfl:i=m:=(by omega);rw[HM.out,List.take_length]at O;obtain⟨A3,n3,c3,rfl,a2,bY⟩:=O.form;obtain rfl:n3=i:=(by rw[a2.out,<-HM.out]);have M:=bD.below a7 bD.lt;have aw:=aI.below a7 aI.lt;obtain⟨x0,x1,x2,x3,x4,x5,x6,x7⟩:=M.c8;have aL:=M.free 7;have r0:=aw.cell 0;have cj:=aw.free 0;have r1:=aw.cell 1;have cf:=aw.free 1;have bf:=aw.cell 2;have cd:=aw.free 2;have r3:=aw.cell 3;have bW:=aw.free 3;have r4:=aw.cell 4;have cb:=aw.free 4;have r5:=aw.cell 5;have ce:=aw.free 5;have r6:=aw.cell 6;have b6:=aw.free 6;have r7:=aw.cell 7;have b4:=aw.free 7;simp at x0 r0 x1 r1 x2 bf x3 r3 x4 r4 x5 r5 x6 r6 x7 r7;go_wp2_with fail;obtain⟨w2,a8⟩:=am (wr.setCell ⟨xb,7,none⟩ (Y A3 n3 c3));have ad:ai w2 (xb+1) 132 cZ:=(by rw[a8];exact aw.dA (by simp) _);have g2:wr.grownBy w2 (some xb):=(by rw[a8];exact aR _ _ _ _);rw[<-a8];have RZ:=((((((((ad.put 0 (ag kind)).put 1 (ag id.au)).put 2 (av id.aq)).put 3 (av id.ax)).put 4 (ag ah)).put 5 (av sub)).put 6 (aa)).put 7 (Y A3 n3 c3));simp only[List.setIfInBounds_toArray,List.set_cons_zero,List.set_cons_succ]at RZ;have gz:=bl (xb+1) [(I af kind),(I af id.au),(I ak id.aq),(I ak id.ax),(I af ah),(I ak sub),(aa),(Y A3 n3 c3)] w2 0;refine bodyPost_ret (results_cell_row rfl _ _ (xb+1) 132 _ (0,0) _ rfl RZ Tryz.underlying132 rfl (by kernel_rfl)) rfl ?_;have bb:xb<w0.heap.size:=bD.lt;have J:xb+1<w0.heap.size:=aI.lt;have bc:=bj.out;have gl:Goes (λb=>b<w0.heap.size) wr (λb=>b<w0.heap.size) _:=(aJ g2 bb).trans (aJ gz J);refine⟨A3,c3,rfl,?_,((aU.trans (a7.mono aU.size)).grown g2 (Nat.le_trans aU.size a7.size) (λk e=>by injection e with e;omega)).grown gz (Nat.le_trans (Nat.le_trans aU.size a7.size) g2.size) (λk e=>by injection e with e;omega)⟩;exact((O.goes gl (λb a7 e=>by have:=(O.lt a7).1;have a5:b<w0.heap.size:=e;omega)).mono aU.size).weak (λb hs=>Nat.lt_of_lt_of_le hs aU.size)
def ae.more(x:ae)(e:List aO):ae:=⟨x.kind,x.id,x.ah,x.sub,x.events++[e]⟩
theorem ae.kk{x:ae}{e:List aO}(h:x.aH)(hk:x.kind=1)(hl:x.events.length<8)(he:gM e=true)(hf:∀a∈e,a.fits):(x.more e).aH:=by
 refine⟨h.kind,h.id,h.ah,h.sub,h.yw,?_,λaq=>absurd hk aq,λy hy=>?_⟩
 ·show(x.events++[e]).length<=8;rw[List.length_append];simp;omega
 ·rcases List.mem_append.1 hy with hy | hy
  ·exact h.ev y hy
  ·rw[List.mem_singleton]at hy;subst hy;exact⟨he,hf⟩
theorem qL(S S3:Nat->Prop)(A A3:Option Addr)(n c i n3 c3:Nat)(l:List ct)(id:PId)(ev:List aO)(w:World)(aL:n=l.length)(hm:n<=100)(h:SliceAt bg w S A l)(hg:∀x∈l,x.entry.aH)(hi:i<l.length)(hs:dj l id=(i:Int))(ha:l[i].asked=false)
 (a2:n3=ev.length) (he:SliceAt cy w S3 A3 ev) (aB:gM ev=false):
 Calls Tryz.prog 58 #[Y A n c,id.val,Y A3 n3 c3] w λe w'=>∃v,e=.returned (.tuple #[v,ag 40])/\Below w w w':=by
 have bn:=Lib.hid aB;clear aB;unfold PId.val;obtain⟨w0,ar⟩:=am (w.alloc (.cells (bY id) 32));have hC:ai w0 w 32 (bY id):=by rw[ar];exact ai.made _ _ _
 have aU:=aV ar;obtain⟨cb,M⟩:=am w.heap.size;rw[<-M]at hC;have aF:=Lib.hid M;clear M;have cp:=eG S A n c l w0 aL (by omega) (h.below aU) hg;have az:i<n:=by omega
 have bG:(i:Int)<(n:Int):=by omega
 have bM:(0:Int)<=(i:Int):=by omega
 have g:decide ((0:Int)<=(i:Int))=true:=decide_eq_true bM;have HH:=kz aL (h.below aU) hs ha a2 (he.below aU) (hg _ (List.getElem_mem hi));clear h hg hs ha aL a2 he;go_enter Tryz.func58,Tryz.ntmps58;go_wp2_with fail;go_step3;go_wp2_with fail;rw[<-ar,<-aF.out];clear ar;refine cp.mono ?_;clear cp;rintro e w1 ⟨v1,rfl,O1,b1⟩;have op:=hQ S A n c i l id w1 HH.out.1 (by omega) (HH.out.2.1.below b1) hi HH.out.2.2.1 HH.out.2.2.2.1;unfold PId.val at op;have ao:=hC.below b1 hC.lt;obtain⟨x0,x1,x2⟩:=ao.c3;simp at x0 x1 x2;obtain⟨A1,n1,c1,rfl,bv,bU⟩:=O1.form;obtain rfl:n1=n:=by rw[bv.out,HH.out.1]
 go_wp2_with fail;refine op.mono ?_;clear op;rintro e w2 ⟨rfl,b2⟩;have O2:=O1.below b2;have bo:Below w w w2:=aU.trans ((b1.trans (b2.mono b1.size)).mono aU.size);have bw:=(HH.out.2.2.2.2.2.1.below b1).below b2;have ck:=gi S3 A3 n3 c3 ev w2 HH.out.2.2.2.2.1 bw;rw[bn.out]at ck;clear x0 x1 x2;go_wp2_with fail;go_step3;go_wp2_with fail;refine ck.mono ?_;clear ck;rintro e w3 ⟨rfl,b3⟩;go_wp2;rw[Exit.noGoto_ret];go_ret2;exact⟨_,rfl,bo.trans (b3.mono bo.size)⟩
theorem vu{P:Prop}(h:P:=by
 refine(O7.put (g:=mb) (.inr rfl) (λe=>?_) 7 _).slice (λb h=>.inl h) (λb h=>h);rcases aZ with h | h
 ·have h1:=(O4.lt (h.symm.trans e)).2;have:=aw.out;omega
 ·rw[h]at e;injection e with e;simp at e;have h1:=aE.lt;have:=b6.size;omega
 ):P:=h
theorem vS{P:Prop}(h:P:=by
 go_simp;refine ad.out _ _ (trivial) (λJ=>?_);clear ad K;refine aP 5 (λK ad=>?_);clear J;refine dW _ rfl (.tmp 35) (.tmp 38) 23 rfl aN w3 39 j0 cn 24 Tryz.underlying23 aK ba bd a6 bh (by decide) (λb=>b<w3.heap.size\/b=mb) (Y A4 m c4) x.entry.events (by rfl) (O6.below bC) (aj w6) 1 [Y A5 n3 c5] ev (by rfl) (Src.made w6 _ _) bI (by rw[<-HM.out];unfold maxLen;omega) (by rw[<-HM.out];omega) (by simp;have:=aC.size;have:=b6.size;omega) ?_
 rw[<-HM.out];intro A6 bX w7 O7 cz gr aZ;have bE:=bc.grown gr (λe=>by have h1:=(O4.lt e.symm).2;have:=aw.out;omega);have k7:=bE.cell 7;have kf:=bE.free 7;simp at k7;refine ad.out _ _ (trivial) (λJ=>?_);clear ad K;refine tk 6 J ?_;refine aP 7 (λK ad=>?_);clear J;go_simp;refine ad.out _ _ (trivial) (λJ=>?_);clear ad K;refine cB ?_ _;obtain⟨w8,aM⟩:=am (w7.setCell ⟨mb,7,none⟩ (Y A6 (m+1) bX));have bT:ai w8 mb 132 (iY x.entry A6 (m+1) bX):=by rw[aM];simpa using bE.put 7 (Y A6 (m+1) bX)
 have cr:w7.grownBy w8 (some mb):=by rw[aM];exact aR _ _ _ _
 rw[<-aM];have cA:w3.heap.size<=mb:=by rw[aw.out];exact bK.size
 have bZ:Below w3 w3 w8:=(((aC.trans (b6.mono aC.size)).trans (bC.mono (Nat.le_trans aC.size b6.size))).grown gr (by simp;have:=aC.size;have:=b6.size;omega) (λk hk=>(O4.lt hk).1)).grown cr (Nat.le_trans (by simp;have:=aC.size;have:=b6.size;omega) gr.size) (λk hk=>by injection hk with hk;omega);have bf:SliceAt aN w8 (λb=>b<w3.heap.size) A6 (x.entry.more ev).events:=by
  rw[aM];exact vu
 clear aM;have cq:(x.entry.more ev).aH:=ae.kk HX.out.2 bj.out.1 bj.out.2.1 bn.out (SliceAt.fits HE.out.2.2.2);have a0:=m9 _ (x.entry.more ev) A6 bX w8 cq bf;rw[bj.out.2.2]at a0;have bl:(x.entry.more ev).events.length=m+1:=by
  show(x.entry.events++[ev]).length=m+1;rw[List.length_append,<-HM.out];rfl
 unfold ae.cellsOf at a0;rw[bl]at a0;simp only[ae.more]at a0;have dq:=Lib.hid bl;clear bl;obtain⟨ch,cd,ca,cf,cj,cc,ce,cl⟩:=bT.c8;simp at ch cd ca cf cj cc ce cl;go_wp2_with fail;refine a0.mono ?_;clear a0;rintro e w9 ⟨rfl,b9⟩;have cg:Below w3 w3 w9:=bZ.trans (b9.mono bZ.size);go_wp2;rw[Exit.noGoto_ret];go_ret2;exact⟨_,rfl,br.trans (cg.mono br.size)⟩
 ):P:=h
theorem q2(S S3:Nat->Prop)(A A3:Option Addr)(n c i n3 c3:Nat)(l:List ct)(id:PId)(ev:List aO)(w:World)(aL:n=l.length)(hm:n<=100)(h:SliceAt bg w S A l)(hg:∀x∈l,x.entry.aH)(hi:i<l.length)(hs:dj l id=(i:Int))(ha:l[i].asked=false)
 (a2:n3=ev.length) (he:SliceAt cy w S3 A3 ev) (aB:gM ev=true) (bp:l[i].entry.kind=1) (a5:l[i].entry.events.length<8) (bA:dZ (l[i].entry.more ev)=true):
 Calls Tryz.prog 58 #[Y A n c,id.val,Y A3 n3 c3] w λe w'=>∃v,e=.returned (.tuple #[v,ag 172])/\Below w w w':=by
 obtain⟨i0,z0,bt,bL,bB,bJ,bR⟩:=aS Tryz.jM;obtain⟨j0,cn,aK,ba,bh,bd,a6⟩:=aS Tryz.iE;have bn:=Lib.hid aB;have b4:=fw aB;clear aB;unfold PId.val;obtain⟨w0,ar⟩:=am (w.alloc (.cells (bY id) 32));have hC:ai w0 w 32 (bY id):=by rw[ar];exact ai.made _ _ _
 have aU:=aV ar;obtain⟨cb,M⟩:=am w.heap.size;rw[<-M]at hC;have aF:=Lib.hid M;clear M;have cp:=eG S A n c l w0 aL (by omega) (h.below aU) hg;have az:i<n:=by omega
 have bG:(i:Int)<(n:Int):=by omega
 have bM:(0:Int)<=(i:Int):=by omega
 have g:decide ((0:Int)<=(i:Int))=true:=decide_eq_true bM;have HH:=kz aL (h.below aU) hs ha a2 (he.below aU) (hg _ (List.getElem_mem hi));clear h hg hs ha aL a2 he;have HB:=fm bp a5 bA;clear bp a5 bA;go_enter Tryz.func58,Tryz.ntmps58;go_wp2_with fail;go_step3;go_wp2_with fail;rw[<-ar,<-aF.out];clear ar;refine cp.mono ?_;clear cp;rintro e w1 ⟨v1,rfl,O1,b1⟩;have op:=hQ S A n c i l id w1 HH.out.1 (by omega) (HH.out.2.1.below b1) hi HH.out.2.2.1 HH.out.2.2.2.1;unfold PId.val at op;have ao:=hC.below b1 hC.lt;obtain⟨x0,x1,x2⟩:=ao.c3;simp at x0 x1 x2;obtain⟨A1,n1,c1,rfl,bv,bU⟩:=O1.form;obtain rfl:n1=n:=by rw[bv.out,HH.out.1]
 go_wp2_with fail;refine op.mono ?_;clear op;rintro e w2 ⟨rfl,b2⟩;have O2:=O1.below b2;have bo:Below w w w2:=aU.trans ((b1.trans (b2.mono b1.size)).mono aU.size);have bw:=(HH.out.2.2.2.2.2.1.below b1).below b2;have ck:=gi S3 A3 n3 c3 ev w2 HH.out.2.2.2.2.1 bw;rw[bn.out]at ck;clear x0 x1 x2;go_wp2_with fail;go_step3;go_wp2_with fail;refine ck.mono ?_;clear ck;rintro e w3 ⟨rfl,b3⟩;simp only[if_true];have br:=bo.trans (b3.mono bo.size);have bO:=(((HH.out.2.1.below b1).below b2).below b3);have bu:=hi;obtain⟨b,off,u,rfl,bV,b8,bx,hcell,A2,c8,hu,h2⟩:=(bO).at_ bu (by decide);rw[hu]at hcell;have d0:w3.cell? ⟨b,off+i*9,none⟩=some (I af l[i].entry.kind):=hcell 0 _ rfl;have d1:w3.cell? ⟨b,off+i*9+1,none⟩=some (I af l[i].entry.id.au):=hcell 1 _ rfl;have d2:w3.cell? ⟨b,off+i*9+2,none⟩=some (I ak l[i].entry.id.aq):=hcell 2 _ rfl;have d3:w3.cell? ⟨b,off+i*9+3,none⟩=some (I ak l[i].entry.id.ax):=hcell 3 _ rfl;have d4:w3.cell? ⟨b,off+i*9+4,none⟩=some (I af l[i].entry.ah):=hcell 4 _ rfl;have d5:w3.cell? ⟨b,off+i*9+5,none⟩=some (I ak l[i].entry.sub):=hcell 5 _ rfl;have d6:w3.cell? ⟨b,off+i*9+6,none⟩=some (aa):=hcell 6 _ rfl;have d7:w3.cell? ⟨b,off+i*9+7,none⟩=some (Y A2 l[i].entry.events.length c8):=hcell 7 _ rfl;have d8:w3.cell? ⟨b,off+i*9+8,none⟩=some (.bool l[i].asked):=hcell 8 _ rfl;obtain⟨x,hx⟩:=am (l[i]);rw[<-hx]at d0 d1 d2 d3 d4 d5 d7 d8 h2;have aX:x.entry.aH:=by rw[hx];exact HH.out.2.2.2.2.2.2
 have bj:Hid (x.entry.kind=1/\x.entry.events.length<8/\dZ (x.entry.more ev)=true):=by rw[hx];exact HB.out
 have HX:=di hx aX;have wh:=iw S x.entry A2 c8 w3 h2 aX.lays.1 aX.lays.2
 unfold ae.cellsOf at wh;obtain⟨m,a9⟩:=am x.entry.events.length
 have bk:m<8:=by rw[a9];exact bj.out.2.1
 rw[<-a9]at d7 wh;have HM:=Lib.hid a9;have O3:=O2.below b3;have b5:=bw.below b3;clear hcell bx hu hx aX a9 h2 bO;go_wp2_with fail;refine wh.mono ?_;clear wh;rintro e w4 ⟨A4,c4,rfl,O4,bK⟩;obtain⟨w5,a8⟩:=am (w4.alloc (.cells (iY x.entry A4 m c4) 132));have bS:=aV a8;obtain⟨mb,b7⟩:=am w4.heap.size;have aE:ai w5 mb 132 (iY x.entry A4 m c4):=by rw[a8,b7];exact ai.made _ _ _
 have aw:=Lib.hid b7;have cP:decide ((8:Int)<=(m:Int))=false:=decide_eq_false (by omega);have O5:aD aN 39 w5 w3 (λb=>b<w3.heap.size\/b=mb) (Y A4 m c4) x.entry.events:=(O4.wide (λb a7 e=>e.elim (λh=>h) (λe=>by omega))).below bS
 have aC:Below w3 w3 w5:=bK.trans (bS.mono bK.size);have bD:=b5.below aC;have a3:=ic bD;have a1:=gE ev;have fK:=eC ev;have a2:=HH.out.2.2.2.2.1;rw[<-a2]at a1;have cv:n3<=16:=by omega
 have HE:=dx a3 a1 fK bD;have m7:=aE.cell 7;simp at m7;clear b7 a3 a1 fK bD a2 b4;go_wp2_with fail;rw[<-a8,<-aw.out];clear a8;refine wp_region_held_drew (S:=λ_=>True) (by kernel_rfl) trivial (λJ=>?_);refine tk 0 J ?_;refine tk 2 J ?_;refine wpAnyH_ready (rs:=[1,3]) (by kernel_rfl) (by simp) (AllReadyH.cons (by simp only[List.getElem?_toArray,List.getElem?_cons_succ,List.getElem?_cons_zero];rfl) (λK ad=>?_) (AllReadyH.cons (by simp only[List.getElem?_toArray,List.getElem?_cons_succ,List.getElem?_cons_zero];rfl) (λK ad=>?_) AllReadyH.nil))
 ·clear J;go_simp;refine ad.out _ _ (trivial) (λJ=>?_);clear ad K;refine aP 3 (λK ad=>?_);clear J;refine ej _ rfl (.const aa) (.tmp 36) 39 rfl w5.drew.heap.size 4 60 i0 z0 48 Tryz.underlying39 bt bL bJ bR bB (by omega) aa 0 [] (by rfl) (World.ownsRow_nil _ _ _ _) A3 n3 c3 _ (by rfl) HE.out.2.1 (HE.out.1) HE.out.2.2.1 (by unfold maxLen;omega) (by omega) (Nat.le_refl _) ?_;intro A5 c5 w6 ay g5 bP;rw[Nat.zero_add,List.nil_append]at ay
  try simp only[Nat.zero_add]
  have b6:Below w5 w5 w6:=⟨g5.os,g5.tape,g5.output,g5.size,λb a7=>g5.block b a7 (λe=>by cases e)⟩;have aQ:=aE.below b6 aE.lt;have O6:=O5.below b6;have bC:=(Below.refl w6 w6).alloc (Nat.le_refl _) (.cells #[Y A5 n3 c5] 39);have bc:=aQ.below bC aQ.lt;have bI:aN.R (w6.alloc (.cells #[Y A5 n3 c5] 39)) (bm (λb=>b<w3.heap.size\/b=mb) (Y A4 m c4)) [Y A5 n3 c5] ev:=
   ⟨A5,c5,by rw[HH.out.2.2.2.2.1],dS (aT ay bC) (λb aG=>by
    show b<w5.heap.size;rcases aG with(aG | aG) | aG
    ·have:=aC.size;omega
    ·rw[aG];exact aE.lt
    ·exact(O5.lt aG).2) (SliceAt.fits HE.out.2.2.2)⟩
  have bz:=aQ.cell 7;simp at bz;have a4:=bc.cell 7;simp at a4;clear ay bP g5
  try dsimp only
  refine ad.out _ _ (trivial) (λJ=>?_);clear ad K;refine aP 4 (λK ad=>?_);clear J;exact vS
 ·clear J;refine ej _ rfl (.const aa) (.tmp 36) 39 rfl w5.drew.heap.size 4 60 i0 z0 48 Tryz.underlying39 bt bL bJ bR bB (by omega) aa 0 [] (by rfl) (World.ownsRow_nil _ _ _ _) A3 n3 c3 _ (by rfl) HE.out.2.1 (HE.out.1) HE.out.2.2.1 (by unfold maxLen;omega) (by omega) (Nat.le_refl _) ?_;intro A5 c5 w6 ay g5 bP;rw[Nat.zero_add,List.nil_append]at ay
  try simp only[Nat.zero_add]
  have b6:Below w5 w5 w6:=⟨g5.os,g5.tape,g5.output,g5.size,λb a7=>g5.block b a7 (λe=>by cases e)⟩;have aQ:=aE.below b6 aE.lt;have O6:=O5.below b6;have bC:=(Below.refl w6 w6).alloc (Nat.le_refl _) (.cells #[Y A5 n3 c5] 39);have bc:=aQ.below bC aQ.lt;have bI:aN.R (w6.alloc (.cells #[Y A5 n3 c5] 39)) (bm (λb=>b<w3.heap.size\/b=mb) (Y A4 m c4)) [Y A5 n3 c5] ev:=
   ⟨A5,c5,by rw[HH.out.2.2.2.2.1],dS (aT ay bC) (λb aG=>by
    show b<w5.heap.size;rcases aG with(aG | aG) | aG
    ·have:=aC.size;omega
    ·rw[aG];exact aE.lt
    ·exact(O5.lt aG).2) (SliceAt.fits HE.out.2.2.2)⟩
  have bz:=aQ.cell 7;simp at bz;have a4:=bc.cell 7;simp at a4;clear ay bP g5
  try dsimp only
  refine ad.out _ _ (trivial) (λJ=>?_);clear ad K;refine wpAnyH_ready (rs:=[1,4]) (by kernel_rfl) (by simp) (AllReadyH.cons (by simp only[List.getElem?_toArray,List.getElem?_cons_succ,List.getElem?_cons_zero];rfl) (λK ad=>?_) (AllReadyH.cons (by simp only[List.getElem?_toArray,List.getElem?_cons_succ,List.getElem?_cons_zero];rfl) (λK ad=>?_) AllReadyH.nil))
  focus
   clear J;go_simp;refine ad.out _ _ (trivial) (λJ=>?_);clear ad K;refine aP 4 (λK ad=>?_)
  rotate_left
  focus
   clear J;go_simp;refine ad.out _ _ (trivial) (λJ=>?_);clear ad K;refine aP 1 (λK ad=>?_)
  all_goals
   clear J;exact vS
theorem wm{P:Prop}(h:P:=by
 go_simp;refine ad.out _ _ (trivial) (λJ=>?_);clear ad K;refine aP 5 (λK ad=>?_);clear J;refine dW _ rfl (.tmp 35) (.tmp 38) 23 rfl aN w3 39 j0 cn 24 Tryz.underlying23 aK ba bd a6 bh (by decide) (λb=>b<w3.heap.size\/b=mb) (Y A4 m c4) x.entry.events (by rfl) (O6.below bC) (aj w6) 1 [Y A5 n3 c5] ev (by rfl) (Src.made w6 _ _) bI (by rw[<-HM.out];unfold maxLen;omega) (by rw[<-HM.out];omega) (by simp;have:=aC.size;have:=b6.size;omega) ?_
 rw[<-HM.out];intro A6 bX w7 O7 cz gr aZ;have bE:=bc.grown gr (λe=>by have h1:=(O4.lt e.symm).2;have:=aw.out;omega);have k7:=bE.cell 7;have kf:=bE.free 7;simp at k7;refine ad.out _ _ (trivial) (λJ=>?_);clear ad K;refine tk 6 J ?_;refine aP 7 (λK ad=>?_);clear J;go_simp;refine ad.out _ _ (trivial) (λJ=>?_);clear ad K;refine cB ?_ _;obtain⟨w8,aM⟩:=am (w7.setCell ⟨mb,7,none⟩ (Y A6 (m+1) bX));have bT:ai w8 mb 132 (iY x.entry A6 (m+1) bX):=by rw[aM];simpa using bE.put 7 (Y A6 (m+1) bX)
 have cr:w7.grownBy w8 (some mb):=by rw[aM];exact aR _ _ _ _
 rw[<-aM];have cA:w3.heap.size<=mb:=by rw[aw.out];exact bK.size
 have bZ:Below w3 w3 w8:=(((aC.trans (b6.mono aC.size)).trans (bC.mono (Nat.le_trans aC.size b6.size))).grown gr (by simp;have:=aC.size;have:=b6.size;omega) (λk hk=>(O4.lt hk).1)).grown cr (Nat.le_trans (by simp;have:=aC.size;have:=b6.size;omega) gr.size) (λk hk=>by injection hk with hk;omega);have bf:SliceAt aN w8 (λb=>b<w3.heap.size) A6 (x.entry.more ev).events:=by
  rw[aM];exact vu
 clear aM;have cq:(x.entry.more ev).aH:=ae.kk HX.out.2 bj.out.1 bj.out.2.1 bn.out (SliceAt.fits HE.out.2.2.2);have a0:=m9 _ (x.entry.more ev) A6 bX w8 cq bf;rw[bj.out.2.2]at a0;have bl:(x.entry.more ev).events.length=m+1:=by
  show(x.entry.events++[ev]).length=m+1;rw[List.length_append,<-HM.out];rfl
 unfold ae.cellsOf at a0;rw[bl]at a0;simp only[ae.more]at a0;have dq:=Lib.hid bl;clear bl;obtain⟨ch,cd,ca,cf,cj,cc,ce,cl⟩:=bT.c8;simp at ch cd ca cf cj cc ce cl;go_wp2_with fail;refine a0.mono ?_;clear a0;rintro e w9 ⟨rfl,b9⟩;have cg:Below w3 w3 w9:=bZ.trans (b9.mono bZ.size);have O9:=O3.below cg;obtain⟨gb,cur,aY,aW,aA,hcs,cu⟩:=O9.block (by omega);subst aY;clear cu;have bq:cur.size=c1*9:=hcs;have cw:=bT.below b9 bT.lt;have hj:∀j,j<9->i*9+j<cur.size:=λj hj=>by omega
 have yv:∀j,j<9->∃v,w9.cell? ⟨gb,i*9+j,none⟩=some v:=λj bF=>⟨_,by rw[aW.cell,Array.getElem?_eq_getElem (hj j bF)]⟩;obtain⟨z0,q0⟩:=yv 0 (by omega);have cC:=aW.free (i*9+0);obtain⟨z1,q1⟩:=yv 1 (by omega);have cK:=aW.free (i*9+1);obtain⟨z2,q2⟩:=yv 2 (by omega);have cL:=aW.free (i*9+2);obtain⟨z3,q3⟩:=yv 3 (by omega);have cG:=aW.free (i*9+3);obtain⟨z4,q4⟩:=yv 4 (by omega);have cJ:=aW.free (i*9+4);obtain⟨z5,q5⟩:=yv 5 (by omega);have cH:=aW.free (i*9+5);obtain⟨z6,q6⟩:=yv 6 (by omega);have cF:=aW.free (i*9+6);obtain⟨z7,q7⟩:=yv 7 (by omega);have cM:=aW.free (i*9+7)
 try simp only[Nat.add_zero]at q0 cC
 obtain⟨s0,s1,s2,s3,s4,s5,s6,s7⟩:=cw.c8;simp at s0 s1 s2 s3 s4 s5 s6 s7;have HS:=fm hcs bq hj;have cI:gb≠mb:=λe=>by
  have h1:=(O3.lt (g:=gb) rfl).2;omega
 clear hcs bq hj yv ch cd ca cf cj cc ce cl;go_wp2_with fail;rw[Exit.noGoto_ret];obtain⟨bs,bi⟩:=am (w9.setCells gb (i*9) (iY x.entry A6 (m+1) bX));have b0:((((((((w9.setCell ⟨gb,i*9,none⟩ (ag x.entry.kind)).setCell ⟨gb,i*9+1,none⟩ (ag x.entry.id.au)).setCell ⟨gb,i*9+2,none⟩ (av x.entry.id.aq)).setCell ⟨gb,i*9+3,none⟩ (av x.entry.id.ax)).setCell ⟨gb,i*9+4,none⟩ (ag x.entry.ah)).setCell ⟨gb,i*9+5,none⟩ (av x.entry.sub)).setCell ⟨gb,i*9+6,none⟩ (aa)).setCell ⟨gb,i*9+7,none⟩ (Y A6 (m+1) bX))=bs:=by rw[bi];rfl
 rw[b0];have cx:ai bs gb 148 (over cur (i*9) (iY x.entry A6 (m+1) bX)):=by rw[bi];exact ai.over (w:=w9) _ _ aW
 have bQ:w9.grownBy bs (some gb):=by rw[bi];exact eD _ _ _ _
 have cm:gb<w3.heap.size:=(O3.lt (g:=gb) rfl).2;clear bi b0;go_ret2;have e9:bg.k=9:=rfl;obtain⟨u,hu,A9,c9,bb,bN⟩:=O9.cur aW hi;have bH:cur[i*9+8]? =some (.bool false):=by
  have h1:=hu 8 (by decide);rw[e9,bb]at h1;rw[h1,<-HH.out.2.2.2.1];rfl
 have cZ:([I af x.entry.kind,I af x.entry.id.au,I ak x.entry.id.aq,I ak x.entry.id.ax,I af x.entry.ah,I ak x.entry.sub,aa,Y A6 (m+1) bX]:List Value).length=8:=rfl;have aI:bg.R bs (bm (λb=>b<w0.heap.size) (Y (aj gb) n1 c1)) ([I af x.entry.kind,I af x.entry.id.au,I ak x.entry.id.aq,I ak x.entry.id.ax,I af x.entry.ah,I ak x.entry.sub,aa,Y A6 (m+1) bX]++[.bool false]) ⟨l[i].entry.more ev,false⟩:=by
  rw[<-HX.out.1];refine⟨A6,bX,?_,(((bf.below b9).goes (aJ bQ cm)).weak (λb a7=>?_))⟩
  ·simp only[ct.cellsOf,ae.cellsOf,List.cons_append,List.nil_append];rw[dq.out];rfl
  ·rcases a7 with a7 | a7
   ·have:=b1.size;have:=b2.size;have:=b3.size;show b<w3.heap.size;omega
   ·have aG:some gb=some b:=a7;injection aG with aG;rw[<-aG];exact cm
 have cE:=HS.out.2.1;have cD:=O9.set (by decide) aW cx hi ([I af x.entry.kind,I af x.entry.id.au,I ak x.entry.id.aq,I ak x.entry.id.ax,I af x.entry.ah,I ak x.entry.sub,aa,Y A6 (m+1) bX]++[.bool false]) ⟨l[i].entry.more ev,false⟩ (fr _ _ _) (λj hj=>by
  rw[e9]at hj;rw[e9,gw _ _ _ _ (by rw[cZ];have:=HS.out.2.2 8 (by omega);omega)];by_cases h8:j=8
  ·subst h8;rw[if_neg (by rw[cZ];omega),bH];rfl
  ·rw[if_pos (by rw[cZ];omega),List.getElem?_append_left (by rw[cZ];omega),Nat.add_sub_cancel_left]) (λq hq=>by
  rw[e9]at hq;rw[gw _ _ _ _ (by rw[cZ];have:=HS.out.2.2 8 (by omega);omega),if_neg (by rw[cZ];omega)]) aI bQ
 refine⟨_,rfl,(cD.mono aU.size).weak (λb a7=>Nat.lt_of_lt_of_le a7 aU.size),?_⟩;have bW:=br.trans (cg.mono br.size);exact bW.grown bQ bW.size (λk hk=>by injection hk with hk;have:=(O3.lt (g:=gb) rfl).1;have:=aU.size;omega)
 ):P:=h
theorem rN(S S3:Nat->Prop)(A A3:Option Addr)(n c i n3 c3:Nat)(l:List ct)(id:PId)(ev:List aO)(w:World)(aL:n=l.length)(hm:n<=100)(h:SliceAt bg w S A l)(hg:∀x∈l,x.entry.aH)(hi:i<l.length)(hs:dj l id=(i:Int))(ha:l[i].asked=false)
 (a2:n3=ev.length) (he:SliceAt cy w S3 A3 ev) (aB:gM ev=true) (bp:l[i].entry.kind=1) (a5:l[i].entry.events.length<8) (bA:dZ (l[i].entry.more ev)=false):
 Calls Tryz.prog 58 #[Y A n c,id.val,Y A3 n3 c3] w λe w'=>∃v,e=.returned (.tuple #[v,ag 0])/\aD bg 148 w' w (λb=>b<w.heap.size) v (l.set i ⟨l[i].entry.more ev,false⟩)/\Below w w w':=by
 obtain⟨i0,z0,bt,bL,bB,bJ,bR⟩:=aS Tryz.jM;obtain⟨j0,cn,aK,ba,bh,bd,a6⟩:=aS Tryz.iE;have bn:=Lib.hid aB;have b4:=fw aB;clear aB;unfold PId.val;obtain⟨w0,ar⟩:=am (w.alloc (.cells (bY id) 32));have hC:ai w0 w 32 (bY id):=by rw[ar];exact ai.made _ _ _
 have aU:=aV ar;obtain⟨cb,M⟩:=am w.heap.size;rw[<-M]at hC;have aF:=Lib.hid M;clear M;have cp:=eG S A n c l w0 aL (by omega) (h.below aU) hg;have az:i<n:=by omega
 have bG:(i:Int)<(n:Int):=by omega
 have bM:(0:Int)<=(i:Int):=by omega
 have g:decide ((0:Int)<=(i:Int))=true:=decide_eq_true bM;have HH:=kz aL (h.below aU) hs ha a2 (he.below aU) (hg _ (List.getElem_mem hi));clear h hg hs ha aL a2 he;have HB:=fm bp a5 bA;clear bp a5 bA;go_enter Tryz.func58,Tryz.ntmps58;go_wp2_with fail;go_step3;go_wp2_with fail;rw[<-ar,<-aF.out];clear ar;refine cp.mono ?_;clear cp;rintro e w1 ⟨v1,rfl,O1,b1⟩;have op:=hQ S A n c i l id w1 HH.out.1 (by omega) (HH.out.2.1.below b1) hi HH.out.2.2.1 HH.out.2.2.2.1;unfold PId.val at op;have ao:=hC.below b1 hC.lt;obtain⟨x0,x1,x2⟩:=ao.c3;simp at x0 x1 x2;obtain⟨A1,n1,c1,rfl,bv,bU⟩:=O1.form;obtain rfl:n1=n:=by rw[bv.out,HH.out.1]
 go_wp2_with fail;refine op.mono ?_;clear op;rintro e w2 ⟨rfl,b2⟩;have O2:=O1.below b2;have bo:Below w w w2:=aU.trans ((b1.trans (b2.mono b1.size)).mono aU.size);have bw:=(HH.out.2.2.2.2.2.1.below b1).below b2;have ck:=gi S3 A3 n3 c3 ev w2 HH.out.2.2.2.2.1 bw;rw[bn.out]at ck;clear x0 x1 x2;go_wp2_with fail;go_step3;go_wp2_with fail;refine ck.mono ?_;clear ck;rintro e w3 ⟨rfl,b3⟩;simp only[if_true];have br:=bo.trans (b3.mono bo.size);have bO:=(((HH.out.2.1.below b1).below b2).below b3);have bu:=hi;obtain⟨b,off,u,rfl,bV,b8,bx,hcell,A2,c8,hu,h2⟩:=(bO).at_ bu (by decide);rw[hu]at hcell;have d0:w3.cell? ⟨b,off+i*9,none⟩=some (I af l[i].entry.kind):=hcell 0 _ rfl;have d1:w3.cell? ⟨b,off+i*9+1,none⟩=some (I af l[i].entry.id.au):=hcell 1 _ rfl;have d2:w3.cell? ⟨b,off+i*9+2,none⟩=some (I ak l[i].entry.id.aq):=hcell 2 _ rfl;have d3:w3.cell? ⟨b,off+i*9+3,none⟩=some (I ak l[i].entry.id.ax):=hcell 3 _ rfl;have d4:w3.cell? ⟨b,off+i*9+4,none⟩=some (I af l[i].entry.ah):=hcell 4 _ rfl;have d5:w3.cell? ⟨b,off+i*9+5,none⟩=some (I ak l[i].entry.sub):=hcell 5 _ rfl;have d6:w3.cell? ⟨b,off+i*9+6,none⟩=some (aa):=hcell 6 _ rfl;have d7:w3.cell? ⟨b,off+i*9+7,none⟩=some (Y A2 l[i].entry.events.length c8):=hcell 7 _ rfl;have d8:w3.cell? ⟨b,off+i*9+8,none⟩=some (.bool l[i].asked):=hcell 8 _ rfl;obtain⟨x,hx⟩:=am (l[i]);rw[<-hx]at d0 d1 d2 d3 d4 d5 d7 d8 h2;have aX:x.entry.aH:=by rw[hx];exact HH.out.2.2.2.2.2.2
 have bj:Hid (x.entry.kind=1/\x.entry.events.length<8/\dZ (x.entry.more ev)=false):=by rw[hx];exact HB.out
 have HX:=di hx aX;have wh:=iw S x.entry A2 c8 w3 h2 aX.lays.1 aX.lays.2
 unfold ae.cellsOf at wh;obtain⟨m,a9⟩:=am x.entry.events.length
 have bk:m<8:=by rw[a9];exact bj.out.2.1
 rw[<-a9]at d7 wh;have HM:=Lib.hid a9;have O3:=O2.below b3;have b5:=bw.below b3;clear hcell bx hu hx aX a9 h2 bO;go_wp2_with fail;refine wh.mono ?_;clear wh;rintro e w4 ⟨A4,c4,rfl,O4,bK⟩;obtain⟨w5,a8⟩:=am (w4.alloc (.cells (iY x.entry A4 m c4) 132));have bS:=aV a8;obtain⟨mb,b7⟩:=am w4.heap.size;have aE:ai w5 mb 132 (iY x.entry A4 m c4):=by rw[a8,b7];exact ai.made _ _ _
 have aw:=Lib.hid b7;have cP:decide ((8:Int)<=(m:Int))=false:=decide_eq_false (by omega);have O5:aD aN 39 w5 w3 (λb=>b<w3.heap.size\/b=mb) (Y A4 m c4) x.entry.events:=(O4.wide (λb a7 e=>e.elim (λh=>h) (λe=>by omega))).below bS
 have aC:Below w3 w3 w5:=bK.trans (bS.mono bK.size);have bD:=b5.below aC;have a3:=ic bD;have a1:=gE ev;have fK:=eC ev;have a2:=HH.out.2.2.2.2.1;rw[<-a2]at a1;have cv:n3<=16:=by omega
 have HE:=dx a3 a1 fK bD;have m7:=aE.cell 7;simp at m7;clear b7 a3 a1 fK bD a2 b4;go_wp2_with fail;rw[<-a8,<-aw.out];clear a8;refine wp_region_held_drew (S:=λ_=>True) (by kernel_rfl) trivial (λJ=>?_);refine tk 0 J ?_;refine tk 2 J ?_;refine wpAnyH_ready (rs:=[1,3]) (by kernel_rfl) (by simp) (AllReadyH.cons (by simp only[List.getElem?_toArray,List.getElem?_cons_succ,List.getElem?_cons_zero];rfl) (λK ad=>?_) (AllReadyH.cons (by simp only[List.getElem?_toArray,List.getElem?_cons_succ,List.getElem?_cons_zero];rfl) (λK ad=>?_) AllReadyH.nil))
 ·clear J;go_simp;refine ad.out _ _ (trivial) (λJ=>?_);clear ad K;refine aP 3 (λK ad=>?_);clear J;refine ej _ rfl (.const aa) (.tmp 36) 39 rfl w5.drew.heap.size 4 60 i0 z0 48 Tryz.underlying39 bt bL bJ bR bB (by omega) aa 0 [] (by rfl) (World.ownsRow_nil _ _ _ _) A3 n3 c3 _ (by rfl) HE.out.2.1 (HE.out.1) HE.out.2.2.1 (by unfold maxLen;omega) (by omega) (Nat.le_refl _) ?_;intro A5 c5 w6 ay g5 bP;rw[Nat.zero_add,List.nil_append]at ay
  try simp only[Nat.zero_add]
  have b6:Below w5 w5 w6:=⟨g5.os,g5.tape,g5.output,g5.size,λb a7=>g5.block b a7 (λe=>by cases e)⟩;have aQ:=aE.below b6 aE.lt;have O6:=O5.below b6;have bC:=(Below.refl w6 w6).alloc (Nat.le_refl _) (.cells #[Y A5 n3 c5] 39);have bc:=aQ.below bC aQ.lt;have bI:aN.R (w6.alloc (.cells #[Y A5 n3 c5] 39)) (bm (λb=>b<w3.heap.size\/b=mb) (Y A4 m c4)) [Y A5 n3 c5] ev:=
   ⟨A5,c5,by rw[HH.out.2.2.2.2.1],dS (aT ay bC) (λb aG=>by
    show b<w5.heap.size;rcases aG with(aG | aG) | aG
    ·have:=aC.size;omega
    ·rw[aG];exact aE.lt
    ·exact(O5.lt aG).2) (SliceAt.fits HE.out.2.2.2)⟩
  have bz:=aQ.cell 7;simp at bz;have a4:=bc.cell 7;simp at a4;clear ay bP g5
  try dsimp only
  refine ad.out _ _ (trivial) (λJ=>?_);clear ad K;refine aP 4 (λK ad=>?_);clear J;exact wm
 ·clear J;refine ej _ rfl (.const aa) (.tmp 36) 39 rfl w5.drew.heap.size 4 60 i0 z0 48 Tryz.underlying39 bt bL bJ bR bB (by omega) aa 0 [] (by rfl) (World.ownsRow_nil _ _ _ _) A3 n3 c3 _ (by rfl) HE.out.2.1 (HE.out.1) HE.out.2.2.1 (by unfold maxLen;omega) (by omega) (Nat.le_refl _) ?_;intro A5 c5 w6 ay g5 bP;rw[Nat.zero_add,List.nil_append]at ay
  try simp only[Nat.zero_add]
  have b6:Below w5 w5 w6:=⟨g5.os,g5.tape,g5.output,g5.size,λb a7=>g5.block b a7 (λe=>by cases e)⟩;have aQ:=aE.below b6 aE.lt;have O6:=O5.below b6;have bC:=(Below.refl w6 w6).alloc (Nat.le_refl _) (.cells #[Y A5 n3 c5] 39);have bc:=aQ.below bC aQ.lt;have bI:aN.R (w6.alloc (.cells #[Y A5 n3 c5] 39)) (bm (λb=>b<w3.heap.size\/b=mb) (Y A4 m c4)) [Y A5 n3 c5] ev:=
   ⟨A5,c5,by rw[HH.out.2.2.2.2.1],dS (aT ay bC) (λb aG=>by
    show b<w5.heap.size;rcases aG with(aG | aG) | aG
    ·have:=aC.size;omega
    ·rw[aG];exact aE.lt
    ·exact(O5.lt aG).2) (SliceAt.fits HE.out.2.2.2)⟩
  have bz:=aQ.cell 7;simp at bz;have a4:=bc.cell 7;simp at a4;clear ay bP g5
  try dsimp only
  refine ad.out _ _ (trivial) (λJ=>?_);clear ad K;refine wpAnyH_ready (rs:=[1,4]) (by kernel_rfl) (by simp) (AllReadyH.cons (by simp only[List.getElem?_toArray,List.getElem?_cons_succ,List.getElem?_cons_zero];rfl) (λK ad=>?_) (AllReadyH.cons (by simp only[List.getElem?_toArray,List.getElem?_cons_succ,List.getElem?_cons_zero];rfl) (λK ad=>?_) AllReadyH.nil))
  focus
   clear J;go_simp;refine ad.out _ _ (trivial) (λJ=>?_);clear ad K;refine aP 4 (λK ad=>?_)
  rotate_left
  focus
   clear J;go_simp;refine ad.out _ _ (trivial) (λJ=>?_);clear ad K;refine aP 1 (λK ad=>?_)
  all_goals
   clear J;exact wm
def b0(l:List ct):List ae:=((l.filter (·.asked)).map (·.entry)).take 4
theorem r5(l:List ct)(i:Nat)(h:i<l.length):b0 (l.take (i+1))=if l[i].asked=true/\(b0 (l.take i)).length<4 then b0 (l.take i)++[l[i].entry]else b0 (l.take i):=by
 unfold b0;rw[List.take_succ_eq_append_getElem h,List.filter_append,List.map_append];cases ha:l[i].asked with
 | false=>simp[ha]
 | true=>
  simp only[List.filter_cons,ha,if_true,List.filter_nil,List.map_cons,List.map_nil,true_and];rw[List.length_take];split
  ·rename_i hl;rw[List.take_append,List.take_of_length_le (by omega)];rw[show 4- (List.map (λx=>x.entry) (List.filter (λx=>x.asked) (List.take i l))).length=(4- (List.map (λx=>x.entry) (List.filter (λx=>x.asked) (List.take i l))).length-1)+1 by omega];simp
  ·rename_i hl;rw[List.take_append_of_le_length (by omega)]
theorem ym(l:List ct):(b0 l).length<=4:=by
 unfold b0;rw[List.length_take];omega
theorem rS{l:List ct}(h:∀x∈l,x.entry.aH):∀x∈b0 l,x.aH:=λx hx=>by
 unfold b0 at hx;have:=List.mem_of_mem_take hx;obtain⟨t,ht,rfl⟩:=List.mem_map.1 this;exact h t (List.mem_filter.1 ht).1
theorem rz{P:Prop}(h:P:=by
 clear hcell bx hu hx h2 aX a0 ho J wh;go_wp2_with fail
 try rw[<-aN]
 clear aN
 go_round
 case rel=>exact⟨i+1,by go_num,by omega,by rw[HE.out];exact O1,a6⟩
 case measure=>simp[intOf];omega
 ):P:=h
theorem sD(S:Nat->Prop)(A:Option Addr)(n c:Nat)(l:List ct)(w:World)(aL:n=l.length)(hm:n<=1000)(h:SliceAt bg w S A l)(hg:∀x∈l,x.entry.aH):
 Calls Tryz.prog 219 #[Y A n c] w λe w'=>∃v,e=.returned v/\aD aB 132 w' w (λb=>b<w.heap.size) v (b0 l)/\Below w w w':=by
 obtain⟨i0,z0,bM,bL,bB,bJ,bR⟩:=aS Tryz.dJ;obtain⟨fl,a1⟩:=am (b0 l);rw[<-a1];have cS:=Lib.hid a1;have HN:=Lib.hid aL;have HG:=Lib.hid hg;clear aL hg a1;go_enter Tryz.func219,Tryz.ntmps219;go_wp2_with fail
 go_loopw [3,8] (λv_ i_ wr=>∃i:Nat,i_=I af i/\i<=n/\aD aB 132 wr w (λb=>b<w.heap.size) v_ (b0 (l.take i))/\Below w w wr) (λ_ i _=>n- (intOf i).toNat)
 case atStart=>exact⟨0,rfl,by omega,aD.nil _ _ _ _ _,.refl _ _⟩
 case round=>
  obtain⟨i,rfl,hi,O,a7⟩:=hrel;by_cases bA:i<n
  ·have bu:i<l.length:=(by have:=HN.out;omega);have bE:(i:Int)<(n:Int):=(by omega);have aX:=HG.out _ (List.getElem_mem bu);have a4:=Lib.hid (r5 l i bu);obtain⟨b,off,u,rfl,bV,b8,bx,hcell,A2,c8,hu,h2⟩:=(h.below a7).at_ bu (by decide);rw[hu]at hcell;have d0:wr.cell? ⟨b,off+i*9,none⟩=some (I af l[i].entry.kind):=hcell 0 _ rfl;have d1:wr.cell? ⟨b,off+i*9+1,none⟩=some (I af l[i].entry.id.au):=hcell 1 _ rfl;have d2:wr.cell? ⟨b,off+i*9+2,none⟩=some (I ak l[i].entry.id.aq):=hcell 2 _ rfl;have d3:wr.cell? ⟨b,off+i*9+3,none⟩=some (I ak l[i].entry.id.ax):=hcell 3 _ rfl;have d4:wr.cell? ⟨b,off+i*9+4,none⟩=some (I af l[i].entry.ah):=hcell 4 _ rfl;have d5:wr.cell? ⟨b,off+i*9+5,none⟩=some (I ak l[i].entry.sub):=hcell 5 _ rfl;have d6:wr.cell? ⟨b,off+i*9+6,none⟩=some (aa):=hcell 6 _ rfl;have d7:wr.cell? ⟨b,off+i*9+7,none⟩=some (Y A2 l[i].entry.events.length c8):=hcell 7 _ rfl;have d8:wr.cell? ⟨b,off+i*9+8,none⟩=some (.bool l[i].asked):=hcell 8 _ rfl;obtain⟨x,hx⟩:=am (l[i]);rw[<-hx]at d0 d1 d2 d3 d4 d5 d7 d8 h2 aX a4;obtain⟨o,ho⟩:=am (b0 (l.take i));have ad:o.length<=4:=(by rw[ho];exact ym _);rw[<-ho]at O a4;obtain⟨A3,n3,c3,rfl,a2,bY⟩:=O.form;obtain⟨w1,aN⟩:=am (wr.alloc (.cells (gJ x.entry A2 x.entry.events.length c8 x.asked) 148));have b1:=aV aN;have bD:ai w1 wr 148 (gJ x.entry A2 x.entry.events.length c8 x.asked):=(by rw[aN];exact ai.made _ _ _);obtain⟨xb,a0⟩:=am wr.heap.size;rw[<-a0]at bD;have bj:=Lib.hid a0;obtain⟨x0,x1,x2,x3,x4,x5,x6,x7,x8⟩:=bD.c9;simp at x0 x1 x2 x3 x4 x5 x6 x7 x8;have wh:=iT S x.entry A2 c8 w1 (h2.below b1) aX.lays.1 aX.lays.2
   unfold ae.cellsOf at wh;have O1:=O.below b1;have a6:=a7.trans (b1.mono a7.size);have M:n3<=4:=(by rw[a2.out];exact ad);cases J:x.asked with
   | false=>
    have HE:Hid (b0 (l.take (i+1))=o):=by
     show _=_;rw[a4.out,if_neg (by rw[J];simp)]
    rw[J]at aN x8 d8;exact rz
   | true=>
    rw[J]at aN x8 d8;by_cases hf:n3<4
    ·have HE:Hid (b0 (l.take (i+1))=o++[x.entry]):=by
      show _=_;rw[a4.out,if_pos ⟨J,by rw[<-a2.out];exact hf⟩]
     have g4:decide ((n3:Int)<4)=true:=decide_eq_true (by omega);have bH:=Lib.hid a2.out;clear hcell bx hu hx h2 aX a0 ho J;go_wp2_with fail;rw[<-aN];clear aN;refine wh.mono ?_;clear wh;rintro e w2 ⟨A4,c4,rfl,h4,b2⟩;have O2:=O1.below b2;have bC:=(Below.refl w2 w2).alloc (Nat.le_refl _) (.cells (a3 x.entry A4 c4) 132);have bI:aB.R (w2.alloc (.cells (a3 x.entry A4 c4) 132)) (bm (λb=>b<w.heap.size) (Y A3 n3 c3)) (a3 x.entry A4 c4) x.entry:=
      ⟨A4,c4,rfl,(h4.below bC).weak (λb aG=>by
       rcases aG with aG | aG
       ·have:=a6.size;show b<w1.heap.size;omega
       ·exact(O1.lt aG).2)⟩
     go_wp2_with (at_builtin;refine a9 _ rfl (.tmp 19) (.tmp 23) 46 rfl aB w 132 i0 z0 96 Tryz.underlying46 bM bL bJ bR bB (by decide) (λb=>b<w.heap.size) (Y A3 n3 c3) o rfl (O2.below bC) (aj w2) 1 (a3 x.entry A4 c4) x.entry rfl (Src.made w2 _ _) bI (by rw[<-bH.out];unfold maxLen;omega) (by rw[<-bH.out];omega) (by simp;have:=a6.size;have:=b2.size;omega) ?_;rw[<-bH.out];intro A6 bX w6 O6 cz gr aZ);have aQ:∀k,(Value.slice A3 n3 c3).ownBlock=some k->w.heap.size<=k:=λk hk=>(O.lt hk).1
     go_round
     case rel=>exact⟨i+1,by go_num,by omega,by rw[HE.out];exact O6,((a6.trans (b2.mono a6.size)).trans (bC.mono (Nat.le_trans a6.size b2.size))).grown gr (by simp;have:=a6.size;have:=b2.size;omega) aQ⟩
     case measure=>simp[intOf];omega
    ·have HE:Hid (b0 (l.take (i+1))=o):=by
      show _=_;rw[a4.out,if_neg (by rw[<-a2.out];omega)]
     have g4:decide ((n3:Int)<4)=false:=decide_eq_false (by omega);have bH:=Lib.hid a2.out;exact rz
  ·obtain rfl:i=n:=(by omega);rw[HN.out,List.take_length,<-cS.out]at O;clear h;go_wp2;go_ret;exact⟨_,rfl,O,a7⟩
def PId.gj(x:PId)(y:Bool):List Value:=[I af x.au,I ak x.aq,I ak x.ax,.bool y]
def dm:dD PId:=⟨4,λ_ _ u x=>u=x.gj true,λh=>by
 subst h;rfl,λh v hv=>by
 subst h;simp only[PId.gj,List.mem_cons,List.not_mem_nil,or_false]at hv;rcases hv with rfl | rfl | rfl | rfl<;>rfl,λh _=>h⟩
structure bc where
 kind:Nat
 bf:Nat
 a5:List PId
 asks:List ae
 entries:List ae
 aK:List ae
def bc.zero:bc:=⟨0,0,[],[],[],[]⟩
structure fu where
 A1:Option Addr
 c1:Nat
 A2:Option Addr
 c2:Nat
 A3:Option Addr
 c3:Nat
 A4:Option Addr
 c4:Nat
def bc.cellsOf(m:bc)(a:fu):List Value:=[I af m.kind,I ak m.bf,Y a.A1 m.a5.length a.c1,Y a.A2 m.asks.length a.c2,Y a.A3 m.entries.length a.c3,Y a.A4 m.aK.length a.c4,aa,aa]
structure cI (w:World) (S:Nat->Prop) (m:bc) (a:fu):Prop where
 a5:SliceAt dm w S a.A1 m.a5
 asks:SliceAt aB w S a.A2 m.asks
 entries:SliceAt aB w S a.A3 m.entries
 aK:SliceAt aB w S a.A4 m.aK
theorem cI.goes{w w':World}{S S':Nat->Prop}{m:bc}{a:fu}(h:cI w S m a)(g:Goes S w S' w'):cI w' S' m a:=⟨h.a5.goes g,h.asks.goes g,h.entries.goes g,h.aK.goes g⟩
theorem cI.below{w w':World}{S:Nat->Prop}{m:bc}{a:fu}(h:cI w S m a)(a7:Below w w w'):cI w' S m a:=h.goes (.ao a7 S)
theorem cI.cJ{w:World}{S S':Nat->Prop}{m:bc}{a:fu}(h:cI w S m a)(hs:∀b,b<w.heap.size->S' b->S b):cI w S' m a:=h.goes ⟨rfl,rfl,rfl,Nat.le_refl _,λ_ _ _=>rfl,hs⟩
theorem cI.zero(w:World)(S:Nat->Prop):cI w S bc.zero ⟨none,0,none,0,none,0,none,0⟩:=⟨SliceAt.nil _ _ _ _,SliceAt.nil _ _ _ _,SliceAt.nil _ _ _ _,SliceAt.nil _ _ _ _⟩
def iO:dD bc:=⟨8,λw S u m=>∃a,u=m.cellsOf a/\cI w S m a,λh=>by
 obtain⟨a,rfl,_⟩:=h;rfl,λh v hv=>by
 obtain⟨a,rfl,_⟩:=h;simp only[bc.cellsOf,List.mem_cons,List.not_mem_nil,or_false]at hv;rcases hv with rfl | rfl | rfl | rfl | rfl | rfl | rfl | rfl<;>rfl,λh g=>by
 obtain⟨a,rfl,h⟩:=h;exact⟨a,rfl,h.goes g⟩⟩
theorem Ab(a b:PId)(y z:Bool)(w:World):(binOp .eql 285 (dv a y) (dv b z)).run Tryz.prog w=.ok (.bool (decide (a=b)&&(y==z))) w:=by
 go_simp;obtain⟨x1,x2,x3⟩:=a;obtain⟨M,J,I⟩:=b;simp only[PId.mk.injEq];by_cases h1:x1=M
 ·by_cases h2:x2=J
  ·by_cases a1:x3=I
   ·by_cases h4:y=z
    ·simp[h1,h2,a1,h4]
    ·simp[h1,h2,a1,h4]
   ·rw[if_pos (by omega),if_pos (by omega),if_neg (by omega)];simp[a1]
  ·rw[if_pos (by omega),if_neg (by omega)];simp[h2]
 ·rw[if_neg (by omega)];simp[h1]
def eR(l:List PId)(id:PId)(y:Bool):Bool:=l.any λx=>decide (id=x)&&(y==true)
theorem r3(S:Nat->Prop)(A:Option Addr)(n c:Nat)(l:List PId)(id:PId)(y:Bool)(w:World)(aL:n=l.length)(hm:n<=1000000)(h:SliceAt dm w S A l):
 Calls Tryz.prog 296 #[Y A n c,dv id y] w λe w'=>e=.returned (ag (idxOf (λx=>decide (id=x)&&(y==true)) l))/\Below w w w':=by
 obtain⟨w0,ar⟩:=am (w.alloc (.cells (dv id y) 285));have hC:ai w0 w 285 (dv id y):=by rw[ar];exact ai.made _ _ _
 have aU:=aV ar;obtain⟨cb,M⟩:=am w.heap.size;rw[<-M]at hC;have aF:=Lib.hid M;clear M;have HN:=Lib.hid aL;obtain⟨r,hr⟩:=am (idxOf (λx=>decide (id=x)&&(y==true)) l);rw[<-hr];have HR:=Lib.hid hr;have h0:=h.below aU;obtain⟨ba,c1,c2,c3⟩:=hC.c4;simp at ba c1 c2 c3;clear aL hr h;go_enter Tryz.func296,Tryz.ntmps296;go_wp2_with fail;rw[<-ar,<-aF.out];clear ar
 go_loopw [8] (λi_ wr=>∃i:Nat,i_=I af i/\i<=n/\Hid ((l.take i).any (λx=>decide (id=x)&&(y==true))=false)/\∃k,wr=w0.drewN k) (λi _=>n- (intOf i).toNat)
 case atStart=>exact⟨0,rfl,by omega,(rfl:_=_),0,rfl⟩
 case round=>
  obtain⟨i,rfl,hi,HA,k,rfl⟩:=hrel;by_cases bA:i<n
  ·have bu:i<l.length:=(by have:=HN.out;omega);have bE:(i:Int)<(n:Int):=(by omega);have J:=Lib.hid (ha (λx=>decide (id=x)&&(y==true)) l i bu);have ao:Hid ((decide (id=l[i])&&(y==true))=true->r=(i:Int)):=λe=>HR.out.trans (lJ (λx=>decide (id=x)&&(y==true)) l i bu HA.out e);obtain⟨b,off,u,rfl,bV,b8,bx,hcell,hu⟩:=h0.at_ bu (by decide);have aR:u=PId.gj l[i] true:=hu;rw[aR]at hcell;have d0:w0.cell? ⟨b,off+i*4,none⟩=some (I af l[i].au):=hcell 0 _ rfl;have d1:w0.cell? ⟨b,off+i*4+1,none⟩=some (I ak l[i].aq):=hcell 1 _ rfl;have d2:w0.cell? ⟨b,off+i*4+2,none⟩=some (I ak l[i].ax):=hcell 2 _ rfl;have d3:w0.cell? ⟨b,off+i*4+3,none⟩=some (.bool true):=hcell 3 _ rfl;obtain⟨x,hx⟩:=am (l[i]);rw[<-hx]at d0 d1 d2 ao;have aa:Hid ((l.take (i+1)).any (λx=>decide (id=x)&&(y==true))=((l.take i).any (λx=>decide (id=x)&&(y==true)) || (decide (id=x)&&(y==true)))):=(by rw[hx];exact J.out);have heq:=λw=>Ab id x y true w;clear hcell bx hu hx aR;cases a7:(decide (id=x)&&(y==true))with
   | true=>
    rw[a7]at heq;have HE:Hid (r=(i:Int)):=ao.out a7;clear a7;go_wp2
    go_quiet (fail)
    go_wp2;go_ret;exact⟨by rw[HE.out];rfl,dc (dc aU)⟩
   | false=>
    rw[a7]at heq;have HE:Hid ((l.take (i+1)).any (λx=>decide (id=x)&&(y==true))=false):=by
     show _=false;rw[aa.out,HA.out,a7];rfl
    clear a7;go_wp2
    go_quiet (fail)
    go_wp2
    go_round
    case rel=>exact⟨i+1,by go_num,by omega,HE,_,rfl⟩
    case measure=>simp[intOf];omega
  ·obtain rfl:i=n:=(by omega);have HE:Hid (r= -1):=by
    show r= -1;rw[HR.out,mu _ l (by have:=HA.out;rwa [HN.out,List.take_length]at this)]
   go_wp2;go_ret;exact⟨by rw[HE.out];rfl,dc aU⟩
theorem n3(S:Nat->Prop)(A:Option Addr)(n c:Nat)(l:List PId)(id:PId)(y:Bool)(w:World)(aL:n=l.length)(hm:n<=1000000)(h:SliceAt dm w S A l):
 Calls Tryz.prog 264 #[Y A n c,dv id y] w λe w'=>e=.returned (.bool (eR l id y))/\Below w w w':=by
 obtain⟨w0,ar⟩:=am (w.alloc (.cells (dv id y) 285));have hC:ai w0 w 285 (dv id y):=by rw[ar];exact ai.made _ _ _
 have aU:=aV ar;obtain⟨cb,M⟩:=am w.heap.size;rw[<-M]at hC;have aF:=Lib.hid M;clear M;have J:=r3 S A n c l id y w0 aL hm (h.below aU);obtain⟨ba,c1,c2,c3⟩:=hC.c4;simp at ba c1 c2 c3;clear h aL;unfold eR;rcases gW (λx=>decide (id=x)&&(y==true)) l with⟨h1,h2⟩ | ⟨i,hi,h1,h2,a1⟩
 ·rw[h2]at J;rw[h1];clear h1 h2;go_enter Tryz.func264,Tryz.ntmps264;go_wp2_with fail;rw[<-ar];clear ar;refine J.mono ?_;clear J;rintro e w1 ⟨rfl,b1⟩;go_wp2;go_ret;exact⟨rfl,aU.trans (b1.mono aU.size)⟩
 ·rw[a1]at J;rw[ni (λx=>decide (id=x)&&(y==true)) l i hi h2];clear h1 h2 a1 hi;go_enter Tryz.func264,Tryz.ntmps264;go_wp2_with fail;rw[<-ar];clear ar;refine J.mono ?_;clear J;rintro e w1 ⟨rfl,b1⟩;have g:decide ((0:Int)<=(i:Int))=true:=decide_eq_true (by omega);go_wp2;go_ret;exact⟨by first | rfl | simp,aU.trans (b1.mono aU.size)⟩
inductive p7 where|fD(m:bc)(A:Option Addr)(c:Nat)(B:Option Addr)(d:Nat)(C:Option Addr)(e:Nat)(D:Option Addr)(f:Nat)
open p7
instance (m:bc)(A:Option Addr)(c:Nat)(B:Option Addr)(d:Nat)(C:Option Addr)(e:Nat)(D:Option Addr)(f:Nat):CoeDep p7 (fD m A c B d C e D f) (Array Value):=⟨#[I af m.kind,I ak m.bf,Y A m.a5.length c,Y B m.asks.length d,Y C m.entries.length e,Y D m.aK.length f,aa,aa]⟩
instance (m:bc)(A:Option Addr)(c:Nat)(B:Option Addr)(d:Nat)(C:Option Addr)(e:Nat)(D:Option Addr)(f:Nat):CoeDep p7 (fD m A c B d C e D f) (List Value):=⟨[I af m.kind,I ak m.bf,Y A m.a5.length c,Y B m.asks.length d,Y C m.entries.length e,Y D m.aK.length f,aa,aa]⟩
theorem xN(a b c:Int)(y:Bool):(Program.built Tryz.prog 285 [(0,aE #[ag a,av b,av c]),(1,.bool y)]).map Array.toList=some [I af a,I ak b,I ak c,.bool y]:=by kernel_rfl
theorem pg(a b c:Int)(y:Bool)(w:World):(Instr.build 285 #[(0,aE #[ag a,av b,av c]),(1,.bool y)]).run Tryz.prog w=.ok (aE #[ag a,av b,av c,.bool y]) w:=by
 obtain⟨cs,h1,h2⟩:=Option.map_eq_some_iff.1 (xN a b c y);rw[run_build w 285 _ cs h1];rw[show cs=#[I af a,I ak b,I ak c,.bool y] from Array.toList_inj.1 h2]
theorem za:Real 263:=bW Tryz.func263 (by kernel_rfl) (by kernel_rfl)
theorem nX(S:Nat->Prop)(m:bc)(a:fu)(id:PId)(y:Bool)(ib:Nat)(w:World)(h:cI w S m a)(hI:hg w ib 0 id)(hm:m.a5.length<=1000):
 Calls Tryz.prog 263 #[aE (m.cellsOf a).toArray,.bool y,aj ib] w λe w'=>e=.returned (.bool (eR m.a5 id y))/\Below w w w':=by
 unfold bc.cellsOf;obtain⟨w0,ar⟩:=am (w.alloc (.cells (fD m a.A1 a.c1 a.A2 a.c2 a.A3 a.c3 a.A4 a.c4) 233));have hC:ai w0 w 233 (fD m a.A1 a.c1 a.A2 a.c2 a.A3 a.c3 a.A4 a.c4):=by rw[ar];exact ai.made _ _ _
 have aU:=aV ar;obtain⟨cb,M⟩:=am w.heap.size;rw[<-M]at hC;have aF:=Lib.hid M;clear M;obtain⟨nv,ay⟩:=am m.a5.length;have cM:=n3 S a.A1 nv a.c1 m.a5 id y w0 ay (by omega) (h.a5.below aU);have bA:ib<w.heap.size:=World.block_lt_of_cell? w _ hI.1;obtain⟨i0,i1,i2⟩:=hI;simp only[Nat.zero_add]at i1 i2;have cd:=λw=>pg id.au id.aq id.ax y w;rw[<-ay];rw[<-ay]at ar hC;clear h ay;go_enter Tryz.func263,Tryz.ntmps263;go_wp2_with fail;rw[<-ar];clear ar;refine cM.mono ?_;clear cM;rintro e w1 ⟨rfl,b1⟩;go_wp2;go_ret;exact⟨rfl,aU.trans (b1.mono aU.size)⟩
def b9(kids:List bc)(id:PId):Bool:=kids.all λm=>eR m.a5 id true
def eL(kids:List bc)(id:PId):Int:=if b9 kids id then 1 else 0
theorem CQ(l:List PId)(id:PId):eR l id false=false:=by
 unfold eR;rw[List.any_eq_false];intro x _;simp
theorem r7(l:List bc)(id:PId)(i:Nat)(h:i<l.length):eL (l.take (i+1)) id=if eR l[i].a5 id true then eL (l.take i) id else 0:=by
 unfold eL b9;rw[List.take_succ_eq_append_getElem h,List.all_append];cases hc:eR l[i].a5 id true<;>simp only[List.all_cons,List.all_nil,Bool.and_true,hc,Bool.and_false,if_true,if_false,Bool.false_eq_true]
theorem pK(S:Nat->Prop)(A:Option Addr)(n c:Nat)(l:List bc)(id:PId)(w:World)(aL:n=l.length)(hm:n<=1000)(h:SliceAt iO w S A l)(hv:∀m∈l,m.a5.length<=1000):
 Calls Tryz.prog 214 #[Y A n c,id.val] w λe w'=>e=.returned (ag (eL l id))/\Below w w w':=by
 obtain⟨r,hr⟩:=am (eL l id);rw[<-hr];unfold PId.val;obtain⟨w0,ar⟩:=am (w.alloc (.cells (bY id) 32));have hC:ai w0 w 32 (bY id):=by rw[ar];exact ai.made _ _ _
 have aU:=aV ar;obtain⟨cb,M⟩:=am w.heap.size;rw[<-M]at hC;have aF:=Lib.hid M;clear M;have hI:hg w0 cb 0 id:=⟨hC.cell 0,hC.cell 1,hC.cell 2⟩;have HN:=Lib.hid aL;have HV:=Lib.hid hv;have HR:=Lib.hid hr;have HH:=Lib.hid (h.below aU);have bZ:∀ (args:Array Value) (w:World),(callFunc 263 args).run Tryz.prog w=.ok (.enter 263 args) w:=za;clear aL hv hr h;go_enter Tryz.func214,Tryz.ntmps214;go_wp2_with fail;go_step3;go_wp2_with fail;rw[<-ar,<-aF.out];clear ar;go_step3;go_wp2_with fail
 go_loopw [6,12] (λs_ i_ wr=>∃i:Nat,i_=I af i/\i<=n/\s_=I af (eL (l.take i) id)/\Below w0 w0 wr) (λ_ i _=>n- (intOf i).toNat)
 case atStart=>exact⟨0,rfl,by omega,rfl,.refl _ _⟩
 case round=>
  obtain⟨i,rfl,hi,rfl,a7⟩:=hrel;by_cases bA:i<n
  ·have bu:i<l.length:=(by have:=HN.out;omega);have bE:(i:Int)<(n:Int):=(by omega);have J:=HV.out _ (List.getElem_mem bu);have a4:=Lib.hid (r7 l id i bu);obtain⟨b,off,u,rfl,bV,b8,bx,hcell,a,hu,h2⟩:=(HH.out.below a7).at_ bu (by decide);rw[hu]at hcell;have d0:wr.cell? ⟨b,off+i*8,none⟩=some (I af l[i].kind):=hcell 0 _ rfl;have d1:wr.cell? ⟨b,off+i*8+1,none⟩=some (I ak l[i].bf):=hcell 1 _ rfl;have d2:wr.cell? ⟨b,off+i*8+2,none⟩=some (Y a.A1 l[i].a5.length a.c1):=hcell 2 _ rfl;have d3:wr.cell? ⟨b,off+i*8+3,none⟩=some (Y a.A2 l[i].asks.length a.c2):=hcell 3 _ rfl;have d4:wr.cell? ⟨b,off+i*8+4,none⟩=some (Y a.A3 l[i].entries.length a.c3):=hcell 4 _ rfl;have d5:wr.cell? ⟨b,off+i*8+5,none⟩=some (Y a.A4 l[i].aK.length a.c4):=hcell 5 _ rfl;have d6:wr.cell? ⟨b,off+i*8+6,none⟩=some (aa):=hcell 6 _ rfl;have d7:wr.cell? ⟨b,off+i*8+7,none⟩=some (aa):=hcell 7 _ rfl;obtain⟨x,hx⟩:=am (l[i]);rw[<-hx]at d0 d1 d2 d3 d4 d5 h2 J a4;obtain⟨s,hs⟩:=am (eL (l.take i) id);rw[<-hs]at a4 ⊢;obtain⟨w1,aN⟩:=am (wr.alloc (.cells (fD x a.A1 a.c1 a.A2 a.c2 a.A3 a.c3 a.A4 a.c4) 233));have b1:=aV aN;have bD:ai w1 wr 233 (fD x a.A1 a.c1 a.A2 a.c2 a.A3 a.c3 a.A4 a.c4):=(by rw[aN];exact ai.made _ _ _);have a6:=a7.trans (b1.mono a7.size);have ad:=hI.below a6;have c1:=nX S x a id false cb w1 (h2.below b1) ad J;rw[CQ]at c1;unfold bc.cellsOf at c1;clear hcell bx hu hx hs;go_wp2_with fail;rw[<-aN];clear aN;refine c1.mono ?_;clear c1;rintro e w2 ⟨rfl,b2⟩;have bo:=a6.trans (b2.mono a6.size);have c2:=nX S x a id true cb w2 ((h2.below b1).below b2) (hI.below bo) J;unfold bc.cellsOf at c2;have aA:=bD.below b2 bD.lt;obtain⟨xb,a0⟩:=am wr.heap.size;rw[<-a0]at aA;have bj:=Lib.hid a0;rw[a0.symm]at*;obtain⟨y0,y1,y2,bb,y4,y5,y6,y7⟩:=aA.c8;simp at y0 y1 y2 bb y4 y5 y6 y7;clear a0;go_wp2_with fail;refine c2.mono ?_;clear c2;rintro e w3 ⟨rfl,b3⟩;have br:=bo.trans (b3.mono bo.size);clear y0 y1 y2 bb y4 y5 y6 y7;cases hp:eR x.a5 id true with
   | true=>
    have HE:Hid (eL (l.take (i+1)) id=s):=by
     show _=_;rw[a4.out,hp,if_pos rfl]
    clear hp;go_wp2
    go_round
    case rel=>exact⟨i+1,by go_num,by omega,by rw[HE.out],br⟩
    case measure=>simp[intOf];omega
   | false=>
    have HE:Hid (eL (l.take (i+1)) id=0):=by
     show _=_;rw[a4.out,hp,if_neg (by decide)]
    clear hp;go_wp2
    go_round
    case rel=>exact⟨i+1,by go_num,by omega,by rw[HE.out],br⟩
    case measure=>simp[intOf];omega
  ·obtain rfl:i=n:=(by omega);have HE:Hid (eL (l.take i) id=r):=by
    show _=_;rw[HR.out,HN.out,List.take_length]
   go_wp2;rw[Exit.noGoto_ret];go_ret;exact⟨by rw[<-HE.out];rfl,aU.trans (a7.mono aU.size)⟩
def dM(ay:List ae)(kids:List bc):List PId:=(ay.filter λx=>b9 kids x.id).map (·.id)
theorem qf(l:List ae)(kids:List bc)(i:Nat)(h:i<l.length):dM (l.take (i+1)) kids=if b9 kids l[i].id=true then dM (l.take i) kids++[l[i].id]else dM (l.take i) kids:=by
 unfold dM;rw[List.take_succ_eq_append_getElem h,List.filter_append,List.map_append];cases hc:b9 kids l[i].id<;>simp[hc]
theorem tn(l:List ae)(kids:List bc):(dM l kids).length<=l.length:=by
 unfold dM;rw[List.length_map];exact List.length_filter_le _ _
theorem tV(S S2:Nat->Prop)(A A9:Option Addr)(n c n9 c9:Nat)(l:List ae)(kids:List bc)(w:World)(aL:n=l.length)(hm:n<=15)(h:SliceAt aB w S A l)(bF:n9=kids.length)(av:n9<=1000)(h9:SliceAt iO w S2 A9 kids)(hv:∀m∈kids,m.a5.length<=1000):
 Calls Tryz.prog 164 #[Y A n c,aa,Y A9 n9 c9] w λe w'=>∃v,e=.returned v/\aD dm 285 w' w (λb=>b<w.heap.size) v (dM l kids)/\Below w w w':=by
 obtain⟨i0,z0,bM,bL,bB,bJ,bR⟩:=aS Tryz.sK;obtain⟨fl,a1⟩:=am (dM l kids);rw[<-a1];have cS:=Lib.hid a1;have HN:=Lib.hid aL;have HK:=fm bF h9 hv;clear aL a1 bF h9 hv;go_enter Tryz.func164,Tryz.ntmps164;go_wp2_with fail;go_step3;go_wp2_with fail
 go_loopw [7,15] (λv_ i_ wr=>∃i:Nat,i_=I af i/\i<=n/\aD dm 285 wr w (λb=>b<w.heap.size) v_ (dM (l.take i) kids)/\Below w w wr) (λ_ i _=>n- (intOf i).toNat)
 case atStart=>exact⟨0,rfl,by omega,aD.nil _ _ _ _ _,.refl _ _⟩
 case round=>
  obtain⟨i,rfl,hi,O,a7⟩:=hrel;by_cases bA:i<n
  ·have bu:i<l.length:=(by have:=HN.out;omega);have bE:(i:Int)<(n:Int):=(by omega);have a4:=Lib.hid (qf l kids i bu);obtain⟨b,off,u,rfl,bV,b8,bx,hcell,A2,c8,hu,h2⟩:=(h.below a7).at_ bu (by decide);rw[hu]at hcell;have d0:wr.cell? ⟨b,off+i*8,none⟩=some (I af l[i].kind):=hcell 0 _ rfl;have d1:wr.cell? ⟨b,off+i*8+1,none⟩=some (I af l[i].id.au):=hcell 1 _ rfl;have d2:wr.cell? ⟨b,off+i*8+2,none⟩=some (I ak l[i].id.aq):=hcell 2 _ rfl;have d3:wr.cell? ⟨b,off+i*8+3,none⟩=some (I ak l[i].id.ax):=hcell 3 _ rfl;have d4:wr.cell? ⟨b,off+i*8+4,none⟩=some (I af l[i].ah):=hcell 4 _ rfl;have d5:wr.cell? ⟨b,off+i*8+5,none⟩=some (I ak l[i].sub):=hcell 5 _ rfl;have d7:wr.cell? ⟨b,off+i*8+7,none⟩=some (Y A2 l[i].events.length c8):=hcell 7 _ rfl;have d6:wr.cell? ⟨b,off+i*8+6,none⟩=some aa:=hcell 6 _ rfl;obtain⟨x,hx⟩:=am (l[i]);rw[<-hx]at d0 d1 d2 d3 d4 d5 d7 h2 a4;obtain⟨o,ho⟩:=am (dM (l.take i) kids);have ad:o.length<=i:=(by rw[ho];exact Nat.le_trans (tn _ _) (by rw[List.length_take];omega));rw[<-ho]at O a4;obtain⟨A3,n3,c3,rfl,a2,bY⟩:=O.form;obtain⟨w1,aN⟩:=am (wr.alloc (.cells (a3 x A2 c8) 132));have b1:=aV aN;have bD:ai w1 wr 132 (a3 x A2 c8):=(by rw[aN];exact ai.made _ _ _);obtain⟨xb,a0⟩:=am wr.heap.size;rw[<-a0]at bD;have bj:=Lib.hid a0;have a6:=a7.trans (b1.mono a7.size);have J:=pK S2 A9 n9 c9 kids x.id w1 HK.out.1 av (HK.out.2.1.below a6) HK.out.2.2;unfold PId.val at J;have O1:=O.below b1;have ag:n3<=i:=(by rw[a2.out];exact ad);have bh:decide ((n3:Int)<16)=true:=decide_eq_true (by omega);have bH:=Lib.hid a2.out;cases hs:b9 kids x.id with
   | false=>
    have aw:eL kids x.id=0:=(by unfold eL;rw[hs];rfl);rw[aw]at J;have HE:Hid (dM (l.take (i+1)) kids=o):=by
     show _=_;rw[a4.out,if_neg (by rw[hs];decide)]
    clear hcell bx hu hx h2 a0 ho hs aw;go_wp2_with fail;rw[<-aN,<-bj.out];clear aN;refine J.mono ?_;clear J;rintro e w2 ⟨rfl,b2⟩;go_wp2
    go_round
    case rel=>exact⟨i+1,by go_num,by omega,by rw[HE.out];exact O1.below b2,a6.trans (b2.mono a6.size)⟩
    case measure=>simp[intOf];omega
   | true=>
    have aw:eL kids x.id=1:=(by unfold eL;rw[hs];rfl);rw[aw]at J;have HE:Hid (dM (l.take (i+1)) kids=o++[x.id]):=by
     show _=_;rw[a4.out,if_pos hs]
    have cd:=λw=>pg x.id.au x.id.aq x.id.ax true w;clear hcell bx hu hx h2 a0 ho hs aw;go_wp2_with fail;rw[<-aN,<-bj.out];clear aN;refine J.mono ?_;clear J;rintro e w2 ⟨rfl,b2⟩;have aA:=bD.below b2 bD.lt;obtain⟨y0,y1,y2,bb,y4,y5,y6,y7⟩:=aA.c8;simp at y0 y1 y2 bb y4 y5 y6 y7;have O2:=O1.below b2;have bC:=(Below.refl w2 w2).alloc (Nat.le_refl _) (.cells (dv x.id true) 285);have bI:dm.R (w2.alloc (.cells (dv x.id true) 285)) (bm (λb=>b<w.heap.size) (Y A3 n3 c3)) (dv x.id true) x.id:=rfl;go_wp2_with (at_builtin;refine a9 _ rfl (.tmp 30) (.tmp 36) 231 rfl dm w 285 i0 z0 32 Tryz.underlying231 bM bL bJ bR bB (by decide) (λb=>b<w.heap.size) (Y A3 n3 c3) o rfl (O2.below bC) (aj w2) 1 (dv x.id true) x.id rfl (Src.made w2 _ _) bI (by rw[<-bH.out];unfold maxLen;omega) (by rw[<-bH.out];omega) (by simp;have:=a6.size;have:=b2.size;omega) ?_;rw[<-bH.out];intro A6 bX w6 O6 cz gr aZ);have aQ:∀k,(Value.slice A3 n3 c3).ownBlock=some k->w.heap.size<=k:=λk hk=>(O.lt hk).1
    go_round
    case rel=>exact⟨i+1,by go_num,by omega,by rw[HE.out];exact O6,((a6.trans (b2.mono a6.size)).trans (bC.mono (Nat.le_trans a6.size b2.size))).grown gr (by simp;have:=a6.size;have:=b2.size;omega) aQ⟩
    case measure=>simp[intOf];omega
  ·obtain rfl:i=n:=(by omega);rw[HN.out,List.take_length,<-cS.out]at O;clear h;obtain⟨A3,n3,c3,rfl,a2,bY⟩:=O.form;go_wp2_with fail
   try go_step3
   try go_wp2_with fail
   go_loop [7,41] (λv_ i=>v_=Y A3 n3 c3/\i=I af 0) (λ_ _=>0)
   case atStart=>exact⟨rfl,rfl⟩
   case round=>
    obtain⟨rfl,rfl⟩:=hrel;go_wp2
    try rw[Exit.noGoto_ret]
    go_ret;exact⟨_,rfl,O,a7⟩
end Go.Proofs.YtgblliofomgggaaGreat
