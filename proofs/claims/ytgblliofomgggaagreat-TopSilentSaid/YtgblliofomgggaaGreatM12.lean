import Derived.Test.YtgblliofomgggaaGreatM01
import Derived.Test.YtgblliofomgggaaGreatM05
import Derived.Test.YtgblliofomgggaaGreatM11
namespace Go.Proofs.YtgblliofomgggaaGreat
set_option maxRecDepth 100000
set_option maxHeartbeats 1000000
open Go.RowKit a7 bA
open Go.IntKind renaming i64 -> af,u64 -> ak
open Go.Value renaming int -> I,slice -> Y,pointer -> aL,agg -> aE
theorem Src.below{w w':World}{A:Option Addr}{xs:List Value}(h:Src w A xs)(a7:Below w w w'):Src w' A xs:=by
 rcases h with h | ⟨b,off,e1,hc⟩
 ·exact .inl h
 ·exact .inr ⟨b,off,e1,λj u hu=>(a7.cell (p:=⟨b,off+j,none⟩) (World.block_lt_of_cell? w _ (hc j u hu))).trans (hc j u hu)⟩
def part{α:Type}(f:α->List UInt8)(l:List α)(i:Nat):List UInt8:=((l.take i).map f).flatten
theorem kj{α:Type}(f:α->List UInt8)(l:List α):part f l 0=[]:=by simp[part]
theorem kf{α:Type}(f:α->List UInt8)(l:List α)(i:Nat)(h:i<l.length):part f l (i+1)=part f l i++f l[i]:=by
 unfold part;rw[List.take_succ_eq_append_getElem h];simp only[List.map_append,List.map_cons,List.map_nil,List.flatten_append,List.flatten_cons,List.flatten_nil,List.append_nil]
theorem lq{α:Type}(f:α->List UInt8)(l:List α)(i K:Nat)(h:∀x∈l,(f x).length<=K):(part f l i).length<=i*K:=by
 induction i with
 | zero=>simp[kj]
 | succ i M=>
  by_cases hi:i<l.length
  ·rw[kf f l i hi,List.length_append];have:=h _ (List.getElem_mem hi);rw[Nat.add_mul];omega
  ·have:part f l (i+1)=part f l i:=by
    unfold part;rw[List.take_of_length_le (by omega),List.take_of_length_le (by omega)]
   rw[this,Nat.add_mul];omega
def cK{α:Type}(f:α->List UInt8)(l:List α):List UInt8:=Pk.az l.length++(l.map f).flatten
def bD(x:PId):List UInt8:=x.enc++Pk.az 1
def a1(x:ae):List UInt8:=Pk.aQ x.enc
theorem ew{x:PId}(h:x.aH):(bD x).length<=40:=by
 unfold bD;rw[List.length_append];have:=PId.bZ h;have:=aG 1 (by omega);omega
theorem cq{x:ae}(h:x.aH):(a1 x).length<=14000:=by
 unfold a1 Pk.aQ;rw[List.length_append];have:=ae.bZ h;have:=aG x.enc.length (by omega);omega
theorem uX(x:PId)(w:World)(h:x.au<16):Calls Tryz.prog 258 #[x.val] w λe w'=>e=.returned (.bool true)/\Below w w w':=by
 have g:decide ((x.au:Int)<16)=true:=decide_eq_true (by omega);unfold PId.val;go_enter Tryz.func258,Tryz.ntmps258;go_wp2;go_ret;exact⟨rfl,(Below.refl _ w).alloc (Nat.le_refl _) _⟩
theorem zZ(x:PId)(w:World)(h:x.aH):Calls Tryz.prog 257 #[dv x true] w λe w'=>e=.returned (.bool true)/\Below w w w':=by
 obtain⟨w0,ar⟩:=am (w.alloc (.cells (dv x true) 285));have hC:ai w0 w 285 (dv x true):=by rw[ar];exact ai.made _ _ _
 have aU:=aV ar;obtain⟨cb,M⟩:=am w.heap.size;rw[<-M]at hC;have aF:=Lib.hid M;clear M;have hm:=uX x w0 h.b;unfold PId.val at hm;obtain⟨d0,d1,d2,d3⟩:=hC.c4;simp at d0 d1 d2 d3;clear h;go_enter Tryz.func257,Tryz.ntmps257;go_wp2_with fail;rw[<-ar]
 try rw[<-aF.out]
 clear ar;refine hm.mono ?_;clear hm;rintro e w1 ⟨rfl,b1⟩;go_wp2;go_ret;exact⟨rfl,aU.trans (b1.mono aU.size)⟩
theorem Ac(S:Nat->Prop)(x:ae)(A:Option Addr)(c:Nat)(w:World)(hg:x.aH)(h:SliceAt aN w S A x.events):Calls Tryz.prog 259 #[a3 x A c] w λe w'=>e=.returned (.bool true)/\Below w w w':=by
 obtain⟨w0,ar⟩:=am (w.alloc (.cells (a3 x A c) 132));have hC:ai w0 w 132 (a3 x A c):=by rw[ar];exact ai.made _ _ _
 have aU:=aV ar;obtain⟨cb,M⟩:=am w.heap.size;rw[<-M]at hC;have aF:=Lib.hid M;clear M;have ck:=fV S x A c w0 hg (h.below aU);unfold ae.cellsOf at ck;obtain⟨d0,d1,d2,d3,d4,d5,d6,d7⟩:=hC.c8;simp at d0 d1 d2 d3 d4 d5 d6 d7;clear hg h;go_enter Tryz.func259,Tryz.ntmps259;go_wp2_with fail;rw[<-ar]
 try rw[<-aF.out]
 clear ar;refine ck.mono ?_;clear ck;rintro e w1 ⟨rfl,b1⟩;go_wp2;go_ret;exact⟨rfl,aU.trans (b1.mono aU.size)⟩
theorem rU{P:Prop}(h:P:=by
 clear hcell bx hu hx aX;go_wp2_with fail;rw[<-aN];clear aN;refine cl.mono ?_;clear cl;rintro e w2 ⟨rfl,b2⟩;have aK:=b1.trans (b2.mono b1.size);go_wp2
 go_round
 case rel=>exact⟨i+1,by go_num,by omega,a7.trans (aK.mono a7.size)⟩
 case measure=>simp[intOf];omega
 ):P:=h
theorem o7(S:Nat->Prop)(A:Option Addr)(n c:Nat)(l:List PId)(w:World)(aL:n=l.length)(hm:n<=16)(h:SliceAt dm w S A l)(hg:∀x∈l,x.aH):
 Calls Tryz.prog 260 #[Y A n c,.func (.func 257) #[] #[]] w λe w'=>e=.returned (.bool true)/\Below w w w':=by
 have HN:=Lib.hid aL;have HG:=Lib.hid hg;have bh:decide (16<(n:Int))=false:=decide_eq_false (by omega);clear aL hg;go_enter Tryz.func260,Tryz.ntmps260;go_wp2_with fail
 go_loopw [12] (λi_ wr=>∃i:Nat,i_=I af i/\i<=n/\Below w w wr) (λi _=>n- (intOf i).toNat)
 case atStart=>exact⟨0,rfl,by omega,.refl _ _⟩
 case round=>
  obtain⟨i,rfl,hi,a7⟩:=hrel;by_cases bA:i<n
  ·have bu:i<l.length:=(by have:=HN.out;omega);have bE:(i:Int)<(n:Int):=(by omega);have aX:=HG.out _ (List.getElem_mem bu);obtain⟨b,off,u,rfl,bV,b8,bx,hcell,hu⟩:=(h.below a7).at_ bu (by decide);have aR:u=l[i].gj true:=hu;rw[aR]at hcell;have d0:wr.cell? ⟨b,off+i*4,none⟩=some (I af l[i].au):=hcell 0 _ rfl;have d1:wr.cell? ⟨b,off+i*4+1,none⟩=some (I ak l[i].aq):=hcell 1 _ rfl;have d2:wr.cell? ⟨b,off+i*4+2,none⟩=some (I ak l[i].ax):=hcell 2 _ rfl;have d3:wr.cell? ⟨b,off+i*4+3,none⟩=some (.bool true):=hcell 3 _ rfl;obtain⟨x,hx⟩:=am (l[i]);rw[<-hx]at d0 d1 d2 aX;obtain⟨w1,aN⟩:=am (wr.alloc (.cells (dv x true) 285));have b1:=aV aN;have cl:=zZ x w1 aX;exact rU
  ·obtain rfl:i=n:=(by omega);clear h;go_wp2;go_ret;exact⟨rfl,a7⟩
theorem ik(S:Nat->Prop)(A:Option Addr)(n c:Nat)(l:List ae)(w:World)(aL:n=l.length)(hm:n<=16)(h:SliceAt aB w S A l)(hg:∀x∈l,x.aH):
 Calls Tryz.prog 261 #[Y A n c,.func (.func 259) #[] #[]] w λe w'=>e=.returned (.bool true)/\Below w w w':=by
 have HN:=Lib.hid aL;have HG:=Lib.hid hg;have bh:decide (16<(n:Int))=false:=decide_eq_false (by omega);clear aL hg;go_enter Tryz.func261,Tryz.ntmps261;go_wp2_with fail
 go_loopw [12] (λi_ wr=>∃i:Nat,i_=I af i/\i<=n/\Below w w wr) (λi _=>n- (intOf i).toNat)
 case atStart=>exact⟨0,rfl,by omega,.refl _ _⟩
 case round=>
  obtain⟨i,rfl,hi,a7⟩:=hrel;by_cases bA:i<n
  ·have bu:i<l.length:=(by have:=HN.out;omega);have bE:(i:Int)<(n:Int):=(by omega);have aX:=HG.out _ (List.getElem_mem bu);obtain⟨b,off,u,rfl,bV,b8,bx,hcell,A2,c8,hu,h2⟩:=(h.below a7).at_ bu (by decide);rw[hu]at hcell;have d0:wr.cell? ⟨b,off+i*8,none⟩=some (I af l[i].kind):=hcell 0 _ rfl;have d1:wr.cell? ⟨b,off+i*8+1,none⟩=some (I af l[i].id.au):=hcell 1 _ rfl;have d2:wr.cell? ⟨b,off+i*8+2,none⟩=some (I ak l[i].id.aq):=hcell 2 _ rfl;have d3:wr.cell? ⟨b,off+i*8+3,none⟩=some (I ak l[i].id.ax):=hcell 3 _ rfl;have d4:wr.cell? ⟨b,off+i*8+4,none⟩=some (I af l[i].ah):=hcell 4 _ rfl;have d5:wr.cell? ⟨b,off+i*8+5,none⟩=some (I ak l[i].sub):=hcell 5 _ rfl;have d7:wr.cell? ⟨b,off+i*8+7,none⟩=some (Y A2 l[i].events.length c8):=hcell 7 _ rfl;have d6:wr.cell? ⟨b,off+i*8+6,none⟩=some aa:=hcell 6 _ rfl;obtain⟨x,hx⟩:=am (l[i]);rw[<-hx]at d0 d1 d2 d3 d4 d5 d7 h2 aX;obtain⟨w1,aN⟩:=am (wr.alloc (.cells (a3 x A2 c8) 132));have b1:=aV aN;have cl:=Ac S x A2 c8 w1 aX (h2.below b1);exact rU
  ·obtain rfl:i=n:=(by omega);clear h;go_wp2;go_ret;exact⟨rfl,a7⟩
theorem all_none(w:World):Calls Tryz.prog 262 #[aa,.func (.func 258) #[] #[]] w λe w'=>e=.returned (.bool true)/\Below w w w':=by
 go_enter Tryz.func262,Tryz.ntmps262;go_wp2_with fail
 go_loopw [12] (λi_ wr=>i_=I af 0/\wr=w) (λi _=>0)
 case atStart=>exact⟨rfl,rfl⟩
 case round=>
  obtain⟨rfl,rfl⟩:=hrel;go_wp2;go_ret;exact⟨rfl,.refl _ _⟩
theorem sv(A:Option Addr)(n c:Nat)(x:PId)(l:List UInt8)(w:World)(aL:l.length=n)(hx:x.aH)(h:Src w A (aA l))(hm:n<=800000000):
 Calls Tryz.prog 213 #[Y A n c,x.val] w λe w'=>∃u,e=.returned u/\Row w' w u (l++x.enc)/\Below w w w':=by
 have bv:=hx.b;unfold PId.val;obtain⟨w0,ar⟩:=am (w.alloc (.cells (bY x) 32));have hC:ai w0 w 32 (bY x):=by rw[ar];exact ai.made _ _ _
 have aU:=aV ar;obtain⟨cb,M⟩:=am w.heap.size;rw[<-M]at hC;have aF:=Lib.hid M;clear M;have aC:=h.below aU;have n1:=b7 A n c x.au l w0 aL (by omega) aC (by omega);have d0:=hC.cell 0;simp at d0;have e8:(x.au:Int) % 18446744073709551616=x.au:=by omega
 clear h aC;go_enter Tryz.func213,Tryz.ntmps213;go_wp2_with fail;rw[<-ar,<-aF.out];clear ar;refine n1.mono ?_;clear n1;rintro e w1 ⟨u1,rfl,r1,b1⟩;obtain⟨A1,m1,c1,rfl,aK,bU⟩:=r1.open_;have ah:m1<=n+9:=by rw[<-aK.out,List.length_append];have:=aG x.au (by omega);omega
 have ao:=hC.below b1 hC.lt;have d1:=ao.cell 1;simp at d1;have a6:=aU.trans (b1.mono aU.size);have aZ:=b7 A1 m1 c1 x.aq _ w1 aK.out hx.l r1.src.2 (by omega);go_wp2_with fail;refine aZ.mono ?_;clear aZ;rintro e w2 ⟨u2,rfl,bf,b2⟩;obtain⟨A2,m2,c2,rfl,a9,aT⟩:=bf.open_;have aS:m2<=n+18:=by rw[<-a9.out,List.length_append,aK.out];have:=aG x.aq hx.l;omega
 have aI:=ao.below b2 ao.lt;have d2:=aI.cell 2;simp at d2;have bo:=a6.trans (b2.mono a6.size);have n3:=b7 A2 m2 c2 x.ax _ w2 a9.out hx.s bf.src.2 (by omega);go_wp2_with fail;refine n3.mono ?_;clear n3;rintro e w3 ⟨u3,rfl,r3,b3⟩;go_wp2;go_ret;refine⟨_,rfl,?_,bo.trans (b3.mono bo.size)⟩;unfold PId.enc;rw[<-List.append_assoc,<-List.append_assoc];exact r3.mono bo.size
theorem q4(A:Option Addr)(n c:Nat)(x:PId)(l:List UInt8)(w:World)(aL:l.length=n)(hx:x.aH)(h:Src w A (aA l))(hm:n<=800000000):
 Calls Tryz.prog 209 #[Y A n c,dv x true] w λe w'=>∃u,e=.returned u/\Row w' w u (l++bD x)/\Below w w w':=by
 obtain⟨w0,ar⟩:=am (w.alloc (.cells (dv x true) 285));have hC:ai w0 w 285 (dv x true):=by rw[ar];exact ai.made _ _ _
 have aU:=aV ar;obtain⟨cb,M⟩:=am w.heap.size;rw[<-M]at hC;have aF:=Lib.hid M;clear M;have li:=sv A n c x l w0 aL hx (h.below aU) (by omega);unfold PId.val at li;obtain⟨d0,d1,d2,d3⟩:=hC.c4;simp at d0 d1 d2 d3;have J:=PId.bZ hx;have cH:=Lib.hid aL;clear h hx aL;go_enter Tryz.func209,Tryz.ntmps209;go_wp2_with fail;rw[<-ar]
 try rw[<-aF.out]
 clear ar;refine li.mono ?_;clear li;rintro e w1 ⟨u1,rfl,r1,b1⟩;obtain⟨A1,m1,c1,rfl,aK,bU⟩:=r1.open_;have ah:m1<=n+27:=by rw[<-aK.out,List.length_append,cH.out];omega
 have aZ:=b7 A1 m1 c1 1 _ w1 aK.out (by omega) r1.src.2 (by omega);clear J;go_wp2_with fail;refine aZ.mono ?_;clear aZ;rintro e w2 ⟨u2,rfl,bf,b2⟩;have a6:=aU.trans (b1.mono aU.size);go_wp2;go_ret;refine⟨_,rfl,?_,a6.trans (b2.mono a6.size)⟩;unfold bD;rw[<-List.append_assoc];exact bf.mono a6.size
theorem s3(S:Nat->Prop)(A A9:Option Addr)(n c c9:Nat)(x:ae)(l:List UInt8)(w:World)(aL:l.length=n)(hg:x.aH)(h:Src w A (aA l))(hm:n<=800000000)(h9:SliceAt aN w S A9 x.events):
 Calls Tryz.prog 211 #[Y A n c,a3 x A9 c9] w λe w'=>∃u,e=.returned u/\Row w' w u (l++a1 x)/\Below w w w':=by
 obtain⟨w0,ar⟩:=am (w.alloc (.cells (a3 x A9 c9) 132));have hC:ai w0 w 132 (a3 x A9 c9):=by rw[ar];exact ai.made _ _ _
 have aU:=aV ar;obtain⟨cb,M⟩:=am w.heap.size;rw[<-M]at hC;have aF:=Lib.hid M;clear M;have en:=h4 S x A9 c9 w0 hg (h9.below aU);unfold ae.cellsOf at en;obtain⟨d0,d1,d2,d3,d4,d5,d6,d7⟩:=hC.c8;simp at d0 d1 d2 d3 d4 d5 d6 d7;have J:=ae.bZ hg;have aC:=h.below aU;have cH:=Lib.hid aL;clear h hg aL h9;go_enter Tryz.func211,Tryz.ntmps211;go_wp2_with fail;rw[<-ar]
 try rw[<-aF.out]
 clear ar;refine en.mono ?_;clear en;rintro e w1 ⟨u1,rfl,r1,b1⟩;obtain⟨A1,m1,c1,rfl,aK,bU⟩:=r1.open_;have I:=im A A1 n c m1 c1 l x.enc w1 cH.out aK.out (aC.below b1) r1.src.2 (by omega) (by rw[<-aK.out];omega);clear J;go_wp2_with fail;refine I.mono ?_;clear I;rintro e w2 ⟨u2,rfl,bf,b2⟩;have a6:=aU.trans (b1.mono aU.size);go_wp2;go_ret;exact⟨_,rfl,bf.mono a6.size,a6.trans (b2.mono a6.size)⟩
theorem pe{P:Prop}(h:P:=by
 clear hcell bx hu hx aX bh;go_wp2_with fail;rw[<-a8];clear a8;refine cl.mono ?_;clear cl;rintro e w3 ⟨u3,rfl,r3,b3⟩;have M:=b2.trans (b3.mono b2.size);go_wp2
 go_round
 case rel=>exact⟨i+1,by go_num,by omega,by rw[J.out,<-List.append_assoc];exact r3.mono (Nat.le_trans a7.size b2.size),a7.trans (M.mono a7.size)⟩
 case measure=>simp[intOf];omega
 ):P:=h
theorem uB(S:Nat->Prop)(A A9:Option Addr)(n c n9 c9:Nat)(l:List UInt8)(vs:List PId)(w:World)(aL:l.length=n)(h:Src w A (aA l))(hm:n<=10000000)(bF:n9=vs.length)(av:n9<=16)(h9:SliceAt dm w S A9 vs)(hg:∀x∈vs,x.aH):
 Calls Tryz.prog 208 #[Y A n c,Y A9 n9 c9,.func (.func 209) #[] #[]] w λe w'=>∃u,e=.returned u/\Row w' w u (l++cK bD vs)/\Below w w w':=by
 have hlen:∀x∈vs,(bD x).length<=40:=λx hx=>ew (hg x hx);have n1:=b7 A n c n9 l w aL (by omega) h (by omega);have e8:(n9:Int) % 18446744073709551616=n9:=by omega
 have HN:=Lib.hid bF;have HG:=Lib.hid hg;have ar:=Lib.hid hlen;have HL:=Lib.hid aL;clear bF hg hlen aL h;go_enter Tryz.func208,Tryz.ntmps208;go_wp2_with fail;refine n1.mono ?_;clear n1;rintro e w1 ⟨u1,rfl,r1,b1⟩;go_wp2_with fail
 go_loopw [0,16] (λv_ i_ wr=>∃i:Nat,i_=I af i/\i<=n9/\Row wr w v_ (l++Pk.az n9++part bD vs i)/\Below w w wr) (λ_ i _=>n9- (intOf i).toNat)
 case atStart=>exact⟨0,rfl,by omega,by rw[kj,List.append_nil];exact r1,b1⟩
 case round=>
  obtain⟨i,rfl,hi,O,a7⟩:=hrel;by_cases bA:i<n9
  ·have bu:i<vs.length:=(by have:=HN.out;omega);have bE:(i:Int)<(n9:Int):=(by omega);have aX:=HG.out _ (List.getElem_mem bu);have J:=Lib.hid (kf bD vs i bu);have bh:=lq bD vs i 40 ar.out;obtain⟨b,off,u,rfl,bV,b8,bx,hcell,hu⟩:=(h9.below a7).at_ bu (by decide);have aR:u=vs[i].gj true:=hu;rw[aR]at hcell;have d0:wr.cell? ⟨b,off+i*4,none⟩=some (I af vs[i].au):=hcell 0 _ rfl;have d1:wr.cell? ⟨b,off+i*4+1,none⟩=some (I ak vs[i].aq):=hcell 1 _ rfl;have d2:wr.cell? ⟨b,off+i*4+2,none⟩=some (I ak vs[i].ax):=hcell 2 _ rfl;have d3:wr.cell? ⟨b,off+i*4+3,none⟩=some (.bool true):=hcell 3 _ rfl;obtain⟨x,hx⟩:=am (vs[i]);rw[<-hx]at d0 d1 d2 aX J;obtain⟨A1,m1,k1,rfl,aK,bU⟩:=O.open_;have aY:m1<=11000000:=by
    rw[<-aK.out,List.length_append,List.length_append,HL.out];have:=aG n9 (by omega);have:=Nat.mul_le_mul_right 40 (by omega:i<=16);omega
   obtain⟨w2,a8⟩:=am (wr.alloc (.cells (dv x true) 285));have b2:=aV a8;have cl:=q4 A1 m1 k1 x _ w2 aK.out aX (O.src.2.below b2) (by omega);exact pe
  ·obtain rfl:i=n9:=(by omega);have HE:Hid (cK bD vs=Pk.az i++part bD vs i):=by
    show cK bD vs=_;unfold cK part;rw[HN.out,List.take_length]
   clear h9;go_wp2;go_ret;exact⟨_,rfl,by rw[HE.out,<-List.append_assoc];exact O,a7⟩
theorem ln(S:Nat->Prop)(A A9:Option Addr)(n c n9 c9:Nat)(l:List UInt8)(vs:List ae)(w:World)(aL:l.length=n)(h:Src w A (aA l))(hm:n<=10000000)(bF:n9=vs.length)(av:n9<=16)(h9:SliceAt aB w S A9 vs)(hg:∀x∈vs,x.aH):
 Calls Tryz.prog 210 #[Y A n c,Y A9 n9 c9,.func (.func 211) #[] #[]] w λe w'=>∃u,e=.returned u/\Row w' w u (l++cK a1 vs)/\Below w w w':=by
 have hlen:∀x∈vs,(a1 x).length<=14000:=λx hx=>cq (hg x hx);have n1:=b7 A n c n9 l w aL (by omega) h (by omega);have e8:(n9:Int) % 18446744073709551616=n9:=by omega
 have HN:=Lib.hid bF;have HG:=Lib.hid hg;have ar:=Lib.hid hlen;have HL:=Lib.hid aL;clear bF hg hlen aL h;go_enter Tryz.func210,Tryz.ntmps210;go_wp2_with fail;refine n1.mono ?_;clear n1;rintro e w1 ⟨u1,rfl,r1,b1⟩;go_wp2_with fail
 go_loopw [0,16] (λv_ i_ wr=>∃i:Nat,i_=I af i/\i<=n9/\Row wr w v_ (l++Pk.az n9++part a1 vs i)/\Below w w wr) (λ_ i _=>n9- (intOf i).toNat)
 case atStart=>exact⟨0,rfl,by omega,by rw[kj,List.append_nil];exact r1,b1⟩
 case round=>
  obtain⟨i,rfl,hi,O,a7⟩:=hrel;by_cases bA:i<n9
  ·have bu:i<vs.length:=(by have:=HN.out;omega);have bE:(i:Int)<(n9:Int):=(by omega);have aX:=HG.out _ (List.getElem_mem bu);have J:=Lib.hid (kf a1 vs i bu);have bh:=lq a1 vs i 14000 ar.out;obtain⟨b,off,u,rfl,bV,b8,bx,hcell,A2,c8,hu,h2⟩:=(h9.below a7).at_ bu (by decide);rw[hu]at hcell;have d0:wr.cell? ⟨b,off+i*8,none⟩=some (I af vs[i].kind):=hcell 0 _ rfl;have d1:wr.cell? ⟨b,off+i*8+1,none⟩=some (I af vs[i].id.au):=hcell 1 _ rfl;have d2:wr.cell? ⟨b,off+i*8+2,none⟩=some (I ak vs[i].id.aq):=hcell 2 _ rfl;have d3:wr.cell? ⟨b,off+i*8+3,none⟩=some (I ak vs[i].id.ax):=hcell 3 _ rfl;have d4:wr.cell? ⟨b,off+i*8+4,none⟩=some (I af vs[i].ah):=hcell 4 _ rfl;have d5:wr.cell? ⟨b,off+i*8+5,none⟩=some (I ak vs[i].sub):=hcell 5 _ rfl;have d7:wr.cell? ⟨b,off+i*8+7,none⟩=some (Y A2 vs[i].events.length c8):=hcell 7 _ rfl;have d6:wr.cell? ⟨b,off+i*8+6,none⟩=some aa:=hcell 6 _ rfl;obtain⟨x,hx⟩:=am (vs[i]);rw[<-hx]at d0 d1 d2 d3 d4 d5 d7 h2 aX J;obtain⟨A1,m1,k1,rfl,aK,bU⟩:=O.open_;have aY:m1<=11000000:=by
    rw[<-aK.out,List.length_append,List.length_append,HL.out];have:=aG n9 (by omega);have:=Nat.mul_le_mul_right 14000 (by omega:i<=16);omega
   obtain⟨w2,a8⟩:=am (wr.alloc (.cells (a3 x A2 c8) 132));have b2:=aV a8;have cl:=s3 S A1 A2 m1 k1 c8 x _ w2 aK.out aX (O.src.2.below b2) (by omega) (h2.below b2);exact pe
  ·obtain rfl:i=n9:=(by omega);have HE:Hid (cK a1 vs=Pk.az i++part a1 vs i):=by
    show cK a1 vs=_;unfold cK part;rw[HN.out,List.take_length]
   clear h9;go_wp2;go_ret;exact⟨_,rfl,by rw[HE.out,<-List.append_assoc];exact O,a7⟩
theorem pN(A:Option Addr)(n c:Nat)(l:List UInt8)(w:World)(aL:l.length=n)(h:Src w A (aA l))(hm:n<=10000000):
 Calls Tryz.prog 212 #[Y A n c,aa,.func (.func 213) #[] #[]] w λe w'=>∃u,e=.returned u/\Row w' w u (l++Pk.az 0)/\Below w w w':=by
 have n1:=b7 A n c 0 l w aL (by omega) h (by omega);have HL:=Lib.hid aL;clear aL h;go_enter Tryz.func212,Tryz.ntmps212;go_wp2_with fail;refine n1.mono ?_;clear n1;rintro e w1 ⟨u1,rfl,r1,b1⟩;go_wp2_with fail
 go_loopw [0,16] (λv_ i_ wr=>i_=I af 0/\v_=u1/\wr=w1) (λ_ i _=>0)
 case atStart=>exact⟨rfl,rfl,rfl⟩
 case round=>
  obtain⟨rfl,rfl,rfl⟩:=hrel;go_wp2;go_ret;exact⟨_,rfl,r1,b1⟩
section
def e9{α:Type}(f:α->List UInt8)(l:List α)(i:Nat):List UInt8:=((l.drop i).map f).flatten
theorem gG{α:Type}(f:α->List UInt8)(l:List α):e9 f l 0=(l.map f).flatten:=by simp[e9]
theorem oq{α:Type}(f:α->List UInt8)(l:List α):e9 f l l.length=[]:=by simp[e9]
theorem l5{α:Type}(f:α->List UInt8)(l:List α)(i:Nat)(h:i<l.length):e9 f l i=f l[i]++e9 f l (i+1):=by
 unfold e9;rw[List.drop_eq_getElem_cons h,List.map_cons,List.flatten_cons]
theorem iF{α:Type}(f:α->List UInt8)(l:List α)(i K:Nat)(h:∀x∈l,(f x).length<=K):(e9 f l i).length<=(l.length-i)*K:=by
 unfold e9;have:∀ (m:List α),(∀x∈m,(f x).length<=K)->((m.map f).flatten).length<=m.length*K:=by
  intro m hm
  induction m with
  | nil=>simp
  | cons a m M=>
   rw[List.map_cons,List.flatten_cons,List.length_append,List.length_cons,Nat.add_mul];have:=hm a (by simp);have:=M (λx hx=>hm x (by simp[hx]));omega
 have:=this (l.drop i) (λx hx=>h x (List.mem_of_mem_drop hx))
 rwa [List.length_drop]at this
theorem pE{α:Type}(f:α->List UInt8)(l:List α)(i:Nat)(h:i<l.length):(f l[i]).length<=(e9 f l 0).length:=by
 rw[gG];exact(List.sublist_flatten_of_mem (List.mem_map_of_mem (List.getElem_mem h))).length_le
theorem aD.read{α:Type}{r:dD α}{e:TypeId}{w w':World}{base q:Nat}{S:Nat->Prop}{v:Value}{l:List α}(h:aD r e w base S v l)(g:Goes (cC q) w (cC q) w')(hq:S q)(hv:∀b,v.ownBlock=some b->¬S b):aD r e w' base S v l:=
 (h.goes (g.union (S:=S) (λb a7=>by have:b=q:=a7;subst this;exact hq)) hv).weak (λb a7=>.inl a7)
theorem gn{w w':World}{q B:Nat}(g:Goes (cC q) w (cC q) w'):Goes (λb=>b=q\/B<=b) w (λb=>b=q\/B<=b) w':=
 ⟨g.os,g.tape,g.output,g.size,λb a7 aL=>g.aI b a7 (λe=>aL (.inl e)),λ_ _ h=>h⟩
theorem bv{w w':World}{row:Option Nat}{S:Nat->Prop}(g:w.grownBy w' row)(hS:∀k,row=some k->S k):Goes S w S w':=
 ⟨g.os,g.tape,g.output,g.size,λb a7 aL=>g.block b a7 (λe=>aL (hS b e.symm)),λ_ _ h=>h⟩
theorem Goes.jc{w w':World}{q:Nat}(h:Goes (λb=>b=q\/w.heap.size<=b) w (λb=>b=q\/w.heap.size<=b) w'):Goes (cC q) w (cC q) w':=
 ⟨h.os,h.tape,h.output,h.size,λb a7 aL=>h.aI b a7 (λe=>e.elim aL (λe=>by omega)),λ_ _ hs=>hs⟩
structure RW (w:World) (T:Nat->Prop) (mb q long:Nat) (l:List UInt8):Prop where
 rd:cv w T q l
 r:ai w mb 305 #[aj q,ag long,.bool false]
 ne:mb≠q
 tq:T q
section
variable {w w':World}{T T':Nat->Prop}{mb q long:Nat}{l l':List UInt8}
theorem RW.mlt(h:RW w T mb q long l):mb<w.heap.size:=h.r.lt
theorem RW.read(h:RW w T mb q long l)(g:Goes (cC q) w (cC q) w')(rd:cv w' T q l'):RW w' T mb q long l':=⟨rd,h.r.goes g h.ne,h.ne,h.tq⟩
theorem RW.grown(h:RW w T mb q long l)(g:w.grownBy w' (some q))(rd:cv w' T q l'):RW w' T mb q long l':=h.read (aJ g rfl) rd
theorem RW.below(h:RW w T mb q long l)(g:Below w w w'):RW w' T mb q long l:=⟨h.rd.below g,h.r.below g h.r.lt,h.ne,h.tq⟩
theorem RW.wide(h:RW w T mb q long l):RW w (λb=>T b\/w.heap.size<=b) mb q long l:=⟨h.rd.wide,h.r,h.ne,.inl h.tq⟩
theorem RW.weak(h:RW w T mb q long l)(hs:∀b,T' b->T b)(hq:T' q:=by first | exact ‹_› | exact .inl ‹_›):RW w T' mb q long l:=⟨h.rd.weak hs,h.r,h.ne,hq⟩
theorem RW.put(h:RW w T mb q long l){g:Nat}(hg:g≠q)(hm:mb≠g)(hT:T g)(i:Nat)(u:Value):RW (w.setCell ⟨g,i,none⟩ u) T mb q long l:=⟨h.rd.put hg hT i u,h.r.dA hm u,h.ne,h.tq⟩
theorem RW.app(h:RW w T mb q long l){row:Option Nat}(g:w.grownBy w' row)(hr:∀k,row=some k->k≠q/\k≠mb/\T k):RW w' T mb q long l:=
 ⟨h.rd.app g (λk hk=>⟨(hr k hk).1,(hr k hk).2.2⟩),h.r.grown g (λe=>(hr mb e.symm).2.1 rfl),h.ne,h.tq⟩
end
theorem hz(T:Nat->Prop)(mb q long n I:Nat)(rest:List UInt8)(w:World)(h:RW w T mb q long (Pk.az n++rest))(aL:n<I)(hl:I<=1000)(hm:rest.length<=1000000000):
 Calls Tryz.prog 228 #[aj mb,av I] w λe w'=>e=.returned (av n)/\RW w' T mb q long rest/\w.grownBy w' (some q):=by
 have n1:=cM T q n rest w h.tq (by omega) h.rd hm;have d0:=h.r.cell 0;simp at d0;have HH:=Lib.hid h;clear h;go_enter Tryz.func228,Tryz.ntmps228;go_wp2_with fail;refine n1.mono ?_;clear n1;rintro e w1 ⟨rfl,r1,g1⟩;clear d0;go_wp2_with fail;go_ret;exact⟨rfl,HH.out.grown g1 r1,g1⟩
theorem yy(T:Nat->Prop)(mb q long:Nat)(x:PId)(rest:List UInt8)(w:World)(hx:x.aH)(h:RW w T mb q long (x.enc++rest))(hm:rest.length<=800000000):
 Calls Tryz.prog 234 #[aj mb] w λe w'=>e=.returned x.val/\RW w' T mb q long rest/\Goes (cC q) w (cC q) w':=by
 have aE:=h.rd.h5;have az:=h.mlt;have hq:=h.tq;have hh:=h.wide;unfold PId.enc at hh;rw[List.append_assoc,List.append_assoc]at hh;have bv:=hx.b;have L1:=aG x.aq hx.l;have L2:=aG x.ax hx.s;obtain⟨w0,ar⟩:=am (w.alloc (.cells ep 32));have ay:ai w0 w 32 ep:=by rw[ar];exact ai.made _ _ _
 have aU:=aV ar;have h0:=hh.below aU;obtain⟨rb,bh⟩:=am w.heap.size;rw[<-bh]at ay;have bn:=Lib.hid bh;have n1:=hz _ mb q long x.au 16 _ w0 h0 (by omega) (by omega) (by simp only[List.length_append];omega);clear hh h h0 bh;unfold PId.val;go_enter Tryz.func234,Tryz.ntmps234;go_wp2_with fail;rw[<-ar,<-bn.out];clear ar;refine n1.mono ?_;clear n1;rintro e w1 ⟨rfl,r1,g1⟩;have bq:rb≠q:=by have:=bn.out;omega
 have aM:rb≠mb:=by have:=bn.out;omega
 have bz:ai w1 rb 32 _:=ay.grown g1 (λe=>by injection e with e;omega);have m1:=r1.r.cell 0;simp at m1;have aK:=r1.mlt;go_wp2_with (refine en rfl 32 _ rfl #[(0,I af x.au)] rfl _ (q6 _ w1) ?_);obtain⟨w2,a8⟩:=am (w1.alloc (.cells #[ag x.au,av 0,av 0] 32));have aA:ai w2 w1 32 #[ag x.au,av 0,av 0]:=by rw[a8];exact ai.made _ _ _
 have b2:=aV a8;have bN:=bz.below b2 bz.lt;have h2:=r1.below b2;obtain⟨xb,a0⟩:=am w1.heap.size;rw[<-a0]at aA;have bj:=Lib.hid a0;have bc:w.heap.size<=xb:=by have:=aU.size;have:=g1.size;omega
 have aI:xb≠q:=by omega
 have aD:mb≠xb:=by omega
 have J:xb≠rb:=by have:=bz.lt;omega
 have aZ:=cM _ q x.aq _ w2 h2.tq hx.l h2.rd (by rw[List.length_append];omega);rw[<-a8,<-a0];clear a8 a0 m1 aK;refine aZ.mono ?_;clear aZ;rintro e w3 ⟨rfl,r3,g3⟩;have a1:=h2.grown g3 r3;have aT:ai w3 xb 32 _:=aA.grown g3 (λe=>by injection e with e;omega);have b0:ai w3 rb 32 _:=bN.grown g3 (λe=>by injection e with e;omega);have f1:=aT.free 1;have bg:=aT.cell 1;simp at bg;obtain⟨w4,bd⟩:=am (w3.setCell ⟨xb,1,none⟩ (av x.aq));have aO:ai w4 xb 32 #[ag x.au,av x.aq,av 0]:=by rw[bd];simpa using aT.put 1 (av x.aq)
 have aX:ai w4 rb 32 ep:=by rw[bd];exact b0.dA (λe=>J e.symm) _
 have h4:=a1.put aI aD (.inr bc) 1 (av x.aq);have m3:=a1.r.cell 0;simp at m3;have aQ:(mb==xb)=false:=by rw[beq_eq_false_iff_ne];exact aD
 rw[<-bd]at h4;have g4:w3.grownBy w4 (some xb):=by rw[bd];exact aR _ _ _ _
 have n4:=cM _ q x.ax _ w4 h4.tq hx.s h4.rd (by omega);go_wp2_with fail;rw[<-bd];clear bd f1 bg m3;refine n4.mono ?_;clear n4;rintro e w5 ⟨rfl,r5,g5⟩;have bi:=h4.grown g5 r5;have ca:ai w5 xb 32 _:=aO.grown g5 (λe=>by injection e with e;omega);have aF:ai w5 rb 32 _:=aX.grown g5 (λe=>by injection e with e;omega);have f2:=ca.free 2;have a2:=ca.cell 2;simp at a2;have bZ:=ca.put 2 (av x.ax);have bP:=aF.dA (p:=⟨xb,2,none⟩) (λe=>J e.symm) (av x.ax);simp only[List.setIfInBounds_toArray,List.set_cons_zero,List.set_cons_succ]at bZ;obtain⟨ba,c1,c2⟩:=bZ.c3;have aB:=bP.free 0;have e1:=bP.free 1;have a5:=bP.free 2;obtain⟨k0,k1,k2⟩:=bP.c3;simp at ba c1 c2 k0 k1 k2;have h6:=bi.put aI aD (.inr bc) 2 (av x.ax);have g6:=aR w5 xb 2 (av x.ax);go_wp2_with fail;obtain⟨w6,aY⟩:=am (w5.setCell ⟨xb,2,none⟩ (av x.ax));rw[<-aY]at bP h6 g6 ⊢;have cG:=((bP.put 0 (ag x.au)).put 1 (av x.aq)).put 2 (av x.ax);simp only[List.setIfInBounds_toArray,List.set_cons_zero,List.set_cons_succ]at cG;have gz:=mS w6 rb (ag x.au) (av x.aq) (av x.ax);refine bodyPost_ret (results_cell_row rfl _ _ rb 32 _ (0,0) _ rfl cG Tryz.underlying32 rfl (by kernel_rfl)) rfl ?_;have a6:w.heap.size<=rb:=by rw[bn.out];exact Nat.le_refl _
 refine⟨rfl,(h6.app gz (λk hk=>by injection hk with hk;subst hk;exact⟨bq,aM,.inr a6⟩)).weak (λb a7=>.inl a7) hq,Goes.jc ?_⟩;exact(Goes.ao aU _).trans ((aJ g1 (.inl rfl)).trans ((Goes.ao b2 _).trans ((aJ g3 (.inl rfl)).trans ((aJ g4 (.inr bc)).trans ((aJ g5 (.inl rfl)).trans ((aJ g6 (.inr bc)).trans (aJ gz (.inr a6))))))))
end
theorem de{S S':Nat->Prop}{a w:World}(h:Goes S a.drew S' w):Goes S a S' w:=⟨h.os,h.tape,h.output,h.size,h.aI,h.only⟩
theorem uq(b:Int)(l s:Int):(Program.built Tryz.prog 285 [(0,aE #[ag b,av l,av s])]).map Array.toList=some [I af b,I ak l,I ak s,.bool false]:=by kernel_rfl
theorem uR(b l s:Int)(w:World):(Instr.build 285 #[(0,aE #[ag b,av l,av s])]).run Tryz.prog w=.ok (aE #[ag b,av l,av s,.bool false]) w:=by
 obtain⟨cs,h1,h2⟩:=Option.map_eq_some_iff.1 (uq b l s);rw[run_build w 285 _ cs h1];rw[show cs=#[I af b,I ak l,I ak s,.bool false] from Array.toList_inj.1 h2]
theorem rY(T:Nat->Prop)(mb q long:Nat)(x:PId)(rest:List UInt8)(w:World)(hx:x.aH)(h:RW w T mb q long (bD x++rest))(hm:rest.length<=700000000):
 Calls Tryz.prog 230 #[aj mb] w λe w'=>e=.returned (dv x true)/\RW w' T mb q long rest/\Goes (cC q) w (cC q) w':=by
 have aE:=h.rd.h5;have az:=h.mlt;have hq:=h.tq;have hh:=h.wide;unfold bD at hh;rw[List.append_assoc]at hh;obtain⟨w0,ar⟩:=am (w.alloc (.cells #[ag 0,av 0,av 0,.bool false] 285));have ay:ai w0 w 285 #[ag 0,av 0,av 0,.bool false]:=by rw[ar];exact ai.made _ _ _
 have aU:=aV ar;obtain⟨rb,bh⟩:=am w.heap.size;rw[<-bh]at ay;have bn:=Lib.hid bh;have n1:=yy _ mb q long x _ w0 hx (hh.below aU) (by rw[List.length_append];have:=aG 1 (by omega);omega);unfold PId.val at n1;have bF:=λw=>uR x.au x.aq x.ax w;clear hh h bh;go_enter Tryz.func230,Tryz.ntmps230;go_wp2_with fail;rw[<-ar,<-bn.out];clear ar;refine n1.mono ?_;clear n1;rintro e w1 ⟨rfl,r1,g1⟩;have bq:rb≠q:=by have:=bn.out;omega
 have aM:rb≠mb:=by have:=bn.out;omega
 have bz:ai w1 rb 285 _:=ay.goes g1 bq;obtain⟨w2,a8⟩:=am (w1.alloc (.cells (dv x false) 285));have aA:ai w2 w1 285 (dv x false):=by rw[a8];exact ai.made _ _ _
 have b2:=aV a8;have bN:=bz.below b2 bz.lt;have h2:=r1.below b2;obtain⟨xb,a0⟩:=am w1.heap.size;rw[<-a0]at aA;have bj:=Lib.hid a0;have bc:w.heap.size<=xb:=by have:=aU.size;have:=g1.size;omega
 have aI:xb≠q:=by omega
 have aD:mb≠xb:=by omega
 have J:xb≠rb:=by have:=bz.lt;omega
 have aZ:=hz _ mb q long 1 2 rest w2 h2 (by omega) (by omega) (by omega);clear a0;go_wp2_with fail;rw[<-a8];clear a8;refine aZ.mono ?_;clear aZ;rintro e w3 ⟨rfl,a1,g3⟩;have aT:ai w3 xb 285 _:=aA.grown g3 (λe=>by injection e with e;omega);have b0:ai w3 rb 285 _:=bN.grown g3 (λe=>by injection e with e;omega);rw[bj.out]at aT;have bZ:=aT.put 3 (.bool true);have bP:=b0.dA (p:=⟨w1.heap.size,3,none⟩) (λe=>J (bj.out.trans e.symm)) (.bool true);simp only[List.setIfInBounds_toArray,List.set_cons_zero,List.set_cons_succ]at bZ;have f3:=aT.free 3;have bG:=aT.cell 3;simp at bG;obtain⟨ba,c1,c2,c3⟩:=bZ.c4;have aB:=bP.free 0;have e1:=bP.free 1;have a5:=bP.free 2;have e3:=bP.free 3;obtain⟨k0,k1,k2,k3⟩:=bP.c4;simp at ba c1 c2 c3 k0 k1 k2 k3;have h6:=a1.put (g:=w1.heap.size) (by rw[<-bj.out];exact aI) (by rw[<-bj.out];exact aD) (by rw[<-bj.out];exact .inr bc) 3 (.bool true);have g6:=aR w3 w1 3 (.bool true);go_wp2_with fail;obtain⟨w6,aY⟩:=am (w3.setCell ⟨w1.heap.size,3,none⟩ (.bool true));rw[<-aY]at bP h6 g6 ⊢;have cG:=(((bP.put 0 (ag x.au)).put 1 (av x.aq)).put 2 (av x.ax)).put 3 (.bool true);simp only[List.setIfInBounds_toArray,List.set_cons_zero,List.set_cons_succ]at cG;have gz:=bl rb (dv x true) w6 0;refine bodyPost_ret (results_cell_row rfl _ _ rb 285 _ (0,0) _ rfl cG Tryz.underlying285 rfl (by kernel_rfl)) rfl ?_;have a6:w.heap.size<=rb:=by rw[bn.out];exact Nat.le_refl _
 refine⟨rfl,(h6.app gz (λk hk=>by injection hk with hk;subst hk;exact⟨bq,aM,.inr a6⟩)).weak (λb a7=>.inl a7) hq,Goes.jc ?_⟩;exact(Goes.ao aU _).trans ((gn g1).trans ((Goes.ao b2 _).trans ((aJ g3 (.inl rfl)).trans ((aJ g6 (.inr (by rw[<-bj.out];exact bc))).trans (aJ gz (.inr a6))))))
theorem si(T:Nat->Prop)(mb q long:Nat)(vs:List PId)(rest:List UInt8)(w:World)(hm:vs.length<=16)(hg:∀x∈vs,x.aH)(h:RW w T mb q long (cK bD vs++rest))(hr:rest.length<=1000000)(J:(cK bD vs++rest).length<=long)(b9:long<=1000000):
 Calls Tryz.prog 229 #[aj mb,.func (.func 230) #[] #[]] w λe w'=>∃v,e=.returned v/\aD dm 285 w' w (λb=>b<w.heap.size) v vs/\RW w' T mb q long rest/\Goes (cC q) w (cC q) w':=by
 obtain⟨i0,z0,bM,bL,bB,bJ,bR⟩:=aS Tryz.sK;have bQ:=h.rd.h5;have bl:=h.mlt;have ai:=h.tq;have hlen:∀x∈vs,(bD x).length<=40:=λx hx=>ew (hg x hx);have aP:=h.wide;rw[show cK bD vs++rest=Pk.az vs.length++(e9 bD vs 0++rest) by rw[gG,cK,List.append_assoc]]at aP;have bh:=iF bD vs 0 40 hlen;have ad:(cK bD vs++rest).length=(Pk.az vs.length).length+(e9 bD vs 0).length+rest.length:=by
  rw[gG,cK,List.length_append,List.length_append]
 have n1:=hz _ mb q long vs.length 17 _ w aP (by omega) (by omega) (by rw[List.length_append];omega);have HG:=Lib.hid hg;have ar:=Lib.hid hlen;have bb:=Lib.hid J;have ah:=Lib.hid ad;obtain⟨n,aL⟩:=am vs.length;rw[<-aL]at n1 hm;have HN:=Lib.hid aL;clear aP bh h J hg hlen ad aL;go_enter Tryz.func229,Tryz.ntmps229;go_wp2_with fail;refine n1.mono ?_;clear n1;rintro e w1 ⟨rfl,aw,g1⟩;go_wp2_with fail;have af:Goes (λb=>b=q\/w.heap.size<=b) w (λb=>b=q\/w.heap.size<=b) w1:=aJ g1 (.inl rfl)
 go_loopw [5,8] (λv_ i_ wr=>∃i:Nat,i_=I ak i/\i<=n/\aD dm 285 wr w (λb=>b<w.heap.size) v_ (vs.take i)/\RW wr (λb=>T b\/w.heap.size<=b) mb q long (e9 bD vs i++rest)/\Goes (λb=>b=q\/w.heap.size<=b) w (λb=>b=q\/w.heap.size<=b) wr) (λ_ i _=>n- (intOf i).toNat)
 case atStart=>exact⟨0,rfl,by omega,aD.nil _ _ _ _ _,aw,af⟩
 case round=>
  obtain⟨i,rfl,hi,O,aa,M⟩:=hrel;by_cases bA:i<n
  ·have bu:i<vs.length:=(by have:=HN.out;omega);have bE:(i:Int)<(n:Int):=(by omega);have aX:=HG.out _ (List.getElem_mem bu);have a4:Hid (vs.take (i+1)=vs.take i++[vs[i]]):=List.take_succ_eq_append_getElem bu;have aW:(vs.take i).length=i:=(by rw[List.length_take];omega);have bh:=iF bD vs (i+1) 40 ar.out;have hle:(bD vs[i]).length<=long:=by
    have:=pE bD vs i bu;have:=bb.out;have:=ah.out;omega
   rw[l5 bD vs i bu,List.append_assoc]at aa;obtain⟨x,hx⟩:=am (vs[i]);rw[<-hx]at a4 aX aa hle;obtain⟨A3,n3,c3,rfl,a2,bY⟩:=O.form;have e3:n3=i:=(by rw[a2.out,aW]);subst e3;have rd:=rY _ mb q long x _ wr aX aa (by rw[List.length_append];have:=Nat.mul_le_mul_right 40 (show vs.length- (n3+1)<=16 by have:=HN.out;omega);omega);clear hx aX aa bh hle;go_wp2_with fail;refine rd.mono ?_;clear rd;rintro e w2 ⟨rfl,aT,g2⟩;have bC:=(Below.refl w2 w2).alloc (Nat.le_refl _) (.cells (dv x true) 285);have O2:=O.read g2 bQ (λb a7=>by have:=(O.lt a7).1;omega);have cD:w.heap.size<=w2.heap.size:=Nat.le_trans M.size g2.size;have bI:dm.R (w2.alloc (.cells (dv x true) 285)) (bm (λb=>b<w.heap.size) (Y A3 n3 c3)) (dv x true) x:=rfl;go_wp2_with (at_builtin;refine a9 _ rfl (.tmp 10) (.tmp 14) 231 rfl dm w 285 i0 z0 32 Tryz.underlying231 bM bL bJ bR bB (by decide) (λb=>b<w.heap.size) (Y A3 n3 c3) (vs.take n3) rfl (O2.below bC) (aj w2) 1 (dv x true) x rfl (Src.made w2 _ _) bI (by rw[aW];unfold maxLen;omega) (by rw[aW];omega) (by simp;omega) ?_;intro A6 bX w6 O6 cz gr aZ);rw[aW,<-a4.out]at O6;have aQ:∀k,(Value.slice A3 n3 c3).ownBlock=some k->w.heap.size<=k:=λk hk=>(O.lt hk).1;have ag:=(aT.below bC).app gr (λk hk=>⟨by have:=aQ k hk;omega,by have:=aQ k hk;omega,.inr (aQ k hk)⟩);have aq:Goes (λb=>b=q\/w.heap.size<=b) wr (λb=>b=q\/w.heap.size<=b) w6:=((gn g2).trans (Goes.ao bC _)).trans (bv gr (λk hk=>.inr (aQ k hk)))
   go_round
   case rel=>exact⟨n3+1,by go_num,by omega,O6,ag,M.trans aq⟩
   case measure=>simp[intOf];omega
  ·obtain rfl:i=n:=(by omega);rw[HN.out,List.take_length]at O;rw[HN.out,oq,List.nil_append]at aa;go_wp2;go_ret;exact⟨_,rfl,O,aa.weak (λb a7=>.inl a7) ai,Goes.jc M⟩
theorem bH{P:Program}{o:Oper}{a:Act}{w:World}{K:Act->World->Prop}{Q:Exit->Act->World->Prop}(ty:TypeId)(x y:Operand)(ho:o.op=.store ty x y)
 (g:Nat) (cells:Array Value) (hx:a.eval x=.pointer (aj g)) (hy:a.eval y=aE cells) (t:TypeId) (old:Array Value) (hg:ai w g t old) (hi:(P.info? ty).map (·.size)=some cells.size)
 (hold:old.size=cells.size) (h1:cells.all (·.oneCell')=true) (h:∀w',ai w' g t cells->w.grownBy w' (some g)->w'.heap.size=w.heap.size->K (a.put o.dst undef) w'):o.wp P a w K Q:=by
 refine wp_store_row ty x y ho g cells hx hy t old hg hi hold h1 ?_;have bA:=hg.lt;refine h _ ?_ ?_ ?_
 ·exact setRow_heap w g old cells t _ hg
 ·exact⟨rfl,rfl,rfl,by simp[World.setRow],λk hk ay=>by
   have:g≠k:=λe=>ay (by rw[e]);simp[World.setRow,Array.getElem?_modify,this]⟩
 ·simp[World.setRow]
theorem pF{P:Prop}(h:P:=by
 go_wp2_with fail;have RZ:=((((((((((((((((aF).put 0 (ag x.kind))).put 1 (ag x.id.au))).put 2 (av x.id.aq))).put 3 (av x.id.ax))).put 4 (ag x.ah))).put 5 (av x.sub))).put 6 (aa))).put 7 (Y A2 x.events.length c8));simp only[List.setIfInBounds_toArray,List.set_cons_zero,List.set_cons_succ]at RZ;have gz:=bl rb (a3 x A2 c8) w5 0;refine bodyPost_ret (results_cell_row rfl _ _ rb 132 _ (0,0) _ rfl RZ Tryz.underlying132 rfl (by kernel_rfl)) rfl ?_;exact⟨A2,c8,rfl,λS hS=>((aO (λb=>S b\/b=rb) (λb a7=>a7.imp (hS b) id)).goes (bv gz (λk hk=>by injection hk with hk;exact .inl (.inr hk.symm)))).weak (λb a7=>.inl (.inl a7)),(M.app gz (λk hk=>by injection hk with hk;subst hk;exact⟨bq,aM,.inr a6⟩)).weak (λb a7=>.inl a7) hq,Goes.jc ((Goes.ao aU _).trans (aJ.trans (bv gz (λk hk=>by injection hk with hk;subst hk;exact .inr a6))))⟩
 ):P:=h
theorem uz(T:Nat->Prop)(mb q long:Nat)(x:ae)(rest:List UInt8)(w:World)(hg:x.aH)(h:RW w T mb q long (a1 x++rest))(hm:rest.length<=700000000)(hle:(a1 x).length<=long)(b9:long<=1000000):
 Calls Tryz.prog 232 #[aj mb] w λe w'=>∃A2 c8,e=.returned (a3 x A2 c8)/\(∀S:Nat->Prop,(∀b,S b->b<w.heap.size)->SliceAt aN w' S A2 x.events)/\RW w' T mb q long rest/\Goes (cC q) w (cC q) w':=by
 have aE:=h.rd.h5;have az:=h.mlt;have hq:=h.tq;have hh:=h.wide;obtain⟨w0,ar⟩:=am (w.alloc (.cells cZ 132));have ay:ai w0 w 132 cZ:=by rw[ar];exact ai.made _ _ _
 have aU:=aV ar;obtain⟨rb,bh⟩:=am w.heap.size;rw[<-bh]at ay;have bn:=Lib.hid bh;have ak:=hh.below aU;have bV:x.enc.length<=long:=by unfold a1 Pk.aQ at hle;rw[List.length_append]at hle;omega
 have n1:=eZ _ q long x.enc rest w0 ak.tq bV b9 ak.rd (by omega);have N1:=λ(w0:World) (ak:RW w0 (λb=>T b\/w.heap.size<=b) mb q long (a1 x++rest))=>eZ _ q long x.enc rest w0 ak.tq bV b9 ak.rd (by omega);have N2:=λ(A:Option Addr) (n c:Nat) (w0:World) (aL:x.enc.length=n) (h:Src w0 A (aA x.enc))=>h7 A n c x w0 aL h hg;have aC:RW w0.drew _ mb q long (a1 x++rest):=⟨ak.rd,ak.r,ak.ne,ak.tq⟩;have HQ:=fm aE az aU.size;have bq:rb≠q:=by omega
 have aM:rb≠mb:=by omega
 have a6:w.heap.size<=rb:=by omega
 clear hh h bh hg hle bV n1;go_enter Tryz.func232,Tryz.ntmps232;go_wp2_with fail;rw[<-ar,<-bn.out];clear ar;refine wp_region_held_drew (S:=(λw'=>w'.cell? (aj mb)=some (.pointer (aj q))/\w'.cell? ⟨mb,1,none⟩=some (I af long))) (by kernel_rfl) (⟨by simpa using ak.r.cell 0,by simpa using ak.r.cell 1⟩) (λJ=>?_);refine tk 0 J ?_;refine tk 1 J ?_;refine tk 2 J ?_;refine tk 3 J ?_;refine tk 4 J ?_;refine tk 5 J ?_;refine tk 6 J ?_;refine tk 7 J ?_;refine wpAnyH_ready (rs:=[8,13]) (by kernel_rfl) (by simp) (AllReadyH.cons (by simp only[List.getElem?_toArray,List.getElem?_cons_succ,List.getElem?_cons_zero];rfl) (λK ad=>?_) (AllReadyH.cons (by simp only[List.getElem?_toArray,List.getElem?_cons_succ,List.getElem?_cons_zero];rfl) (λK ad=>?_) AllReadyH.nil))
 ·clear J;go_simp;refine(N1 _ aC).mono ?_;rintro e w1 ⟨u1,rfl,r1,ba,g1⟩;have aw:=RW.read aC g1 ba;obtain⟨A1,m1,k1,rfl,aK,bp⟩:=r1.open_;have aG:=r1.src.2
  try dsimp only
  refine ad.out _ _ (⟨aw.r.cell 0,aw.r.cell 1⟩) (λJ=>?_);clear ad K;refine wpAnyH_ready (rs:=[9,13]) (by kernel_rfl) (by simp) (AllReadyH.cons (by simp only[List.getElem?_toArray,List.getElem?_cons_succ,List.getElem?_cons_zero];rfl) (λK ad=>?_) (AllReadyH.cons (by simp only[List.getElem?_toArray,List.getElem?_cons_succ,List.getElem?_cons_zero];rfl) (λK ad=>?_) AllReadyH.nil))
  focus
   clear J;go_simp;refine(N2 A1 m1 k1 _ aK.out (aG)).mono ?_;rintro e w2 ⟨A2,c8,rfl,h2,b2⟩;unfold ae.cellsOf at ad ⊢
   try dsimp only
   have aT:=aw.below b2;refine ad.out _ _ (⟨aT.r.cell 0,aT.r.cell 1⟩) (λJ=>?_);clear ad K;refine tk 10 J ?_;refine tk 11 J ?_;refine tk 12 J ?_;refine aP 13 (λK ad=>?_);clear J;go_simp;have bC:=(Below.refl (w2).heap.size (w2)).alloc (Nat.le_refl _) (.cells cZ 132);have hN:ai ((w2).alloc (.cells cZ 132)) (w2).heap.size 132 cZ:=ai.made _ _ _;have aB:=aT.below bC;refine ad.out _ _ (⟨aB.r.cell 0,aB.r.cell 1⟩) (λJ=>?_);clear ad K;have bj:=λS hS=>(h2 S hS).below bC;have HB:=Lib.hid (show w0.heap.size<=w2.heap.size from Nat.le_trans g1.size b2.size);have gg:=((gn (B:=w.heap.size) g1).trans (Goes.ao b2 _)).trans (Goes.ao bC _);have HS:Hid (∀b,b<w.heap.size->b<w1.heap.size):=λb a7=>Nat.lt_of_lt_of_le a7 (Nat.le_trans aU.size g1.size);have b0:=((ay.goes (de g1) bq).below b2 (ay.goes (de g1) bq).lt).below bC ((ay.goes (de g1) bq).below b2 (ay.goes (de g1) bq).lt).lt;have aD:∀S:Nat->Prop,(∀b,S b->b<w.heap.size\/b=rb)->SliceAt aN _ (λb=>S b\/b=w2.heap.size) A2 x.events:=λS hS=>((h2 S (λb a7=>by have:=hS b a7;have:=bn.out;have:=HQ.out;have:=g1.size;have:=ay.lt;simp at*;omega)).cJ (λb a7 hs=>hs.elim id (λe=>by omega))).below bC;refine aP 14 (λK ad=>?_);clear J;refine bH 132 (.tmp 3) (.tmp 16) rfl _ (a3 x A2 c8) rfl rfl 132 _ hN (by kernel_rfl) rfl (by kernel_rfl) ?_;intro w5 bD gX bJ;have M:=aB.app gX (λk hk=>by injection hk with hk;subst hk;exact⟨by have:=HQ.out;have:=HB.out;omega,by have:=HQ.out;have:=HB.out;omega,.inr (by have:=HQ.out;have:=HB.out;omega)⟩);refine ad.out _ _ (⟨M.r.cell 0,M.r.cell 1⟩) (λJ=>?_);clear ad K;refine aP 15 (λK ad=>?_);clear J;go_simp;refine ad.out _ _ (⟨M.r.cell 0,M.r.cell 1⟩) (λJ=>?_);clear ad K;refine cB ?_ _;clear J;have aF:ai w5 rb 132 _:=b0.grown gX (λe=>by injection e with e;have:=HB.out;have:=ay.lt;omega);have bg:w.heap.size<=w2.heap.size:=(by have:=HQ.out;have:=HB.out;omega);have aJ:=(de gg).trans (bv gX (λk hk=>by injection hk with hk;subst hk;exact .inr bg));have aO:=λS hS=>(aD S hS).goes (bv gX (λk hk=>by injection hk with hk;exact .inr hk.symm));obtain⟨x0,x1,x2,x3,x4,x5,x6,x7⟩:=bD.c8;simp at x0 x1 x2 x3 x4 x5 x6 x7;obtain⟨r0,r1,bf,r3,r4,r5,r6,r7⟩:=aF.c8;have cj:=aF.free 0;have cf:=aF.free 1;have cd:=aF.free 2;have bW:=aF.free 3;have cb:=aF.free 4;have ce:=aF.free 5;have b6:=aF.free 6;have b4:=aF.free 7;simp at r0 r1 bf r3 r4 r5 r6 r7;have cg:w2.heap.size≠rb:=by have:=HB.out;have:=ay.lt;omega
  rotate_left
  focus
   clear J;go_simp;have bC:=(Below.refl (w1).heap.size (w1)).alloc (Nat.le_refl _) (.cells cZ 132);have hN:ai ((w1).alloc (.cells cZ 132)) (w1).heap.size 132 cZ:=ai.made _ _ _;have aT:=aw.below bC;refine ad.out _ _ (⟨aT.r.cell 0,aT.r.cell 1⟩) (λJ=>?_);clear ad K;refine aP 9 (λK ad=>?_);clear J;go_simp;refine(N2 A1 m1 k1 _ aK.out (aG.below bC)).mono ?_;rintro e w2 ⟨A2,c8,rfl,h2,b2⟩;unfold ae.cellsOf at ad ⊢
   try dsimp only
   have aB:=aT.below b2;have hN:=hN.below b2 hN.lt;refine ad.out _ _ (⟨aB.r.cell 0,aB.r.cell 1⟩) (λJ=>?_);clear ad K;refine tk 10 J ?_;refine tk 11 J ?_;refine tk 12 J ?_;have bj:=h2;have HB:=Lib.hid (show w0.heap.size<=w1.heap.size from g1.size);have gg:=((gn (B:=w.heap.size) g1).trans (Goes.ao bC _)).trans (Goes.ao b2 _);have HS:Hid (∀b,b<w.heap.size->b<(w1.alloc (.cells cZ 132)).heap.size):=λb a7=>Nat.lt_of_lt_of_le a7 (Nat.le_trans (Nat.le_trans aU.size g1.size) bC.size);have b0:=((ay.goes (de g1) bq).below bC (ay.goes (de g1) bq).lt).below b2 ((ay.goes (de g1) bq).below bC (ay.goes (de g1) bq).lt).lt;have aD:∀S:Nat->Prop,(∀b,S b->b<w.heap.size\/b=rb)->SliceAt aN _ (λb=>S b\/b=w1.heap.size) A2 x.events:=λS hS=>h2 _ (λb a7=>by have h1:=λh=>hS b h;have:=bn.out;have:=HQ.out;have:=g1.size;have:=ay.lt;have:=bC.size;rcases a7 with a7 | a7;(have:=h1 a7;simp at*;omega);(simp;omega));refine aP 14 (λK ad=>?_);clear J;refine bH 132 (.tmp 3) (.tmp 16) rfl _ (a3 x A2 c8) rfl rfl 132 _ hN (by kernel_rfl) rfl (by kernel_rfl) ?_;intro w5 bD gX bJ;have M:=aB.app gX (λk hk=>by injection hk with hk;subst hk;exact⟨by have:=HQ.out;have:=HB.out;omega,by have:=HQ.out;have:=HB.out;omega,.inr (by have:=HQ.out;have:=HB.out;omega)⟩);refine ad.out _ _ (⟨M.r.cell 0,M.r.cell 1⟩) (λJ=>?_);clear ad K;refine aP 15 (λK ad=>?_);clear J;go_simp;refine ad.out _ _ (⟨M.r.cell 0,M.r.cell 1⟩) (λJ=>?_);clear ad K;refine cB ?_ _;clear J;have aF:ai w5 rb 132 _:=b0.grown gX (λe=>by injection e with e;have:=HB.out;have:=ay.lt;omega);have bg:w.heap.size<=w1.heap.size:=(by have:=HQ.out;have:=HB.out;omega);have aJ:=(de gg).trans (bv gX (λk hk=>by injection hk with hk;subst hk;exact .inr bg));have aO:=λS hS=>(aD S hS).goes (bv gX (λk hk=>by injection hk with hk;exact .inr hk.symm));obtain⟨x0,x1,x2,x3,x4,x5,x6,x7⟩:=bD.c8;simp at x0 x1 x2 x3 x4 x5 x6 x7;obtain⟨r0,r1,bf,r3,r4,r5,r6,r7⟩:=aF.c8;have cj:=aF.free 0;have cf:=aF.free 1;have cd:=aF.free 2;have bW:=aF.free 3;have cb:=aF.free 4;have ce:=aF.free 5;have b6:=aF.free 6;have b4:=aF.free 7;simp at r0 r1 bf r3 r4 r5 r6 r7;have cg:w1.heap.size≠rb:=by have:=HB.out;have:=ay.lt;omega
  all_goals
   clear aD hN bC h2 HB gg gX;exact pF
 ·clear J;go_simp;have bC:=(Below.refl (w0.drew).heap.size (w0.drew)).alloc (Nat.le_refl _) (.cells cZ 132);have hN:ai ((w0.drew).alloc (.cells cZ 132)) (w0.drew).heap.size 132 cZ:=ai.made _ _ _;have aI:=aC.below bC;refine ad.out _ _ (⟨aI.r.cell 0,aI.r.cell 1⟩) (λJ=>?_);clear ad K;refine aP 8 (λK ad=>?_);clear J;go_simp;refine(N1 _ aI).mono ?_;rintro e w1 ⟨u1,rfl,r1,ba,g1⟩;have aw:=RW.read aI g1 ba;obtain⟨A1,m1,k1,rfl,aK,bp⟩:=r1.open_;have aG:=r1.src.2
  try dsimp only
  have hN:=hN.goes g1 (λe=>by have e:w0.heap.size=q:=e;have:=HQ.out;omega);refine ad.out _ _ (⟨aw.r.cell 0,aw.r.cell 1⟩) (λJ=>?_);clear ad K;refine aP 9 (λK ad=>?_);clear J;go_simp;refine(N2 A1 m1 k1 _ aK.out (aG)).mono ?_;rintro e w2 ⟨A2,c8,rfl,h2,b2⟩;unfold ae.cellsOf at ad ⊢
  try dsimp only
  have aB:=aw.below b2;have hN:=hN.below b2 hN.lt;refine ad.out _ _ (⟨aB.r.cell 0,aB.r.cell 1⟩) (λJ=>?_);clear ad K;refine tk 10 J ?_;refine tk 11 J ?_;refine tk 12 J ?_;have bj:=h2;have HB:=Lib.hid (show w0.heap.size<=w0.drew.heap.size from Nat.le_refl _);have gg:=((Goes.ao bC _).trans (gn (B:=w.heap.size) g1)).trans (Goes.ao b2 _);have HS:Hid (∀b,b<w.heap.size->b<w1.heap.size):=λb a7=>Nat.lt_of_lt_of_le a7 (Nat.le_trans aU.size (Nat.le_trans bC.size g1.size));have b0:=((ai.below (w:=w0.drew) ay bC ay.lt).goes g1 bq).below b2 ((ai.below (w:=w0.drew) ay bC ay.lt).goes g1 bq).lt;have aD:∀S:Nat->Prop,(∀b,S b->b<w.heap.size\/b=rb)->SliceAt aN _ (λb=>S b\/b=w0.drew.heap.size) A2 x.events:=λS hS=>h2 _ (λb a7=>by have h1:=λh=>hS b h;have:=bn.out;have:=HQ.out;have hg:=g1.size;have:=ay.lt;rcases a7 with a7 | a7;(have:=h1 a7;simp at*;omega);(simp at*;omega));refine aP 14 (λK ad=>?_);clear J;refine bH 132 (.tmp 3) (.tmp 16) rfl _ (a3 x A2 c8) rfl rfl 132 _ hN (by kernel_rfl) rfl (by kernel_rfl) ?_;intro w5 bD gX bJ;have M:=aB.app gX (λk hk=>by injection hk with hk;subst hk;exact⟨by have:=HQ.out;have:=HB.out;omega,by have:=HQ.out;have:=HB.out;omega,.inr (by have:=HQ.out;have:=HB.out;omega)⟩);refine ad.out _ _ (⟨M.r.cell 0,M.r.cell 1⟩) (λJ=>?_);clear ad K;refine aP 15 (λK ad=>?_);clear J;go_simp;refine ad.out _ _ (⟨M.r.cell 0,M.r.cell 1⟩) (λJ=>?_);clear ad K;refine cB ?_ _;clear J;have aF:ai w5 rb 132 _:=b0.grown gX (λe=>by injection e with e;have:=HB.out;have:=ay.lt;omega);have bg:w.heap.size<=w0.drew.heap.size:=(by have:=HQ.out;have:=HB.out;omega);have aJ:=(de gg).trans (bv gX (λk hk=>by injection hk with hk;subst hk;exact .inr bg));have aO:=λS hS=>(aD S hS).goes (bv gX (λk hk=>by injection hk with hk;exact .inr hk.symm));obtain⟨x0,x1,x2,x3,x4,x5,x6,x7⟩:=bD.c8;simp at x0 x1 x2 x3 x4 x5 x6 x7;obtain⟨r0,r1,bf,r3,r4,r5,r6,r7⟩:=aF.c8;have cj:=aF.free 0;have cf:=aF.free 1;have cd:=aF.free 2;have bW:=aF.free 3;have cb:=aF.free 4;have ce:=aF.free 5;have b6:=aF.free 6;have b4:=aF.free 7;simp at r0 r1 bf r3 r4 r5 r6 r7;have cg:w0.drew.heap.size≠rb:=(by have:=HB.out;have:=ay.lt;omega);clear aD hN bC h2 HB gg gX;exact pF
theorem ka(T:Nat->Prop)(mb q long:Nat)(vs:List ae)(rest:List UInt8)(w:World)(hm:vs.length<=16)(hg:∀x∈vs,x.aH)(h:RW w T mb q long (cK a1 vs++rest))(hr:rest.length<=1000000)(J:(cK a1 vs++rest).length<=long)(b9:long<=1000000):
 Calls Tryz.prog 231 #[aj mb,.func (.func 232) #[] #[]] w λe w'=>∃v,e=.returned v/\aD aB 132 w' w (λb=>b<w.heap.size) v vs/\RW w' T mb q long rest/\Goes (cC q) w (cC q) w':=by
 obtain⟨i0,z0,bM,bL,bB,bJ,bR⟩:=aS Tryz.dJ;have bQ:=h.rd.h5;have bl:=h.mlt;have ai:=h.tq;have hlen:∀x∈vs,(a1 x).length<=14000:=λx hx=>cq (hg x hx);have aP:=h.wide;rw[show cK a1 vs++rest=Pk.az vs.length++(e9 a1 vs 0++rest) by rw[gG,cK,List.append_assoc]]at aP;have bh:=iF a1 vs 0 14000 hlen;have ad:(cK a1 vs++rest).length=(Pk.az vs.length).length+(e9 a1 vs 0).length+rest.length:=by
  rw[gG,cK,List.length_append,List.length_append]
 have n1:=hz _ mb q long vs.length 17 _ w aP (by omega) (by omega) (by rw[List.length_append];omega);have HG:=Lib.hid hg;have ar:=Lib.hid hlen;have bb:=Lib.hid J;have ah:=Lib.hid ad;obtain⟨n,aL⟩:=am vs.length;rw[<-aL]at n1 hm;have HN:=Lib.hid aL;clear aP bh h J hg hlen ad aL;go_enter Tryz.func231,Tryz.ntmps231;go_wp2_with fail;refine n1.mono ?_;clear n1;rintro e w1 ⟨rfl,aw,g1⟩;go_wp2_with fail;have af:Goes (λb=>b=q\/w.heap.size<=b) w (λb=>b=q\/w.heap.size<=b) w1:=aJ g1 (.inl rfl)
 go_loopw [5,8] (λv_ i_ wr=>∃i:Nat,i_=I ak i/\i<=n/\aD aB 132 wr w (λb=>b<w.heap.size) v_ (vs.take i)/\RW wr (λb=>T b\/w.heap.size<=b) mb q long (e9 a1 vs i++rest)/\Goes (λb=>b=q\/w.heap.size<=b) w (λb=>b=q\/w.heap.size<=b) wr) (λ_ i _=>n- (intOf i).toNat)
 case atStart=>exact⟨0,rfl,by omega,aD.nil _ _ _ _ _,aw,af⟩
 case round=>
  obtain⟨i,rfl,hi,O,aa,M⟩:=hrel;by_cases bA:i<n
  ·have bu:i<vs.length:=(by have:=HN.out;omega);have bE:(i:Int)<(n:Int):=(by omega);have aX:=HG.out _ (List.getElem_mem bu);have a4:Hid (vs.take (i+1)=vs.take i++[vs[i]]):=List.take_succ_eq_append_getElem bu;have aW:(vs.take i).length=i:=(by rw[List.length_take];omega);have bh:=iF a1 vs (i+1) 14000 ar.out;have hle:(a1 vs[i]).length<=long:=by
    have:=pE a1 vs i bu;have:=bb.out;have:=ah.out;omega
   rw[l5 a1 vs i bu,List.append_assoc]at aa;obtain⟨x,hx⟩:=am (vs[i]);rw[<-hx]at a4 aX aa hle;obtain⟨A3,n3,c3,rfl,a2,bY⟩:=O.form;have e3:n3=i:=(by rw[a2.out,aW]);subst e3;have rd:=uz _ mb q long x _ wr aX aa (by rw[List.length_append];have:=Nat.mul_le_mul_right 14000 (show vs.length- (n3+1)<=16 by have:=HN.out;omega);omega) hle b9;clear hx aX aa bh hle;go_wp2_with fail;refine rd.mono ?_;clear rd;rintro e w2 ⟨A2,c8,rfl,h2,aT,g2⟩;have bC:=(Below.refl w2 w2).alloc (Nat.le_refl _) (.cells (a3 x A2 c8) 132);have O2:=O.read g2 bQ (λb a7=>by have:=(O.lt a7).1;omega);have cD:w.heap.size<=w2.heap.size:=Nat.le_trans M.size g2.size;have bI:aB.R (w2.alloc (.cells (a3 x A2 c8) 132)) (bm (λb=>b<w.heap.size) (Y A3 n3 c3)) (a3 x A2 c8) x:=
    ⟨A2,c8,rfl,((h2 (bm (λb=>b<w.heap.size) (Y A3 n3 c3)) (λb a7=>by
     rcases a7 with a7 | a7
     ·have:=M.size;omega
     ·exact(O.lt a7).2)).below bC)⟩
   go_wp2_with (at_builtin;refine a9 _ rfl (.tmp 10) (.tmp 14) 46 rfl aB w 132 i0 z0 96 Tryz.underlying46 bM bL bJ bR bB (by decide) (λb=>b<w.heap.size) (Y A3 n3 c3) (vs.take n3) rfl (O2.below bC) (aj w2) 1 (a3 x A2 c8) x rfl (Src.made w2 _ _) bI (by rw[aW];unfold maxLen;omega) (by rw[aW];omega) (by simp;omega) ?_;intro A6 bX w6 O6 cz gr aZ);rw[aW,<-a4.out]at O6;have aQ:∀k,(Value.slice A3 n3 c3).ownBlock=some k->w.heap.size<=k:=λk hk=>(O.lt hk).1;have ag:=(aT.below bC).app gr (λk hk=>⟨by have:=aQ k hk;omega,by have:=aQ k hk;omega,.inr (aQ k hk)⟩);have aq:Goes (λb=>b=q\/w.heap.size<=b) wr (λb=>b=q\/w.heap.size<=b) w6:=((gn g2).trans (Goes.ao bC _)).trans (bv gr (λk hk=>.inr (aQ k hk)))
   go_round
   case rel=>exact⟨n3+1,by go_num,by omega,O6,ag,M.trans aq⟩
   case measure=>simp[intOf];omega
  ·obtain rfl:i=n:=(by omega);rw[HN.out,List.take_length]at O;rw[HN.out,oq,List.nil_append]at aa;go_wp2;go_ret;exact⟨_,rfl,O,aa.weak (λb a7=>.inl a7) ai,Goes.jc M⟩
theorem ox(T:Nat->Prop)(mb q long:Nat)(rest:List UInt8)(w:World)(h:RW w T mb q long (Pk.az 0++rest))(hr:rest.length<=1000000):
 Calls Tryz.prog 233 #[aj mb,.func (.func 234) #[] #[]] w λe w'=>e=.returned aa/\RW w' T mb q long rest/\Goes (cC q) w (cC q) w':=by
 have n1:=hz _ mb q long 0 17 rest w h (by omega) (by omega) (by omega);clear h;go_enter Tryz.func233,Tryz.ntmps233;go_wp2_with fail;refine n1.mono ?_;clear n1;rintro e w1 ⟨rfl,aw,g1⟩;go_wp2_with fail
 go_loopw [5,8] (λv_ i_ wr=>i_=I ak 0/\v_=aa/\wr=w1) (λ_ i _=>0)
 case atStart=>exact⟨rfl,rfl,rfl⟩
 case round=>
  obtain⟨rfl,rfl,rfl⟩:=hrel;go_wp2;go_ret;exact⟨rfl,aw,aJ g1 rfl⟩
theorem dQ{α:Type}{f:α->List UInt8}(l:List α)(n K:Nat)(aL:l.length<=n)(h:∀x∈l,(f x).length<=K)(aO:n<=100:=by omega):(cK f l).length<=9+n*K:=by
 unfold cK;rw[List.length_append];have:=aG l.length (by omega);have h2:=lq f l l.length K h;unfold part at h2;rw[List.take_length]at h2;have:=Nat.mul_le_mul_right K aL;omega
theorem pL{P:Prop}(h:P:=by
 obtain⟨aJ,aS,aQ,aN,ax,aM,aT,aY⟩:=hC.c8;simp at aJ aS aQ aN ax aM aT aY;go_enter Tryz.func207,Tryz.ntmps207;go_wp2_with fail;rw[<-ar]
 try rw[<-aF.out]
 clear ar;refine(C0 w0 aU).mono ?_;rintro e w1 ⟨rfl,bF⟩;have bB:=aU.trans (bF.mono aU.size);have ad:=hC.below bF hC.lt;clear aJ aS aQ aN ax aM aT aY;obtain⟨a9,bu,bt,bp,bm,bh,bc,bq⟩:=ad.c8;simp at a9 bu bt bp bm bh bc bq;go_wp2_with fail;refine(C1 w1 bB).mono ?_;rintro e w2 ⟨rfl,bE⟩;have a4:=bB.trans (bE.mono bB.size);have af:=ad.below bE ad.lt;clear a9 bu bt bp bm bh bc bq;obtain⟨aG,aR,aq,aw,bd,aW,aC,bk⟩:=af.c8;simp at aG aR aq aw bd aW aC bk;go_wp2_with fail;refine(C2 w2 a4).mono ?_;rintro e w3 ⟨rfl,bH⟩;have a6:=a4.trans (bH.mono a4.size);have J:=af.below bH af.lt;clear aG aR aq aw bd aW aC bk;obtain⟨bn,aP,ao,bo,bi,aD,a8,az⟩:=J.c8;simp at bn aP ao bo bi aD a8 az;go_wp2_with fail;refine(C3 w3 a6).mono ?_;rintro e w4 ⟨rfl,bD⟩;have a2:=a6.trans (bD.mono a6.size);have aj:=J.below bD J.lt;clear bn aP ao bo bi aD a8 az;obtain⟨bg,ak,bf,bj,aA,aL,bz,bx⟩:=aj.c8;simp at bg ak bf bj aA aL bz bx;go_wp2_with fail;refine(C4 w4 a2).mono ?_;rintro e w5 ⟨rfl,bC⟩;have a0:=a2.trans (bC.mono a2.size);have I:=aj.below bC aj.lt;clear bg ak bf bj aA aL bz bx;obtain⟨br,bs,aI,bl,bb,ba,aZ,a1⟩:=I.c8;simp at br bs aI bl bb ba aZ a1;go_wp2_with fail;refine(C5 w5 a0).mono ?_;rintro e w6 ⟨rfl,bG⟩;have bv:=a0.trans (bG.mono a0.size);have bI:=I.below bG I.lt;clear br bs aI bl bb ba aZ a1;go_wp2;go_ret;exact⟨rfl,bv⟩
 ):P:=h
theorem lU(S:Nat->Prop)(nv na hv:Nat)(a5:List PId)(asks:List ae)(a:fu)(w:World)(ay:nv=a5.length)(ah:nv<=16)(aO:SliceAt dm w S a.A1 a5)(au:∀x∈a5,x.aH)(a3:na=asks.length)(cD:na<=16)(aX:SliceAt aB w S a.A2 asks)(aK:∀x∈asks,x.aH):
 Calls Tryz.prog 207 #[aE #[ag 1,av hv,Y a.A1 nv a.c1,Y a.A2 na a.c2,Y a.A3 0 a.c3,Y a.A4 0 a.c4,aa,aa]] w λe w'=>e=.returned (ag 0)/\Below w w w':=by
 obtain⟨w0,ar⟩:=am (w.alloc (.cells #[ag 1,av hv,Y a.A1 nv a.c1,Y a.A2 na a.c2,Y a.A3 0 a.c3,Y a.A4 0 a.c4,aa,aa] 233));have hC:ai w0 w 233 #[ag 1,av hv,Y a.A1 nv a.c1,Y a.A2 na a.c2,Y a.A3 0 a.c3,Y a.A4 0 a.c4,aa,aa]:=by rw[ar];exact ai.made _ _ _
 have aU:=aV ar;obtain⟨cb,M⟩:=am w.heap.size;rw[<-M]at hC;have aF:=Lib.hid M;clear M;have C0:=λ(w':World) (a7:Below w w w')=>o7 S a.A1 nv a.c1 a5 w' ay ah (aO.below a7) au;have C1:=λ(w':World) (a7:Below w w w')=>ik S a.A2 na a.c2 asks w' a3 cD (aX.below a7) aK;have C2:=λ(w':World) (a7:Below w w w')=>ik S a.A3 0 a.c3 [] w' rfl (by omega) (SliceAt.nil _ _ _ _) (λ_ h=>by cases h);have C3:=λ(w':World) (a7:Below w w w')=>ik S a.A4 0 a.c4 [] w' rfl (by omega) (SliceAt.nil _ _ _ _) (λ_ h=>by cases h);have C4:=λ(w':World) (a7:Below w w w')=>all_none w';have C5:=λ(w':World) (a7:Below w w w')=>all_none w';clear aO ay au aX a3 aK;exact pL
theorem mh(S:Nat->Prop)(ne np hv:Nat)(entries aK:List ae)(a:fu)(w:World)(ay:ne=entries.length)(ct:ne<=16)(bw:SliceAt aB w S a.A3 entries)(a3:∀x∈entries,x.aH)(ah:np=aK.length)(bA:np<=16)(aX:SliceAt aB w S a.A4 aK)(au:∀x∈aK,x.aH):
 Calls Tryz.prog 207 #[aE #[ag 2,av hv,Y a.A1 0 a.c1,Y a.A2 0 a.c2,Y a.A3 ne a.c3,Y a.A4 np a.c4,aa,aa]] w λe w'=>e=.returned (ag 0)/\Below w w w':=by
 obtain⟨w0,ar⟩:=am (w.alloc (.cells #[ag 2,av hv,Y a.A1 0 a.c1,Y a.A2 0 a.c2,Y a.A3 ne a.c3,Y a.A4 np a.c4,aa,aa] 233));have hC:ai w0 w 233 #[ag 2,av hv,Y a.A1 0 a.c1,Y a.A2 0 a.c2,Y a.A3 ne a.c3,Y a.A4 np a.c4,aa,aa]:=by rw[ar];exact ai.made _ _ _
 have aU:=aV ar;obtain⟨cb,M⟩:=am w.heap.size;rw[<-M]at hC;have aF:=Lib.hid M;clear M;have C0:=λ(w':World) (a7:Below w w w')=>o7 S a.A1 0 a.c1 [] w' rfl (by omega) (SliceAt.nil _ _ _ _) (λ_ h=>by cases h);have C1:=λ(w':World) (a7:Below w w w')=>ik S a.A2 0 a.c2 [] w' rfl (by omega) (SliceAt.nil _ _ _ _) (λ_ h=>by cases h);have C2:=λ(w':World) (a7:Below w w w')=>ik S a.A3 ne a.c3 entries w' ay ct (bw.below a7) a3;have C3:=λ(w':World) (a7:Below w w w')=>ik S a.A4 np a.c4 aK w' ah bA (aX.below a7) au;have C4:=λ(w':World) (a7:Below w w w')=>all_none w';have C5:=λ(w':World) (a7:Below w w w')=>all_none w';clear bw ay a3 aX ah au;exact pL
theorem yd(S:Nat->Prop)(nv na hv:Nat)(a5:List PId)(asks:List ae)(a:fu)(w:World)(cr:hv<18446744073709551616)(ay:nv=a5.length)(ah:nv<=16)(aO:SliceAt dm w S a.A1 a5)(au:∀x∈a5,x.aH)(a3:na=asks.length)(cD:na<=16)(aX:SliceAt aB w S a.A2 asks)(aK:∀x∈asks,x.aH):
 Calls Tryz.prog 162 #[aE #[ag 1,av hv,Y a.A1 nv a.c1,Y a.A2 na a.c2,Y a.A3 0 a.c3,Y a.A4 0 a.c4,aa,aa]] w λe w'=>∃u,e=.returned (.tuple #[u,ag 0])/\Row w' w u (Pk.az 1++(Pk.az hv++(cK bD a5++(cK a1 asks++[]))))/\Below w w w':=by
 obtain⟨w0,ar⟩:=am (w.alloc (.cells #[ag 1,av hv,Y a.A1 nv a.c1,Y a.A2 na a.c2,Y a.A3 0 a.c3,Y a.A4 0 a.c4,aa,aa] 233));have hC:ai w0 w 233 #[ag 1,av hv,Y a.A1 nv a.c1,Y a.A2 na a.c2,Y a.A3 0 a.c3,Y a.A4 0 a.c4,aa,aa]:=by rw[ar];exact ai.made _ _ _
 have aU:=aV ar;obtain⟨cb,M⟩:=am w.heap.size;rw[<-M]at hC;have aF:=Lib.hid M;clear M;have ck:=lU S nv na hv a5 asks a w0 ay ah (aO.below aU) au a3 cD (aX.below aU) aK;have L0:=aG 0 (by omega);have L1:=aG hv cr;have L2:=aG 1 (by omega);have M0:=dQ (f:=bD) a5 16 40 (by omega) (λx hx=>ew (au x hx));have M1:=dQ (f:=a1) asks 16 14000 (by omega) (λx hx=>cq (aK x hx));have Y0:=λ(A:Option Addr) (n c:Nat) (l:List UInt8) (w':World) (a7:Below w w w') (aL:l.length=n) (hs:Src w' A (aA l)) (hm:n<=10000000)=>uB S A a.A1 n c nv a.c1 _ a5 w' aL hs hm ay ah (aO.below a7) au;have Y1:=λ(A:Option Addr) (n c:Nat) (l:List UInt8) (w':World) (a7:Below w w w') (aL:l.length=n) (hs:Src w' A (aA l)) (hm:n<=10000000)=>ln S A a.A2 n c na a.c2 _ asks w' aL hs hm a3 cD (aX.below a7) aK;clear aO ay au aX a3 aK;have n1:=λ(w:World)=>b7 none 0 0 1 [] w rfl (by omega) (.inl rfl) (by omega);obtain⟨aJ,aS,aQ,aN,ax,aM,aT,aY⟩:=hC.c8;simp at aJ aS aQ aN ax aM aT aY;have g1:((1:Int)==1)=true:=by decide
 go_enter Tryz.func162,Tryz.ntmps162;go_wp2_with fail;rw[<-ar]
 try rw[<-aF.out]
 clear ar;refine ck.mono ?_;clear ck;rintro e w1 ⟨rfl,b1⟩;have a4:=aU.trans (b1.mono aU.size);have ao:=hC.below b1 hC.lt;clear aJ aS aQ aN ax aM aT aY;go_wp2_with fail;refine wp_region_held_drew (S:=(λw'=>w'.cell? (aj cb)=some (I af 1)/\w'.cell? ⟨cb,1,none⟩=some (I ak hv))) (by kernel_rfl) (⟨by simpa using ao.cell 0,by simpa using ao.cell 1⟩) (λJ=>?_);refine tk 0 J ?_;refine tk 1 J ?_;refine tk 2 J ?_;refine tk 4 J ?_;refine tk 5 J ?_;refine aP 3 (λK ad=>?_);clear J;go_simp;refine(n1 _).mono ?_;clear n1;rintro e w2 ⟨u2,rfl,bf,b2⟩;have b2:=a8 b2;have aI:=ao.below b2 ao.lt;have a6:=a4.trans (b2.mono a4.size);obtain⟨A2,m2,k2,rfl,a9,aq⟩:=bf.open_;have b9:m2<=9:=by rw[<-a9.out];simpa using L2
 have aZ:=b7 A2 m2 k2 hv _ w2 a9.out cr bf.src.2 (by omega)
 try dsimp only
 refine ad.out _ _ (⟨by simpa using aI.cell 0,by simpa using aI.cell 1⟩) (λJ=>?_);clear ad K;refine aP 6 (λK ad=>?_);clear J;go_simp;refine aZ.mono ?_;clear aZ;rintro e w3 ⟨u3,rfl,r3,b3⟩;have aw:=aI.below b3 aI.lt;have a2:=a6.trans (b3.mono a6.size)
 try dsimp only
 refine ad.out _ _ (⟨by simpa using aw.cell 0,by simpa using aw.cell 1⟩) (λJ=>?_);clear ad K;refine aP 7 (λK ad=>?_);clear J;go_simp;refine ad.out _ _ (⟨by simpa using aw.cell 0,by simpa using aw.cell 1⟩) (λJ=>?_);clear ad K;refine cB ?_ _;clear J;obtain⟨A3,m3,k3,rfl,aD,cp⟩:=r3.open_;have bh:m3<=18:=by rw[<-aD.out,List.length_append,a9.out];omega
 obtain⟨bo,bg,bc,bb,bu,bq,bj,br⟩:=aw.c8;simp at bo bg bc bb bu bq bj br;clear ao aI;have y4:=Y0 A3 m3 k3 _ w3 a2 aD.out r3.src.2 (by omega);go_wp2_with fail;refine y4.mono ?_;clear y4 Y0 bo bg bc bb bu bq bj br;rintro e w4 ⟨u4,rfl,r4,bK⟩;have a0:=a2.trans (bK.mono a2.size);have aW:=aw.below bK aw.lt;obtain⟨A4,m4,k4,rfl,aR,bR⟩:=r4.open_;have bV:m4<=718:=by rw[<-aR.out,List.length_append,aD.out];omega
 obtain⟨bi,bn,ba,bd,bs,bl,bp,bk⟩:=aW.c8;simp at bi bn ba bd bs bl bp bk;have y5:=Y1 A4 m4 k4 _ w4 a0 aR.out r4.src.2 (by omega);go_wp2_with fail;refine y5.mono ?_;clear y5 Y1 bi bn ba bd bs bl bp bk;rintro e w5 ⟨u5,rfl,r5,bS⟩;have bv:=a0.trans (bS.mono a0.size);have aC:=aW.below bS aW.lt;go_wp2;go_ret2;refine⟨_,rfl,?_,bv⟩;have rr:=r5.mono a0.size;simpa using rr
theorem wL(S:Nat->Prop)(ne np hv:Nat)(entries aK:List ae)(a:fu)(w:World)(cr:hv<18446744073709551616)(ay:ne=entries.length)(ct:ne<=16)(bw:SliceAt aB w S a.A3 entries)(a3:∀x∈entries,x.aH)(ah:np=aK.length)(bA:np<=16)(aX:SliceAt aB w S a.A4 aK)(au:∀x∈aK,x.aH):
 Calls Tryz.prog 162 #[aE #[ag 2,av hv,Y a.A1 0 a.c1,Y a.A2 0 a.c2,Y a.A3 ne a.c3,Y a.A4 np a.c4,aa,aa]] w λe w'=>∃u,e=.returned (.tuple #[u,ag 0])/\Row w' w u (Pk.az 2++(Pk.az hv++(cK a1 entries++(cK a1 aK++(Pk.az 0++(Pk.az 0++[]))))))/\Below w w w':=by
 obtain⟨w0,ar⟩:=am (w.alloc (.cells #[ag 2,av hv,Y a.A1 0 a.c1,Y a.A2 0 a.c2,Y a.A3 ne a.c3,Y a.A4 np a.c4,aa,aa] 233));have hC:ai w0 w 233 #[ag 2,av hv,Y a.A1 0 a.c1,Y a.A2 0 a.c2,Y a.A3 ne a.c3,Y a.A4 np a.c4,aa,aa]:=by rw[ar];exact ai.made _ _ _
 have aU:=aV ar;obtain⟨cb,M⟩:=am w.heap.size;rw[<-M]at hC;have aF:=Lib.hid M;clear M;have ck:=mh S ne np hv entries aK a w0 ay ct (bw.below aU) a3 ah bA (aX.below aU) au;have L0:=aG 0 (by omega);have L1:=aG hv cr;have L2:=aG 2 (by omega);have M0:=dQ (f:=a1) entries 16 14000 (by omega) (λx hx=>cq (a3 x hx));have M1:=dQ (f:=a1) aK 16 14000 (by omega) (λx hx=>cq (au x hx));have Y0:=λ(A:Option Addr) (n c:Nat) (l:List UInt8) (w':World) (a7:Below w w w') (aL:l.length=n) (hs:Src w' A (aA l)) (hm:n<=10000000)=>ln S A a.A3 n c ne a.c3 _ entries w' aL hs hm ay ct (bw.below a7) a3;have Y1:=λ(A:Option Addr) (n c:Nat) (l:List UInt8) (w':World) (a7:Below w w w') (aL:l.length=n) (hs:Src w' A (aA l)) (hm:n<=10000000)=>ln S A a.A4 n c np a.c4 _ aK w' aL hs hm ah bA (aX.below a7) au;have Y2:=λ(A:Option Addr) (n c:Nat) (l:List UInt8) (w':World) (a7:Below w w w') (aL:l.length=n) (hs:Src w' A (aA l)) (hm:n<=10000000)=>pN A n c _ w' aL hs hm;have Y3:=λ(A:Option Addr) (n c:Nat) (l:List UInt8) (w':World) (a7:Below w w w') (aL:l.length=n) (hs:Src w' A (aA l)) (hm:n<=10000000)=>pN A n c _ w' aL hs hm;clear bw ay a3 aX ah au;have n1:=λ(w:World)=>b7 none 0 0 2 [] w rfl (by omega) (.inl rfl) (by omega);obtain⟨aJ,aS,aQ,aN,ax,aM,aT,aY⟩:=hC.c8;simp at aJ aS aQ aN ax aM aT aY;have g1:((2:Int)==1)=false:=by decide
 go_enter Tryz.func162,Tryz.ntmps162;go_wp2_with fail;rw[<-ar]
 try rw[<-aF.out]
 clear ar;refine ck.mono ?_;clear ck;rintro e w1 ⟨rfl,b1⟩;have a4:=aU.trans (b1.mono aU.size);have ao:=hC.below b1 hC.lt;clear aJ aS aQ aN ax aM aT aY;go_wp2_with fail;refine wp_region_held_drew (S:=(λw'=>w'.cell? (aj cb)=some (I af 2)/\w'.cell? ⟨cb,1,none⟩=some (I ak hv))) (by kernel_rfl) (⟨by simpa using ao.cell 0,by simpa using ao.cell 1⟩) (λJ=>?_);refine tk 0 J ?_;refine tk 1 J ?_;refine tk 2 J ?_;refine tk 4 J ?_;refine tk 5 J ?_;refine aP 3 (λK ad=>?_);clear J;go_simp;refine(n1 _).mono ?_;clear n1;rintro e w2 ⟨u2,rfl,bf,b2⟩;have b2:=a8 b2;have aI:=ao.below b2 ao.lt;have a6:=a4.trans (b2.mono a4.size);obtain⟨A2,m2,k2,rfl,a9,aq⟩:=bf.open_;have b9:m2<=9:=by rw[<-a9.out];simpa using L2
 have aZ:=b7 A2 m2 k2 hv _ w2 a9.out cr bf.src.2 (by omega)
 try dsimp only
 refine ad.out _ _ (⟨by simpa using aI.cell 0,by simpa using aI.cell 1⟩) (λJ=>?_);clear ad K;refine aP 6 (λK ad=>?_);clear J;go_simp;refine aZ.mono ?_;clear aZ;rintro e w3 ⟨u3,rfl,r3,b3⟩;have aw:=aI.below b3 aI.lt;have a2:=a6.trans (b3.mono a6.size)
 try dsimp only
 refine ad.out _ _ (⟨by simpa using aw.cell 0,by simpa using aw.cell 1⟩) (λJ=>?_);clear ad K;refine aP 7 (λK ad=>?_);clear J;go_simp;refine ad.out _ _ (⟨by simpa using aw.cell 0,by simpa using aw.cell 1⟩) (λJ=>?_);clear ad K;refine cB ?_ _;clear J;obtain⟨A3,m3,k3,rfl,aD,cp⟩:=r3.open_;have bh:m3<=18:=by rw[<-aD.out,List.length_append,a9.out];omega
 obtain⟨bo,bg,bc,bb,bu,bq,bj,br⟩:=aw.c8;simp at bo bg bc bb bu bq bj br;clear ao aI;have y4:=Y0 A3 m3 k3 _ w3 a2 aD.out r3.src.2 (by omega);go_wp2_with fail;refine y4.mono ?_;clear y4 Y0 bo bg bc bb bu bq bj br;rintro e w4 ⟨u4,rfl,r4,bK⟩;have a0:=a2.trans (bK.mono a2.size);have aW:=aw.below bK aw.lt;obtain⟨A4,m4,k4,rfl,aR,bR⟩:=r4.open_;have bV:m4<=230018:=by rw[<-aR.out,List.length_append,aD.out];omega
 obtain⟨bi,bn,ba,bd,bs,bl,bp,bk⟩:=aW.c8;simp at bi bn ba bd bs bl bp bk;have y5:=Y1 A4 m4 k4 _ w4 a0 aR.out r4.src.2 (by omega);go_wp2_with fail;refine y5.mono ?_;clear y5 Y1 bi bn ba bd bs bl bp bk;rintro e w5 ⟨u5,rfl,r5,bS⟩;have bv:=a0.trans (bS.mono a0.size);have aC:=aW.below bS aW.lt;obtain⟨A5,m5,k5,rfl,a5,bZ⟩:=r5.open_;have bX:m5<=460018:=by rw[<-a5.out,List.length_append,aR.out];omega
 obtain⟨bH,bM,bF,bO,bD,bN,bJ,bI⟩:=aC.c8;simp at bH bM bF bO bD bN bJ bI;have y6:=Y2 A5 m5 k5 _ w5 bv a5.out r5.src.2 (by omega);go_wp2_with fail;refine y6.mono ?_;clear y6 Y2 bH bM bF bO bD bN bJ bI;rintro e w6 ⟨u6,rfl,r6,b6⟩;have bx:=bv.trans (b6.mono bv.size);have aO:=aC.below b6 aC.lt;obtain⟨A6,m6,k6,rfl,bm,bW⟩:=r6.open_;have bY:m6<=460027:=by rw[<-bm.out,List.length_append,a5.out];omega
 obtain⟨bz,bG,bL,bC,bQ,bP,bB,bE⟩:=aO.c8;simp at bz bG bL bC bQ bP bB bE;have y7:=Y3 A6 m6 k6 _ w6 bx bm.out r6.src.2 (by omega);go_wp2_with fail;refine y7.mono ?_;clear y7 Y3 bz bG bL bC bQ bP bB bE;rintro e w7 ⟨u7,rfl,r7,bt⟩;have bU:=bx.trans (bt.mono bx.size);have bT:=aO.below bt aO.lt;go_wp2;go_ret2;refine⟨_,rfl,?_,bU⟩;have rr:=r7.mono bx.size;simpa using rr
end Go.Proofs.YtgblliofomgggaaGreat
