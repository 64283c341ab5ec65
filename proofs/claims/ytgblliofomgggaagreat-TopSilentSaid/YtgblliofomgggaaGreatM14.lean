import Derived.OwnWalk
import Derived.Test.YtgblliofomgggaaGreatM01
import Derived.Test.YtgblliofomgggaaGreatM05
import Derived.Test.YtgblliofomgggaaGreatM13
namespace Go.Proofs.YtgblliofomgggaaGreat
set_option maxRecDepth 100000
set_option maxHeartbeats 4000000
open Go.RowKit a7 bA
open Go.IntKind renaming i64 -> af,u64 -> ak
open Go.Value renaming int -> I,slice -> Y,pointer -> aL,agg -> aE
theorem sI(S S2:Nat->Prop)(A AK:Option Addr)(n c nK cN:Nat)(l:List ae)(kids:List bc)(w:World)(aL:n=l.length)(hm:n<=1000)(h:SliceAt aB w S A l)(hg:∀x∈l,x.aH)
 (bl:nK=kids.length) (bp:nK<=1000) (ad:SliceAt iO w S2 AK kids) (hv:∀m∈kids,m.a5.length<=1000):
 Calls Tryz.prog 204 #[Y A n c,Y AK nK cN] w λe w'=>∃v1 v2,e=.returned (.tuple #[v1,aa,v2])/\cu w' w (λb=>b<w.heap.size) v1 v2 (l.filter λy=>b9 kids y.id) (l.filter λy=> !b9 kids y.id)/\Below w w w':=by
 obtain⟨w0,ar⟩:=am (((w.alloc (.cells #[aa] 46)).alloc (.cells #[aa] 46)).alloc (.cells #[aa] 47));have aU:Below w w w0:=by rw[ar];exact(((Below.refl _ _).alloc (Nat.le_refl _) _).alloc (by simp) _).alloc (by simp;omega) _
 have aC:w0.heap.size=w.heap.size+3:=by rw[ar];simp
 have hy:ai w0 w 46 #[aa]:=by rw[ar];exact((ai.made _ _ _).alloc _).alloc _
 have ho:ai w0 (w.heap.size+1) 46 #[aa]:=by
  rw[ar];have:=(ai.made (w.alloc (.cells #[aa] 46)) 46 #[aa]).alloc (.cells #[aa] 47);simpa using this
 have hN:ai w0 (w.heap.size+2) 47 #[aa]:=by
  rw[ar];have:=ai.made ((w.alloc (.cells #[aa] 46)).alloc (.cells #[aa] 46)) 47 #[aa];simpa using this
 obtain⟨yb,a6⟩:=am w.heap.size;obtain⟨ob,bw⟩:=am (w.heap.size+1);obtain⟨nb,aS⟩:=am (w.heap.size+2);rw[<-a6]at hy;rw[<-bw]at ho;rw[<-aS]at hN;have bq:=Lib.hid a6;have aE:=Lib.hid bw;have bg:=Lib.hid aS;have m0:dh (w0.alloc (.map #[] 0)) w0 (λ_=>none):=dh.made w0;obtain⟨B,hB⟩:=am w0.heap.size;rw[<-hB]at m0;have aR:(Instr.makeMap 326 none).run Tryz.prog w0=.ok (.map (some B)) (w0.alloc (.map #[] 0)):=by rw[hB];rfl
 obtain⟨n1,u1,m1,g1,s1⟩:=bo Tryz.underlying326 m0 (.func (.func 254) #[] #[aj ob]) (hj 0 (by omega));obtain⟨aZ,u2,m2,g2,s2⟩:=bo Tryz.underlying326 m1 (.func (.func 255) #[] #[aj yb]) (hj 1 (by omega));obtain⟨n3,u3,m3,g3,s3⟩:=bo Tryz.underlying326 m2 (.func (.func 256) #[] #[aj nb]) (hj 2 (by omega));have J:(w0.alloc (.map #[] 0)).grownBy n3 (some B):=bX (bX g1 g2) g3;have bC:=(Below.refl w0 w0).alloc (Nat.le_refl _) (.map #[] 0);have bm:Below w0 w0 n3:=bC.grown J bC.size (λk e=>by injection e with e;omega);have az:n3.heap.size=w.heap.size+4:=by rw[s3,s2,s1];simp[aC]
 have br:=aU.trans (bm.mono aU.size);have bs:=hy.below bm hy.lt;have a8:=ho.below bm ho.lt;have a2:=hN.below bm hN.lt;have aw:Hid (B=w.heap.size+3):=Lib.hid (by omega);obtain⟨base,av⟩:=am n3.heap.size;have aJ:Hid (yb=w.heap.size/\ob=w.heap.size+1):=Lib.hid ⟨a6,bw⟩;have ao:Hid (yb<base/\ob<base/\nb<base/\B<base/\base=w.heap.size+4):=Lib.hid (by omega);have HN:=Lib.hid aL;have HG:=Lib.hid hg;have HH:=dx h ad bl hv;have HB:=Lib.hid hB;have bh:=Lib.hid a2;have bn:=Lib.hid m3;clear a2 aL hg h ad bl hv hy ho hN a6 bw aS m0 m1 m2 m3 g1 g2 g3 s1 s2 s3 J hB aC az bC bm;go_enter Tryz.func204,Tryz.ntmps204;go_wp2_with fail;rw[<-ar,<-bg.out,<-aE.out,<-bq.out];clear ar;go_simp
 try go_wp2_with fail
 go_loopw [22] (λi_ wr=>∃ (i:Nat) (vY vO:Value),i_=I af i/\i<=n/\ai wr yb 46 #[vY]/\ai wr ob 46 #[vO]/\dh wr B (λb=>if b=2 then some (.func (.func 256) #[] #[aj nb])else if b=1 then some (.func (.func 255) #[] #[aj yb])else if b=0 then some (.func (.func 254) #[] #[aj ob])else none)/\cu wr base (λb=>b<base) vY vO ((l.take i).filter λy=>b9 kids y.id) ((l.take i).filter λy=> !b9 kids y.id)/\Below w w wr/\base<=wr.heap.size/\ai wr nb 47 #[aa]) (λi _=>n- (intOf i).toNat)
 case atStart=>exact⟨0,aa,aa,rfl,by omega,bs,a8,bn.out,⟨aD.nil _ _ _ _ _,aD.nil _ _ _ _ _,(λb a7 _=>by cases a7),(λb a7=>by cases a7),(λb a7=>by cases a7)⟩,br,by rw[av];exact Nat.le_refl _,bh.out⟩
 case round=>
  obtain⟨i,vY,vO,rfl,hi,hY,hO,M,O,a7,bf,aT⟩:=hrel;by_cases bA:i<n
  ·have bu:i<l.length:=(by have:=HN.out;omega);have bE:(i:Int)<(n:Int):=(by omega);have aX:=HG.out _ (List.getElem_mem bu);have a4:Hid (l.take (i+1)=l.take i++[l[i]]):=List.take_succ_eq_append_getElem bu;obtain⟨b,off,u,rfl,bV,b8,bx,hcell,A2,c8,hu,h2⟩:=(HH.out.1.below a7).at_ bu (by decide);rw[hu]at hcell;have d0:wr.cell? ⟨b,off+i*8,none⟩=some (I af l[i].kind):=hcell 0 _ rfl;have d1:wr.cell? ⟨b,off+i*8+1,none⟩=some (I af l[i].id.au):=hcell 1 _ rfl;have d2:wr.cell? ⟨b,off+i*8+2,none⟩=some (I ak l[i].id.aq):=hcell 2 _ rfl;have d3:wr.cell? ⟨b,off+i*8+3,none⟩=some (I ak l[i].id.ax):=hcell 3 _ rfl;have d4:wr.cell? ⟨b,off+i*8+4,none⟩=some (I af l[i].ah):=hcell 4 _ rfl;have d5:wr.cell? ⟨b,off+i*8+5,none⟩=some (I ak l[i].sub):=hcell 5 _ rfl;have d7:wr.cell? ⟨b,off+i*8+7,none⟩=some (Y A2 l[i].events.length c8):=hcell 7 _ rfl;have d6:wr.cell? ⟨b,off+i*8+6,none⟩=some aa:=hcell 6 _ rfl;obtain⟨x,hx⟩:=am (l[i]);rw[<-hx]at d0 d1 d2 d3 d4 d5 d7 h2 a4 aX;have aY:∀ (q:ae->Bool),((l.take i).filter q).length<=1000:=λq=>by
    have h1:=List.length_filter_le q (l.take i);rw[List.length_take]at h1;have:=HN.out;omega
   obtain⟨w1,aN⟩:=am (wr.alloc (.cells (a3 x A2 c8) 132));have b1:=aV aN;have bD:ai w1 wr 132 (a3 x A2 c8):=(by rw[aN];exact ai.made _ _ _);obtain⟨xb,a0⟩:=am wr.heap.size;rw[<-a0]at bD;have bj:=Lib.hid a0;have says:=pK S2 AK nK cN kids x.id w1 HH.out.2.2.1 bp (HH.out.2.1.below (a7.trans (b1.mono a7.size))) HH.out.2.2.2;unfold PId.val at says;clear hcell bx hu hx a0;cases aM:b9 kids x.id with
   | true=>
    have bd:eL kids x.id=1:=(by unfold eL;rw[aM];rfl);rw[bd]at says;have aF:=Lib.hid aM;clear aM bd;go_wp2_with fail;rw[<-aN,<-bj.out];clear aN;refine says.mono ?_;clear says;rintro e w2 ⟨rfl,b2⟩;have aK:=b1.trans (b2.mono b1.size);have aO:=a7.trans (aK.mono a7.size);have aA:=bD.below b2 bD.lt;have a9:=hY.below aK hY.lt;have a1:=hO.below aK hO.lt;have M2:=M.below aK;have ba:=Lib.hid M2;have aQ:=aT.below aK aT.lt;have O2:=O.below aK;have bF:=h2.below aK;have aG:base<=w2.heap.size:=Nat.le_trans bf aK.size;obtain⟨y0,y1,y2,bb,y4,y5,y6,y7⟩:=aA.c8;simp at y0 y1 y2 bb y4 y5 y6 y7;clear aA;have lk:=dG Tryz.underlying326 M2 (hj 1 (by omega)) (v:=.func (.func 255) #[] #[aj yb]) (by simp) true;simp only[if_true]at lk;have cl:=zM yb base (λb=>b<base) S vY vO _ _ x A2 c8 w2 a9 (O2) ao.out.1 (λb a7=>Nat.lt_of_lt_of_le a7 aG) aG aX bF (aY _);clear M2;go_wp2_with fail;refine cl.mono ?_;clear cl;rintro e w3 ⟨⟨r,rfl⟩,v',ag,aP,t3,bk⟩;go_wp2
    go_round
    case rel=>
     have M3:=ba.out.aI (t3.aI B ba.out.lt (λe=>e.elim (λe=>by have:=aJ.out;have:=aw.out;omega) (λe=>O2.sL B e ao.out.2.2.2.1)));have ay:ob≠yb:=(by have:=aJ.out;omega);refine⟨i+1,v',vO,by go_num,by omega,ag,?_,M3,?_,?_,?_,?_⟩
     ·exact t3.aW a1 (λe=>e.elim ay (λe=>O2.sL ob e ao.out.2.1))
     ·rw[a4.out,List.filter_append,List.filter_append];simp only[List.filter_cons,List.filter_nil,aF.out,Bool.not_true,if_true,if_false,Bool.false_eq_true,List.append_nil];exact aP
     ·exact aO.trans (t3.below aO.size (λb a7 e=>e.elim (λe=>by have:=aJ.out;omega) (λe=>by have:=(O2.L.lt e).1;have:=ao.out.2.2.2.2;omega)))
     ·exact Nat.le_trans aG t3.size
     ·exact t3.aW aQ (λe=>e.elim (λe=>by have:=aJ.out;have:=bg.out;omega) (λe=>(O2).sL nb e ao.out.2.2.1))
    case measure=>simp[intOf];omega
   | false=>
    have bd:eL kids x.id=0:=(by unfold eL;rw[aM];rfl);rw[bd]at says;have aF:=Lib.hid aM;clear aM bd;go_wp2_with fail;rw[<-aN,<-bj.out];clear aN;refine says.mono ?_;clear says;rintro e w2 ⟨rfl,b2⟩;have aK:=b1.trans (b2.mono b1.size);have aO:=a7.trans (aK.mono a7.size);have aA:=bD.below b2 bD.lt;have a9:=hY.below aK hY.lt;have a1:=hO.below aK hO.lt;have M2:=M.below aK;have ba:=Lib.hid M2;have aQ:=aT.below aK aT.lt;have O2:=O.below aK;have bF:=h2.below aK;have aG:base<=w2.heap.size:=Nat.le_trans bf aK.size;obtain⟨y0,y1,y2,bb,y4,y5,y6,y7⟩:=aA.c8;simp at y0 y1 y2 bb y4 y5 y6 y7;clear aA;have lk:=dG Tryz.underlying326 M2 (hj 0 (by omega)) (v:=.func (.func 254) #[] #[aj ob]) (by simp) true;simp only[if_true]at lk;have cl:=yQ ob base (λb=>b<base) S vO vY _ _ x A2 c8 w2 a1 (O2.flip) ao.out.2.1 (λb a7=>Nat.lt_of_lt_of_le a7 aG) aG aX bF (aY _);clear M2;go_wp2_with fail;refine cl.mono ?_;clear cl;rintro e w3 ⟨⟨r,rfl⟩,v',ag,aP,t3,bk⟩;go_wp2
    go_round
    case rel=>
     have M3:=ba.out.aI (t3.aI B ba.out.lt (λe=>e.elim (λe=>by have:=aJ.out;have:=aw.out;omega) (λe=>O2.flip.sL B e ao.out.2.2.2.1)));have ay:yb≠ob:=(by have:=aJ.out;omega);refine⟨i+1,vY,v',by go_num,by omega,?_,ag,M3,?_,?_,?_,?_⟩
     ·exact t3.aW a9 (λe=>e.elim ay (λe=>O2.flip.sL yb e ao.out.1))
     ·rw[a4.out,List.filter_append,List.filter_append];simp only[List.filter_cons,List.filter_nil,aF.out,Bool.not_false,if_true,if_false,Bool.false_eq_true,List.append_nil];exact aP.flip
     ·exact aO.trans (t3.below aO.size (λb a7 e=>e.elim (λe=>by have:=aJ.out;omega) (λe=>by have:=(O2.flip.L.lt e).1;have:=ao.out.2.2.2.2;omega)))
     ·exact Nat.le_trans aG t3.size
     ·exact t3.aW aQ (λe=>e.elim (λe=>by have:=aJ.out;have:=bg.out;omega) (λe=>(O2.flip).sL nb e ao.out.2.2.1))
    case measure=>simp[intOf];omega
  ·obtain rfl:i=n:=(by omega);rw[HN.out,List.take_length]at O;have q0:=hY.cell 0;have q1:=hO.cell 0;have HY:=di hY hO;have q2:=aT.cell 0;simp at q0 q1 q2;clear hY hO M aT;go_wp2
   go_quiet (fail)
   go_wp2;go_ret3;have e5:base=w.heap.size+4:=ao.out.2.2.2.2;refine⟨vY,vO,rfl,?_,dc a7⟩;have bi:w.heap.size<=base:=(by omega);exact((O.below (w':=wr.drewN _) ⟨rfl,rfl,rfl,Nat.le_refl _,λ_ _=>rfl⟩).mono bi).wide (λb _ a7=>by show b<base;have:b<w.heap.size:=a7;omega)
def b5:dD Nat:=⟨1,λ_ _ u x=>u=[I af x],λh=>by
 subst h;rfl,λh v hv=>by
 subst h;simp only[List.mem_cons,List.not_mem_nil,or_false]at hv;rcases hv with rfl;rfl,λh _=>h⟩
def gA:dD Unit:=⟨1,λ_ _ u _=>u=[aa],λh=>by
 subst h;rfl,λh v hv=>by
 subst h;simp only[List.mem_cons,List.not_mem_nil,or_false]at hv;rcases hv with rfl;rfl,λh _=>h⟩
structure dY where
 ah:Nat
 sub:Nat
 deriving DecidableEq
def du:dD dY:=⟨3,λ_ _ u x=>u=[I af x.ah,I ak x.sub,aa],λh=>by
 subst h;rfl,λh v hv=>by
 subst h;simp only[List.mem_cons,List.not_mem_nil,or_false]at hv;rcases hv with rfl | rfl | rfl<;>rfl,λh _=>h⟩
theorem kK(v:Value)(w:World):Calls Tryz.prog 112 #[aa,v] w λe w'=>e=.returned (.bool true)/\Below w w w':=by
 go_enter Tryz.func112,Tryz.ntmps112;go_wp2_with fail;go_step3;go_wp2_with fail
 try go_step3
 try go_wp2_with fail
 go_loopw [5,10] (λv_ i_ wr=>i_=I af 0/\v_=.bool true/\Below w w wr) (λ_ i _=>0)
 case atStart=>exact⟨rfl,rfl,.refl _ _⟩
 case round=>
  obtain⟨rfl,rfl,a7⟩:=hrel;go_wp2
  try rw[Exit.noGoto_ret]
  go_ret;exact⟨rfl,a7⟩
theorem n7(w:World):Calls Tryz.prog 179 #[aa] w λe w'=>e=.returned aa/\Below w w w':=by
 go_enter Tryz.func179,Tryz.ntmps179;go_wp2;go_ret;exact⟨rfl,.refl _ _⟩
theorem ti(w:World):Calls Tryz.prog 317 #[aa] w λe w'=>e=.returned aa/\Below w w w':=by
 unfold aa;have e:(binOp .eql 53 (Y none 0 0) (Y none 0 0)).run Tryz.prog w=.ok (.bool true) w:=by rfl
 go_enter Tryz.func317,Tryz.ntmps317;go_wp2;go_ret;exact⟨rfl,.refl _ _⟩
theorem any_nil(A AE:Option Addr)(c nE ba:Nat)(w:World):Calls Tryz.prog 271 #[Y A 0 c,Y AE nE ba] w λe w'=>e=.returned (.bool false)/\Below w w w':=by
 have sm:∀ (w0:World) f,Calls Tryz.prog 300 #[Y A 0 c,f] w0 λe w'=>e=.returned (.bool false)/\Below w0 w0 w':=λw0 f=>by
  go_enter Tryz.func300,Tryz.ntmps300;go_wp2_with fail
  go_loopw [9] (λi_ wr=>i_=I af 0/\Below w0 w0 wr) (λi _=>0)
  case atStart=>exact⟨rfl,.refl _ _⟩
  case round=>
   obtain⟨rfl,a7⟩:=hrel;go_wp2;go_ret;exact⟨rfl,a7⟩
 have aU:=(Below.refl w w).alloc (Nat.le_refl _) (.cells #[Y AE nE ba] 39);have s0:=sm (w.alloc (.cells #[Y AE nE ba] 39)) (.func (.func 301) #[] #[aj w]);go_enter Tryz.func271,Tryz.ntmps271;go_wp2_with fail;refine s0.mono ?_;rintro e w2 ⟨rfl,b2⟩;go_wp2;go_ret;exact⟨rfl,aU.trans (b2.mono aU.size)⟩
theorem zf(S:Nat->Prop)(A:Option Addr)(n c:Nat)(l:List Unit)(AE:Option Addr)(nE ba:Nat)(w:World)(aL:n=l.length)(h0:0<n)(hm:n<=1000)(h:SliceAt gA w S A l):
 Calls Tryz.prog 271 #[Y A n c,Y AE nE ba] w λe w'=>e=.returned (.bool true)/\Below w w w':=by
 obtain⟨b,off,u,rfl,bV,b8,bx,hcell,hu⟩:=h.at_ (i:=0) (by omega) (by decide);have aR:u=[aa]:=hu;have d0:w.cell? ⟨b,off,none⟩=some aa:=by have:=hcell 0 aa (by rw[aR];rfl);simpa using this
 obtain⟨w0,ar⟩:=am (w.alloc (.cells #[Y AE nE ba] 39));have hC:ai w0 w 39 #[Y AE nE ba]:=by rw[ar];exact ai.made _ _ _
 have aU:=aV ar;obtain⟨cb,M⟩:=am w.heap.size;rw[<-M]at hC;have aF:=Lib.hid M;clear M;have ae:∀ (w1:World),w1.cell? (aj cb)=some (Y AE nE ba)->Calls Tryz.prog 301 #[aa,aj cb] w1 λe w'=>e=.returned (.bool true)/\Below w1 w1 w':=λw1 hv=>by
  have J:=kK (Y AE nE ba) w1;clear ar;go_enter Tryz.func301,Tryz.ntmps301;go_wp2_with fail;refine J.mono ?_;rintro e w2 ⟨rfl,b2⟩;go_wp2;go_ret;exact⟨rfl,b2⟩
 have d1:w0.cell? ⟨b,off,none⟩=some aa:=(aU.cell (p:=⟨b,off,none⟩) bV).trans d0;have bi:w0.cell? (aj cb)=some (Y AE nE ba):=by have:=hC.cell 0;simpa using this
 have ad:=ae w0 bi;clear ae d0 aL hu aR hcell bx h;have sm:Calls Tryz.prog 300 #[Y (some ⟨b,off,none⟩) n c,.func (.func 301) #[] #[aj cb]] w0 λe w'=>e=.returned (.bool true)/\Below w0 w0 w':=by
  clear ar;have bA:(0:Int)<(n:Int):=(by omega);go_enter Tryz.func300,Tryz.ntmps300;go_wp2_with fail
  go_loopw [9] (λi_ wr=>i_=I af 0/\wr=w0) (λi _=>0)
  case atStart=>exact⟨rfl,rfl⟩
  case round=>
   obtain⟨rfl,rfl⟩:=hrel;go_wp2_with fail;refine ad.mono ?_;clear ad;rintro e w2 ⟨rfl,b2⟩;go_wp2;go_ret;exact⟨rfl,b2⟩
 go_enter Tryz.func271,Tryz.ntmps271;go_wp2_with fail;rw[<-ar,<-aF.out];clear ar;refine sm.mono ?_;rintro e w2 ⟨rfl,b2⟩;go_wp2;go_ret;exact⟨rfl,aU.trans (b2.mono aU.size)⟩
theorem kS{α:Type}(q:α->Bool)(l:List α)(i:Nat)(h:i<l.length):(l.take (i+1)).filter q=if q l[i]=true then(l.take i).filter q++[l[i]]else(l.take i).filter q:=by
 rw[List.take_succ_eq_append_getElem h,List.filter_append];cases hc:q l[i]<;>simp[hc]
theorem sM{P:Prop}(h:P:=by
 have aQ:∀k,(Value.slice A3 n3 c3).ownBlock=some k->w.heap.size<=k:=λk hk=>(O2.lt hk).1
 go_round
 case rel=>exact⟨i+1,by go_num,by omega,by rw[HE.out];exact O8,(bo.trans (bC.mono bo.size)).grown gr (by simp;have:=bo.size;omega) aQ⟩
 case measure=>simp[intOf];omega
 ):P:=h
theorem po(K cb:Nat)(q:dY->Bool)(S:Nat->Prop)(A:Option Addr)(n c:Nat)(l:List dY)(w:World)(ad:Real K)(aL:n=l.length)(hm:n<=1000)(h:SliceAt du w S A l)
 (hf:∀x∈l,∀ (w':World),Below w w w'->Calls Tryz.prog K #[cO x.ah x.sub,aj cb] w' λe w''=>e=.returned (.bool (q x))/\Below w' w' w''):
 Calls Tryz.prog 105 #[Y A n c,.func (.func K) #[] #[aj cb]] w λe w'=>∃v,e=.returned v/\aD du 192 w' w (λb=>b<w.heap.size) v (l.filter q)/\Below w w w':=by
 obtain⟨i0,z0,bM,bL,bB,bJ,bR⟩:=aS Tryz.nM;have HN:=Lib.hid aL;have HF:=Lib.hid hf;have bZ:∀ (args:Array Value) (w:World),(callFunc K args).run Tryz.prog w=.ok (.enter K args) w:=ad;clear aL hf;go_enter Tryz.func105,Tryz.ntmps105;go_wp2_with fail
 try go_step3
 try go_wp2_with fail
 go_loopw [5,10] (λv_ i_ wr=>∃i:Nat,i_=I af i/\i<=n/\aD du 192 wr w (λb=>b<w.heap.size) v_ ((l.take i).filter q)/\Below w w wr) (λ_ i _=>n- (intOf i).toNat)
 case atStart=>exact⟨0,rfl,by omega,aD.nil _ _ _ _ _,.refl _ _⟩
 case round=>
  obtain⟨i,rfl,hi,O,a7⟩:=hrel;by_cases bA:i<n
  ·have bu:i<l.length:=(by have:=HN.out;omega);have bE:(i:Int)<(n:Int):=(by omega);have a4:=Lib.hid (kS q l i bu);have hle:((l.take i).filter q).length<=i:=by
    have h1:=List.length_filter_le q (l.take i);rw[List.length_take]at h1;omega
   obtain⟨b,off,u,rfl,bV,b8,bx,hcell,hu⟩:=(h.below a7).at_ bu (by decide);have aR:u=[I af l[i].ah,I ak l[i].sub,aa]:=hu;rw[aR]at hcell;have d0:wr.cell? ⟨b,off+i*3,none⟩=some (I af l[i].ah):=hcell 0 _ rfl;have d1:wr.cell? ⟨b,off+i*3+1,none⟩=some (I ak l[i].sub):=hcell 1 _ rfl;have d2:wr.cell? ⟨b,off+i*3+2,none⟩=some aa:=hcell 2 _ rfl;obtain⟨x,hx⟩:=am (l[i]);obtain⟨w1,aN⟩:=am (wr.alloc (.cells (cO x.ah x.sub) 192));have b1:=aV aN;have a6:=a7.trans (b1.mono a7.size);have bD:ai w1 wr 192 (cO x.ah x.sub):=(by rw[aN];exact ai.made _ _ _);obtain⟨xb,a0⟩:=am wr.heap.size;rw[<-a0]at bD;have bj:=Lib.hid a0;have bc:=HF.out x (by rw[hx];exact List.getElem_mem bu) w1 a6;rw[<-hx]at d0 d1 a4;obtain⟨A3,n3,c3,rfl,a2,bY⟩:=O.form;have ag:n3<=i:=(by rw[a2.out];exact hle);have bH:=Lib.hid a2.out;clear hcell bx hu aR hx a0 hle;go_wp2_with fail;rw[<-aN,<-bj.out];clear aN;refine bc.mono ?_;clear bc;rintro e w2 ⟨rfl,b2⟩;have aA:=bD.below b2 bD.lt;have aK:=b1.trans (b2.mono b1.size);have bo:=a7.trans (aK.mono a7.size);have O2:=O.below aK;obtain⟨y0,y1,y2⟩:=aA.c3;simp at y0 y1 y2;cases hq:q x with
   | true=>
    have HE:Hid ((l.take (i+1)).filter q=(l.take i).filter q++[x]):=(by show _=_;rw[a4.out,if_pos hq]);clear hq;have bC:=(Below.refl w2 w2).alloc (Nat.le_refl _) (.cells (cO x.ah x.sub) 192);go_wp2_with (at_builtin;refine a9 _ rfl (.tmp 17) (.tmp 19) 143 rfl du w 192 i0 z0 40 Tryz.underlying143 bM bL bJ bR bB (by decide) (λb=>b<w.heap.size) (Y A3 n3 c3) _ rfl (O2.below bC) (aj w2) 1 (cO x.ah x.sub) x rfl (Src.made w2 _ _) rfl (by rw[<-bH.out];unfold maxLen;omega) (by rw[<-bH.out];omega) (by simp;have:=bo.size;omega) ?_;rw[<-bH.out];intro A6 bX w8 O8 cz gr bf);exact sM
   | false=>
    have HE:Hid ((l.take (i+1)).filter q=(l.take i).filter q):=(by show _=_;rw[a4.out,if_neg (by rw[hq];decide)]);clear hq;go_wp2
    go_round
    case rel=>exact⟨i+1,by go_num,by omega,by rw[HE.out];exact O2,bo⟩
    case measure=>simp[intOf];omega
  ·obtain rfl:i=n:=(by omega);rw[HN.out,List.take_length]at O;go_wp2
   try rw[Exit.noGoto_ret]
   go_ret;exact⟨_,rfl,O,a7⟩
theorem r2(K cb:Nat)(q:Bool)(S:Nat->Prop)(A:Option Addr)(n c:Nat)(l:List (List aO))(w:World)(ad:Real K)(aL:n=l.length)(hm:n<=1000)(h:SliceAt aN w S A l)
 (hf:∀ (A:Option Addr) (n c:Nat) (w':World),Below w w w'->Calls Tryz.prog K #[Y A n c,aj cb] w' λe w''=>e=.returned (.bool q)/\Below w' w' w''):
 Calls Tryz.prog 108 #[Y A n c,.func (.func K) #[] #[aj cb]] w λe w'=>∃v,e=.returned v/\aD aN 39 w' w S v (l.filter λ_=>q)/\Below w w w':=by
 obtain⟨i0,z0,bM,bL,bB,bJ,bR⟩:=aS Tryz.iE;have HN:=Lib.hid aL;have HF:=Lib.hid hf;have bZ:∀ (args:Array Value) (w:World),(callFunc K args).run Tryz.prog w=.ok (.enter K args) w:=ad;clear aL hf;go_enter Tryz.func108,Tryz.ntmps108;go_wp2_with fail
 try go_step3
 try go_wp2_with fail
 go_loopw [5,10] (λv_ i_ wr=>∃i:Nat,i_=I af i/\i<=n/\aD aN 39 wr w S v_ ((l.take i).filter λ_=>q)/\Below w w wr) (λ_ i _=>n- (intOf i).toNat)
 case atStart=>exact⟨0,rfl,by omega,aD.nil _ _ _ _ _,.refl _ _⟩
 case round=>
  obtain⟨i,rfl,hi,O,a7⟩:=hrel;by_cases bA:i<n
  ·have bu:i<l.length:=(by have:=HN.out;omega);have bE:(i:Int)<(n:Int):=(by omega);have a4:=Lib.hid (kS (λ_=>q) l i bu);have hle:((l.take i).filter λ_=>q).length<=i:=by
    have h1:=List.length_filter_le (λ_=>q) (l.take i);rw[List.length_take]at h1;omega
   obtain⟨b,off,u,rfl,bV,b8,bx,hcell,A2,c8,hu,h2⟩:=h.at_ bu (by decide);rw[hu]at hcell;have d8:wr.cell? ⟨b,off+i,none⟩=some (Y A2 l[i].length c8):=(a7.cell (p:=⟨b,off+i,none⟩) bV).trans (by simpa[aN]using hcell 0 _ rfl);obtain⟨x,hx⟩:=am (l[i]);rw[<-hx]at d8 a4 h2;have bc:=HF.out A2 x.length c8 wr a7;have a1:SliceAt cy wr (λb=>S b\/w.heap.size<=b) A2 x:=(h2.cJ (S':=λb=>S b\/w.heap.size<=b) (λb a7 e=>e.elim id (λe=>by omega))).below a7;obtain⟨A3,n3,c3,rfl,a2,bY⟩:=O.form;have ag:n3<=i:=(by rw[a2.out];exact hle);have bH:=Lib.hid a2.out;clear hcell bx hu hx hle h2;go_wp2_with fail;refine bc.mono ?_;clear bc;rintro e w2 ⟨rfl,b2⟩;have bo:=a7.trans (b2.mono a7.size);have O2:=O.below b2;cases hq:q with
   | true=>
    have HE:Hid ((l.take (i+1)).filter (λ_=>q)=(l.take i).filter (λ_=>q)++[x]):=(by show _=_;rw[a4.out,if_pos hq]);rw[hq]at HE O2;clear a4 HF;subst hq;have bC:=(Below.refl w2 w2).alloc (Nat.le_refl _) (.cells #[Y A2 x.length c8] 39);have bI:aN.R (w2.alloc (.cells #[Y A2 x.length c8] 39)) (bm S (Y A3 n3 c3)) [Y A2 x.length c8] x:=
     ⟨A2,c8,rfl,((a1.below b2).below bC).weak (λb aG=>aG.elim .inl (λe=>.inr (O2.lt e).1))⟩
    go_wp2_with (at_builtin;refine a9 _ rfl (.tmp 17) (.tmp 19) 23 rfl aN w 39 i0 z0 24 Tryz.underlying23 bM bL bJ bR bB (by decide) S (Y A3 n3 c3) _ rfl (O2.below bC) (aj w2) 1 [Y A2 x.length c8] x rfl (Src.made w2 _ _) bI (by rw[<-bH.out];unfold maxLen;omega) (by rw[<-bH.out];omega) (by simp;have:=bo.size;omega) ?_;rw[<-bH.out];intro A6 bX w8 O8 cz gr bf);exact sM
   | false=>
    have HE:Hid ((l.take (i+1)).filter (λ_=>q)=(l.take i).filter (λ_=>q)):=(by show _=_;rw[a4.out,if_neg (by rw[hq];decide)]);rw[hq]at HE O2;clear a4 HF;subst hq;go_wp2
    go_round
    case rel=>exact⟨i+1,by go_num,by omega,by rw[HE.out];exact O2,bo⟩
    case measure=>simp[intOf];omega
  ·obtain rfl:i=n:=(by omega);rw[HN.out,List.take_length]at O;go_wp2
   try rw[Exit.noGoto_ret]
   go_ret;exact⟨_,rfl,O,a7⟩
theorem zV:Real 106:=bW Tryz.func106 (by kernel_rfl) (by kernel_rfl)
theorem Aq:Real 109:=bW Tryz.func109 (by kernel_rfl) (by kernel_rfl)
theorem yR:Real 111:=bW Tryz.func111 (by kernel_rfl) (by kernel_rfl)
theorem Ak:Real 298:=bW Tryz.func298 (by kernel_rfl) (by kernel_rfl)
theorem zq:Real 270:=bW Tryz.func270 (by kernel_rfl) (by kernel_rfl)
theorem rG:Real 119:=bW Tryz.func119 (by kernel_rfl) (by kernel_rfl)
theorem sw:Real 120:=bW Tryz.func120 (by kernel_rfl) (by kernel_rfl)
theorem sc{P:Prop}(h:P:=by
 go_wp2_with fail;rw[<-ar]
 try rw[<-bj.out]
 clear ar;refine J.mono ?_;clear J;rintro e w2 ⟨rfl,b2⟩;go_wp2;go_ret;exact⟨rfl,aU.trans (b2.mono aU.size)⟩
 ):P:=h
theorem yU(x:dY)(cb:Nat)(AE:Option Addr)(nE ba:Nat)(w:World)(hc:w.cell? (aj cb)=some (Y AE nE ba)):
 Calls Tryz.prog 111 #[cO x.ah x.sub,aj cb] w λe w'=>e=.returned (.bool true)/\Below w w w':=by
 obtain⟨w0,ar⟩:=am (w.alloc (.cells (cO x.ah x.sub) 192));have bD:ai w0 w 192 (cO x.ah x.sub):=by rw[ar];exact ai.made _ _ _
 have aU:=aV ar;obtain⟨xb,a0⟩:=am w.heap.size;rw[<-a0]at bD;have bj:=Lib.hid a0;clear a0;have M:cb<w.heap.size:=World.block_lt_of_cell? w _ hc;have J:=kK (Y AE nE ba) w0;obtain⟨y0,y1,y2⟩:=bD.c3;simp at y0 y1 y2;clear bD;go_enter Tryz.func111,Tryz.ntmps111;exact sc
theorem oE(K cb:Nat)(S:Nat->Prop)(A:Option Addr)(n c:Nat)(l:List dY)(w:World)(ad:Real K)(aL:n=l.length)(hm:n<=1000)(h:SliceAt du w S A l)
 (hf:∀ (x:dY) (w':World),Below w w w'->Calls Tryz.prog K #[cO x.ah x.sub,aj cb] w' λe w''=>e=.returned (.bool true)/\Below w' w' w''):
 Calls Tryz.prog 110 #[Y A n c,.func (.func K) #[] #[aj cb]] w λe w'=>e=.returned (.bool (decide (0<n)))/\Below w w w':=by
 have idx:Calls Tryz.prog 177 #[Y A n c,.func (.func K) #[] #[aj cb]] w λe w'=>e=.returned (ag (if 0<n then 0 else -1))/\Below w w w':=by
  have bZ:∀ (args:Array Value) (w:World),(callFunc K args).run Tryz.prog w=.ok (.enter K args) w:=ad;by_cases h0:0<n
  ·rw[if_pos h0];obtain⟨b,off,u,rfl,bV,b8,bx,hcell,hu⟩:=h.at_ (i:=0) (by omega) (by decide);have aR:u=[I af l[0].ah,I ak l[0].sub,aa]:=hu;rw[aR]at hcell;have d0:w.cell? ⟨b,off,none⟩=some (I af l[0].ah):=(by simpa using hcell 0 _ rfl);have d1:w.cell? ⟨b,off+1,none⟩=some (I ak l[0].sub):=(by simpa using hcell 1 _ rfl);have d2:w.cell? ⟨b,off+2,none⟩=some aa:=(by simpa using hcell 2 _ rfl);have bc:=hf l[0] w (.refl _ _);have bA:(0:Int)<(n:Int):=(by omega);generalize l[0]=x at d0 d1 bc;clear aL hu aR hcell bx h hf;go_enter Tryz.func177,Tryz.ntmps177;go_wp2_with fail
   go_loopw [8] (λi_ wr=>i_=I af 0/\wr=w) (λi _=>0)
   case atStart=>exact⟨rfl,rfl⟩
   case round=>
    obtain⟨rfl,rfl⟩:=hrel;go_wp2_with fail;refine bc.mono ?_;clear bc;rintro e w2 ⟨rfl,b2⟩;go_wp2;go_ret;exact⟨rfl,b2⟩
  ·rw[if_neg h0];obtain rfl:n=0:=(by omega);clear aL h hf;go_enter Tryz.func177,Tryz.ntmps177;go_wp2_with fail
   go_loopw [8] (λi_ wr=>i_=I af 0/\wr=w) (λi _=>0)
   case atStart=>exact⟨rfl,rfl⟩
   case round=>
    obtain⟨rfl,rfl⟩:=hrel;go_wp2;go_ret;exact⟨rfl,.refl _ _⟩
 clear aL h hf;by_cases h0:0<n
 ·rw[if_pos h0]at idx;rw[decide_eq_true h0];go_enter Tryz.func110,Tryz.ntmps110;go_wp2_with fail;refine idx.mono ?_;rintro e w2 ⟨rfl,b2⟩;go_wp2;go_ret;exact⟨rfl,b2⟩
 ·rw[if_neg h0]at idx;rw[decide_eq_false h0];go_enter Tryz.func110,Tryz.ntmps110;go_wp2_with fail;refine idx.mono ?_;rintro e w2 ⟨rfl,b2⟩;go_wp2;go_ret;exact⟨rfl,b2⟩
theorem rH(cb:Nat)(S:Nat->Prop)(A AE:Option Addr)(n c nE ba:Nat)(l:List dY)(w:World)(hc:w.cell? (aj cb)=some (Y A n c))(aL:n=l.length)(hm:n<=1000)(h:SliceAt du w S A l):
 Calls Tryz.prog 109 #[Y AE nE ba,aj cb] w λe w'=>e=.returned (.bool (decide (0<n)))/\Below w w w':=by
 obtain⟨w0,ar⟩:=am (w.alloc (.cells #[Y AE nE ba] 39));have bD:ai w0 w 39 #[Y AE nE ba]:=by rw[ar];exact ai.made _ _ _
 have aU:=aV ar;obtain⟨xb,a0⟩:=am w.heap.size;rw[<-a0]at bD;have bj:=Lib.hid a0;clear a0;have M:cb<w.heap.size:=World.block_lt_of_cell? w _ hc;have J:=oE 111 xb S A n c l w0 yR aL hm (h.below aU) (λx w' a7=>yU x xb AE nE ba w' (by have:=(bD.below a7 bD.lt).cell 0;simpa using this));obtain⟨g,hg⟩:=am (decide (0<n));rw[<-hg]at J;rw[<-hg];clear bD aL h hg;go_enter Tryz.func109,Tryz.ntmps109;exact sc
theorem qS(x:dY)(cb ah:Nat)(w:World)(hc:w.cell? (aj cb)=some (I af ah)):
 Calls Tryz.prog 106 #[cO x.ah x.sub,aj cb] w λe w'=>e=.returned (.bool (decide (x.ah=ah)))/\Below w w w':=by
 obtain⟨w0,ar⟩:=am (w.alloc (.cells (cO x.ah x.sub) 192));have bD:ai w0 w 192 (cO x.ah x.sub):=by rw[ar];exact ai.made _ _ _
 have aU:=aV ar;obtain⟨xb,a0⟩:=am w.heap.size;rw[<-a0]at bD;have bj:=Lib.hid a0;clear a0;have M:cb<w.heap.size:=World.block_lt_of_cell? w _ hc;obtain⟨y0,y1,y2⟩:=bD.c3;simp at y0 y1 y2;obtain⟨g,hg⟩:=am (decide (x.ah=ah));have aF:((x.ah:Int)==(ah:Int))=g:=by
  rw[hg];by_cases e:x.ah=ah
  ·rw[decide_eq_true e,e];simp
  ·rw[decide_eq_false e,beq_eq_false_iff_ne];omega
 rw[<-hg];clear bD hg;go_enter Tryz.func106,Tryz.ntmps106;go_wp2_with fail;go_wp2;go_ret;exact⟨rfl,ar▸aU⟩
def fg(l:List dY)(ah:Nat)(x:ae):List (List aO):=if x.kind=1 then(if l.any (λs=>decide (s.ah=ah))then x.events else [])else []
theorem tr(S S2:Nat->Prop)(AS A:Option Addr)(n c c2 ah:Nat)(l:List dY)(x:ae)(w:World)(aL:n=l.length)(hm:n<=1000)(h:SliceAt du w S AS l)(hx:SliceAt aN w S2 A x.events)(hg:x.aH):
 Calls Tryz.prog 62 #[Y AS n c2,ag ah,a3 x A c] w λe w'=>∃v,e=.returned v/\aD aN 39 w' w (λb=>b<w.heap.size) v (fg l ah x)/\Below w w w':=by
 obtain⟨w0,ar⟩:=am ((w.alloc (.cells #[ag ah] 3)).alloc (.cells (a3 x A c) 132));have aU:Below w w w0:=by rw[ar];exact((Below.refl _ _).alloc (Nat.le_refl _) _).alloc (by simp) _
 have hC:ai w0 w 3 #[ag ah]:=by rw[ar];exact(ai.made _ _ _).alloc _
 have bD:ai w0 (w.heap.size+1) 132 (a3 x A c):=by
  rw[ar];have:=ai.made (w.alloc (.cells #[ag ah] 3)) 132 (a3 x A c);simpa using this
 obtain⟨cb,M⟩:=am w.heap.size;obtain⟨xb,a0⟩:=am (w.heap.size+1);rw[<-M]at hC;rw[<-a0]at bD;have aF:=Lib.hid M;have bj:=Lib.hid a0;clear M a0;have HH:=dx (h.below aU) (hx.below aU) hg aL;by_cases hk:x.kind=1
 ·have gk:((x.kind:Int) !=1)=false:=(by rw[bne_eq_false_iff_eq];omega);have kp:=po 106 cb (λs=>decide (s.ah=ah)) S AS n c2 l w0 zV aL hm (h.below aU) (λs _ w' a7=>qS s cb ah w' (by have:=(hC.below a7 hC.lt).cell 0;simpa using this));have az:=Lib.hid hk;clear aL h hx hg hk;go_enter Tryz.func62,Tryz.ntmps62;go_wp2_with fail;rw[<-ar,<-bj.out,<-aF.out];clear ar;refine kp.mono ?_;clear kp;rintro e w1 ⟨v1,rfl,O1,b1⟩;obtain⟨A1,n1,c1,rfl,bv,bU⟩:=O1.form;have a6:=aU.trans (b1.mono aU.size);have aB:=bD.below b1 bD.lt;have aC:=aB.lt;have ad:n1<=1000:=by
   have h1:=List.length_filter_le (λs=>decide (s.ah=ah)) l;rw[bv.out];have:=HH.out.2.2.2;omega
  obtain⟨w2,a8⟩:=am (w1.alloc (.cells #[Y A1 n1 c1] 143));have b2:=aV a8;have hT:ai w2 w1 143 #[Y A1 n1 c1]:=(by rw[a8];exact ai.made _ _ _);obtain⟨tb,bg⟩:=am w1.heap.size;rw[<-bg]at hT;have ch:=Lib.hid bg;clear bg;have bo:=a6.trans (b2.mono a6.size);have bQ:=(O1.below b2).slice (S':=λ_=>False) (λ_ h=>h.elim) (λ_ h=>h.elim);have ke:=r2 109 tb (decide (0<n1)) S2 A x.events.length c x.events w2 Aq rfl (by have:=HH.out.2.2.1.len;omega) (HH.out.2.1.below (b1.trans (b2.mono b1.size))) (λAE nE ba w' a7=>rH tb (λ_=>False) A1 AE n1 c1 nE ba _ w' (by have:=(hT.below a7 hT.lt).cell 0;simpa using this) bv.out ad (bQ.below a7));have aw:=Lib.hid bv.out;obtain⟨y0,y1,y2,bb,y4,y5,y6,y7⟩:=aB.c8;simp at y0 y1 y2 bb y4 y5 y6 y7;clear bQ aB;go_wp2_with fail;rw[<-a8,<-ch.out];clear a8;refine ke.mono ?_;clear ke;rintro e w3 ⟨v3,rfl,O3,b3⟩;obtain⟨A3,n3,c3,rfl,a2,bY⟩:=O3.form;have I:fg l ah x=x.events.filter (λ_=>decide (0<n1)):=by
   unfold fg;rw[if_pos az.out,aw.out];by_cases ha:l.any (λs=>decide (s.ah=ah))=true
   ·rw[if_pos ha];have:0<(l.filter λs=>decide (s.ah=ah)).length:=by
     rw[List.any_eq_true]at ha;obtain⟨s,hs,hp⟩:=ha;exact List.length_pos_of_mem (List.mem_filter.2 ⟨hs,hp⟩)
    rw[decide_eq_true this];exact(List.filter_eq_self.2 (λ_ _=>rfl)).symm
   ·rw[if_neg ha];have:¬0<(l.filter λs=>decide (s.ah=ah)).length:=by
     intro hp;obtain⟨s,hs⟩:=List.exists_mem_of_length_pos hp;rw[List.mem_filter]at hs;exact ha (List.any_eq_true.2 ⟨s,hs.1,hs.2⟩)
    rw[decide_eq_false this];exact(List.filter_eq_nil_iff.2 (λ_ _=>by simp)).symm
  have ev:=hX (λ_=>False) A3 n3 c3 _ w3 a2.out (by rw[a2.out];have h1:=List.length_filter_le (λ_=>decide (0<n1)) x.events;have:=HH.out.2.2.1.len;omega) (O3.slice (λ_ h=>h.elim) (λ_ h=>h.elim)) (λe he=>⟨HH.out.2.2.1.lays.2 e (List.mem_filter.1 he).1 |>.1,HH.out.2.2.1.lays.2 e (List.mem_filter.1 he).1 |>.2⟩);rw[<-I]at ev;clear I;have br:=bo.trans (b3.mono bo.size);go_wp2_with fail;refine ev.mono ?_;clear ev;rintro e w4 ⟨v4,rfl,O4,bK⟩;go_wp2;go_ret;exact⟨v4,rfl,(O4.mono br.size).weak (λb a7=>Nat.lt_of_lt_of_le a7 br.size),br.trans (bK.mono br.size)⟩
 ·have gk:((x.kind:Int) !=1)=true:=(by rw[bne_iff_ne];omega);have e:fg l ah x=[]:=(by unfold fg;rw[if_neg hk]);rw[e];clear aL h hx hg hk e;go_enter Tryz.func62,Tryz.ntmps62;go_wp2;go_ret;exact⟨_,rfl,aD.nil _ _ _ _ _,ar▸aU⟩
theorem hZ(S:Nat->Prop)(A:Option Addr)(n c k:Nat)(l:List Nat)(w:World)(aL:n=l.length)(hm:n<=1000)(h:SliceAt b5 w S A l):
 Calls Tryz.prog 171 #[Y A n c,ag k] w λe w'=>e=.returned (.bool (l.contains k))/\Below w w w':=by
 have idx:Calls Tryz.prog 227 #[Y A n c,ag k] w λe w'=>∃r:Int,e=.returned (ag r)/\Hid (decide (0<=r)=l.contains k)/\Below w w w':=by
  have HN:=Lib.hid aL;clear aL;go_enter Tryz.func227,Tryz.ntmps227;go_wp2_with fail
  go_loopw [8] (λi_ wr=>∃i:Nat,i_=I af i/\i<=n/\Hid ((l.take i).contains k=false)/\Below w w wr) (λi _=>n- (intOf i).toNat)
  case atStart=>exact⟨0,rfl,by omega,(rfl:_=_),.refl _ _⟩
  case round=>
   obtain⟨i,rfl,hi,HA,a7⟩:=hrel;by_cases bA:i<n
   ·have bu:i<l.length:=(by have:=HN.out;omega);have bE:(i:Int)<(n:Int):=(by omega);have J:Hid ((l.take (i+1)).contains k=((l.take i).contains k || decide (k=l[i]))):=by
     show _=_;rw[List.take_succ_eq_append_getElem bu];simp only[List.contains_eq_any_beq,List.any_append,List.any_cons,List.any_nil,Bool.or_false];rfl
    obtain⟨b,off,u,rfl,bV,b8,bx,hcell,hu⟩:=(h.below a7).at_ bu (by decide);have aR:u=[I af l[i]]:=hu;rw[aR]at hcell;have d0:wr.cell? ⟨b,off+i,none⟩=some (I af l[i]):=(by simpa[b5]using hcell 0 _ rfl);obtain⟨x,hx⟩:=am (l[i]);have av:Hid (x∈l):=(by show _∈_;rw[hx];exact List.getElem_mem bu);rw[<-hx]at d0 J;clear hcell bx hu aR hx;by_cases hk:k=x
    ·have g1:((k:Int)==(x:Int))=true:=(by rw[hk];simp);have HE:Hid (decide (0<=(i:Int))=l.contains k):=by
      show _=_;rw[decide_eq_true (by omega)];symm;rw[List.contains_iff_mem,hk];exact av.out
     clear hk;go_wp2;go_ret;exact⟨_,rfl,HE,a7⟩
    ·have g1:((k:Int)==(x:Int))=false:=(by rw[beq_eq_false_iff_ne];omega);have HE:Hid ((l.take (i+1)).contains k=false):=by
      show _=_;rw[J.out,HA.out,decide_eq_false hk];rfl
     clear hk;go_wp2
     go_round
     case rel=>exact⟨i+1,by go_num,by omega,HE,a7⟩
     case measure=>simp[intOf];omega
   ·obtain rfl:i=n:=(by omega);have HE:Hid (decide (0<=(-1:Int))=l.contains k):=by
     show _=_;have:=HA.out;rw[HN.out,List.take_length]at this;rw[this];rfl
    go_wp2;go_ret;exact⟨_,rfl,HE,a7⟩
 clear h aL;go_enter Tryz.func171,Tryz.ntmps171;go_wp2_with fail;refine idx.mono ?_;clear idx;rintro e w2 ⟨r,rfl,HR,b2⟩;go_wp2;go_ret;exact⟨by rw[<-HR.out];rfl,b2⟩
theorem rp(A:Option Addr)(c:Nat)(w:World):Calls Tryz.prog 299 #[Y A 0 c] w λe w'=>e=.returned aa/\Below w w w':=by
 go_enter Tryz.func299,Tryz.ntmps299;go_wp2_with fail;go_step3;go_wp2_with fail
 try go_step3
 try go_wp2_with fail
 go_loopw [3,12] (λv_ i_ wr=>i_=I af 0/\v_=aa/\wr=w) (λ_ i _=>0)
 case atStart=>exact⟨rfl,rfl,rfl⟩
 case round=>
  obtain⟨rfl,rfl,rfl⟩:=hrel;go_wp2
  try rw[Exit.noGoto_ret]
  go_ret;exact⟨rfl,.refl _ _⟩
theorem sx(b off c:Nat)(w:World)(hc:w.cell? ⟨b,off,none⟩=some aa):
 Calls Tryz.prog 299 #[Y (some ⟨b,off,none⟩) 1 c] w λe w'=>∃v,e=.returned v/\aD gA 53 w' w (λb=>b<w.heap.size) v [()]/\Below w w w':=by
 obtain⟨i0,z0,bM,bL,bB,bJ,bR⟩:=aS Tryz.vY;by_cases bU:c=1
 focus
  subst bU;go_enter Tryz.func299,Tryz.ntmps299
 rotate_left
 focus
  go_enter Tryz.func299,Tryz.ntmps299
 all_goals
  go_wp2_with fail;go_step3;go_wp2_with fail
  try go_step3
  try go_wp2_with fail
  go_loopw [3,12] (λv_ i_ wr=>(i_=I af 0/\v_=aa/\wr=w)\/(i_=I af 1/\aD gA 53 wr w (λb=>b<w.heap.size) v_ [()]/\Below w w wr)) (λ_ i _=>1- (intOf i).toNat)
  case atStart=>exact .inl ⟨rfl,rfl,rfl⟩
  case round=>
   rcases hrel with⟨rfl,rfl,rfl⟩ | ⟨rfl,O,a7⟩
   ·go_wp2_with fail
    go_loopw [19] (λJ w2=>J=I af 0/\w2=wr) (λj _=>0)
    case atStart=>exact⟨rfl,rfl⟩
    case round=>
     obtain⟨rfl,rfl⟩:=hrel;go_wp2_with fail
     go_loopw [32] (λJ w2=>J=I af 0/\w2=wr) (λj _=>0)
     case atStart=>exact⟨rfl,rfl⟩
     case round=>
      obtain⟨rfl,rfl⟩:=hrel;have cl:=ti wr;go_wp2_with fail;refine cl.mono ?_;clear cl;rintro e w2 ⟨rfl,b2⟩;have bC:=(Below.refl w2 w2).alloc (Nat.le_refl _) (.cells #[aa] 53);go_wp2_with (at_builtin;refine a9 _ rfl (.tmp 40) (.tmp 43) 334 rfl gA wr 53 i0 z0 24 Tryz.underlying334 bM bL bJ bR bB (by decide) (λb=>b<wr.heap.size) aa [] rfl (aD.nil _ _ _ _ _) (aj w2) 1 [aa] () rfl (Src.made w2 _ _) rfl (by unfold maxLen;simp) (by simp) (by simp;have:=b2.size;omega) ?_;intro A6 bX w8 O8 cz gr bf)
      go_round
      case rel=>exact .inr ⟨rfl,O8,(b2.trans (bC.mono b2.size)).grown gr (by simp;have:=b2.size;omega) (λk hk=>by cases hk)⟩
      case measure=>simp[intOf]
   ·go_wp2
    try rw[Exit.noGoto_ret]
    go_ret;exact⟨_,rfl,O,a7⟩
theorem oW(S:Nat->Prop)(x:dY)(cb:Nat)(A:Option Addr)(n c:Nat)(l:List Nat)(w:World)(hc:w.cell? (aj cb)=some (Y A n c))(aL:n=l.length)(hm:n<=1000)(h:SliceAt b5 w S A l):
 Calls Tryz.prog 298 #[cO x.ah x.sub,aj cb] w λe w'=>e=.returned (.bool (l.contains x.ah))/\Below w w w':=by
 obtain⟨w0,ar⟩:=am (w.alloc (.cells (cO x.ah x.sub) 192));have bD:ai w0 w 192 (cO x.ah x.sub):=by rw[ar];exact ai.made _ _ _
 have aU:=aV ar;obtain⟨xb,a0⟩:=am w.heap.size;rw[<-a0]at bD;have bj:=Lib.hid a0;clear a0;have M:cb<w.heap.size:=World.block_lt_of_cell? w _ hc;have J:=hZ S A n c x.ah l w0 aL hm (h.below aU);obtain⟨g,hg⟩:=am (l.contains x.ah);rw[<-hg]at J;rw[<-hg];obtain⟨y0,y1,y2⟩:=bD.c3;simp at y0 y1 y2;clear bD h aL hg;go_enter Tryz.func298,Tryz.ntmps298;go_wp2_with fail;rw[<-ar];clear ar;refine J.mono ?_;clear J;rintro e w2 ⟨rfl,b2⟩;go_wp2;go_ret;exact⟨rfl,aU.trans (b2.mono aU.size)⟩
def hG(l:List dY)(bK:List Nat):Bool:=l.any λs=>bK.contains s.ah
theorem x1(l:List dY)(bK:List Nat):hG l bK=decide (0<(l.filter λs=>bK.contains s.ah).length):=by
 unfold hG;by_cases ha:l.any (λs=>bK.contains s.ah)=true
 ·rw[ha];symm;apply decide_eq_true;rw[List.any_eq_true]at ha;obtain⟨s,hs,hp⟩:=ha;exact List.length_pos_of_mem (List.mem_filter.2 ⟨hs,hp⟩)
 ·rw[Bool.not_eq_true]at ha;rw[ha];symm;apply decide_eq_false;intro hp;obtain⟨s,hs⟩:=List.exists_mem_of_length_pos hp;rw[List.mem_filter]at hs;rw[List.any_eq_false]at ha;exact ha s hs.1 hs.2
theorem qp(S S2:Nat->Prop)(A AC:Option Addr)(n c nC dn:Nat)(l:List dY)(bK:List Nat)(w:World)(aL:n=l.length)(hm:n<=1)(h:SliceAt du w S A l)(cU:nC=bK.length)(aG:nC<=1000)(hC:SliceAt b5 w S2 AC bK):
 Calls Tryz.prog 269 #[Y A n c,Y AC nC dn] w λe w'=>∃v,e=.returned v/\aD gA 53 w' w (λb=>b<w.heap.size) v (if hG l bK then [()]else [])/\Below w w w':=by
 obtain⟨i0,z0,bM,bL,bB,bJ,bR⟩:=aS Tryz.vY;obtain⟨w0,ar⟩:=am (w.alloc (.cells #[Y AC nC dn] 22));have hB:ai w0 w 22 #[Y AC nC dn]:=by rw[ar];exact ai.made _ _ _
 have aU:=aV ar;obtain⟨cb,M⟩:=am w.heap.size;rw[<-M]at hB;have aF:=Lib.hid M;clear M;have kp:=po 298 cb (λs=>bK.contains s.ah) S A n c l w0 Ak aL (by omega) (h.below aU) (λs _ w' a7=>oW S2 s cb AC nC dn bK w' (by have:=(hB.below a7 hB.lt).cell 0;simpa using this) cU aG (hC.below (aU.trans (a7.mono aU.size))));obtain⟨q,hq⟩:=am (l.filter λs=>bK.contains s.ah);have bQ:q.length<=1:=by
  have:=List.length_filter_le (λs=>bK.contains s.ah) l;rw[hq];omega
 have HR:Hid ((if hG l bK then [()]else [])=q.map λ_=>()):=by
  show _=_;rw[x1,<-hq]
  match q,bQ with
  | [],_=>rfl
  | [a],_=>rfl
 rw[<-hq]at kp;rw[HR.out];clear HR hq aL h cU hC;go_enter Tryz.func269,Tryz.ntmps269;go_wp2_with fail;rw[<-ar,<-aF.out];clear ar;refine kp.mono ?_;clear kp;rintro e w1 ⟨v1,rfl,O1,b1⟩;obtain⟨A1,n1,c1,rfl,bv,bU⟩:=O1.form;have aw:=Lib.hid bv.out;have ad:n1<=1:=by rw[bv.out];exact bQ
 have a6:=aU.trans (b1.mono aU.size);have h1:=O1.slice (S':=λ_=>False) (λ_ h=>h.elim) (λ_ h=>h.elim);go_wp2_with fail
 go_loopw [6,14] (λv_ i_ wr=>∃i:Nat,i_=I af i/\i<=n1/\aD gA 53 wr w1 (λb=>b<w1.heap.size) v_ ((q.take i).map λ_=>())/\Below w1 w1 wr) (λ_ i _=>n1- (intOf i).toNat)
 case atStart=>exact⟨0,rfl,by omega,aD.nil _ _ _ _ _,.refl _ _⟩
 case round=>
  obtain⟨i,rfl,hi,O,a7⟩:=hrel;by_cases bA:i<n1
  ·have bu:i<q.length:=(by have:=aw.out;omega);have bE:(i:Int)<(n1:Int):=(by omega);have a4:Hid ((q.take (i+1)).map (λ_=>())=(q.take i).map (λ_=>())++[()]):=by
    show _=_;rw[List.take_succ_eq_append_getElem bu,List.map_append];rfl
   have aW:((q.take i).map λ_=>()).length=i:=(by rw[List.length_map,List.length_take];omega);obtain⟨b,off,u,rfl,bV,b8,bx,hcell,hu⟩:=(h1.below a7).at_ bu (by decide);have aR:u=[I af q[i].ah,I ak q[i].sub,aa]:=hu;rw[aR]at hcell;have d0:wr.cell? ⟨b,off+i*3,none⟩=some (I af q[i].ah):=hcell 0 _ rfl;have d1:wr.cell? ⟨b,off+i*3+1,none⟩=some (I ak q[i].sub):=hcell 1 _ rfl;have d2:wr.cell? ⟨b,off+i*3+2,none⟩=some aa:=hcell 2 _ rfl;obtain⟨x,hx⟩:=am (q[i]);rw[<-hx]at d0 d1;obtain⟨A3,n3,c3,rfl,a2,bY⟩:=O.form;have e3:n3=i:=(by rw[a2.out,aW]);subst e3;have b2:Below wr wr (wr.alloc (.cells (cO x.ah x.sub) 192)):=(Below.refl _ _).alloc (Nat.le_refl _) _;have O2:=O.below b2;have bC:=(Below.refl (wr.alloc (.cells (cO x.ah x.sub) 192)).heap.size (wr.alloc (.cells (cO x.ah x.sub) 192))).alloc (Nat.le_refl _) (.cells #[aa] 53);have O3:=O2.below bC;have ae:w1.heap.size<=(wr.alloc (.cells (cO x.ah x.sub) 192)).heap.size:=(by have:=a7.size;have:=b2.size;omega);have J:w1.heap.size<=((wr.alloc (.cells (cO x.ah x.sub) 192)).alloc (.cells #[aa] 53)).heap.size:=Nat.le_trans ae bC.size;have a3:Src ((wr.alloc (.cells (cO x.ah x.sub) 192)).alloc (.cells #[aa] 53)) (aj (wr.alloc (.cells (cO x.ah x.sub) 192)).heap.size) [aa]:=Src.made (wr.alloc (.cells (cO x.ah x.sub) 192)) _ _;have au:(wr.alloc (.cells (cO x.ah x.sub) 192)).heap.size=wr.heap.size+1:=(by simp);rw[au]at a3;clear au;have ag:=dx O2 b2 bC ae;clear O2 b2 bC ae hcell bx hu aR hx;go_wp2_with (at_builtin;refine a9 _ rfl (.tmp 18) (.tmp 21) 334 rfl gA w1 53 i0 z0 24 Tryz.underlying334 bM bL bJ bR bB (by decide) (λb=>b<w1.heap.size) (Y A3 n3 c3) _ rfl O3 _ 1 [aa] () rfl a3 rfl (by rw[aW];unfold maxLen;omega) (by rw[aW];omega) J ?_;rw[aW,<-a4.out];intro A6 bX w8 O8 cz gr bf);have aJ:Below w1 w1 w8:=((a7.trans (ag.out.2.1.mono a7.size)).trans (ag.out.2.2.1.mono ag.out.2.2.2)).grown gr J (λk hk=>(O3.lt hk).1)
   go_round
   case rel=>exact⟨n3+1,by go_num,by omega,O8,aJ⟩
   case measure=>simp[intOf];omega
  ·obtain rfl:i=n1:=(by omega);rw[aw.out,List.take_length]at O;obtain⟨A3,n3,c3,rfl,a2,bY⟩:=O.form;have aJ:=a6.trans (a7.mono a6.size);have e3:n3=i:=(by rw[a2.out,List.length_map,aw.out]);rcases(show n3=0\/n3=1 by omega)with e | e
   ·have aI:(q.map λ_=>())=[]:=by
     have h9:q.length=0:=(by rw[<-aw.out,<-e3];exact e);rw[List.length_eq_zero_iff.1 h9];rfl
    rw[aI]at O;have HQ:=Lib.hid aI;clear aI;subst e3;subst e;have rd:=rp A3 c3 wr;clear a2 aw;go_wp2_with fail;refine rd.mono ?_;clear rd;rintro e w3 ⟨rfl,b3⟩;go_wp2;go_ret;exact⟨_,rfl,by rw[HQ.out];exact aD.nil _ _ _ _ _,aJ.trans (b3.mono aJ.size)⟩
   ·have aI:(q.map λ_=>())=[()]:=by
     have h9:q.length=1:=(by rw[<-aw.out,<-e3];exact e);obtain⟨y,hy⟩:=List.length_eq_one_iff.1 h9;rw[hy];rfl
    rw[aI]at O;have HQ:=Lib.hid aI;clear aI;subst e3;subst e;have az:SliceAt gA wr (λ_=>False) A3 [()]:=O.slice (λ_ h=>h.elim) (λ_ h=>h.elim);obtain⟨b,off,u,rfl,bV,b8,bx,hcell,hu⟩:=az.at_ (i:=0) (by decide) (by decide);have aR:u=[aa]:=hu;rw[aR]at hcell;have d0:wr.cell? ⟨b,off,none⟩=some aa:=(by simpa[gA]using hcell 0 _ rfl);have rd:=sx b off c3 wr d0;clear a2 aw hu aR hcell bx az;go_wp2_with fail;refine rd.mono ?_;clear rd;rintro e w3 ⟨v3,rfl,O3,b3⟩;go_wp2;go_ret;exact⟨v3,rfl,by rw[HQ.out];exact(O3.mono aJ.size).weak (λb a7=>Nat.lt_of_lt_of_le a7 aJ.size),aJ.trans (b3.mono aJ.size)⟩
def dI(l:List dY)(bK:List Nat)(x:ae):ae:={x with events:=if x.kind=1 then(if hG l bK then x.events else [])else x.events}
theorem wZ(cb:Nat)(y:Bool)(S:Nat->Prop)(A AE:Option Addr)(n c nE ba:Nat)(w:World)(hc:w.cell? (aj cb)=some (Y A n c))(aL:n=(if y then [()]else []).length)(h:SliceAt gA w S A (if y then [()]else [])):
 Calls Tryz.prog 270 #[Y AE nE ba,aj cb] w λe w'=>e=.returned (.bool y)/\Below w w w':=by
 cases y with
 | true=>
  have J:=zf S A n c [()] AE nE ba w aL (by rw[aL];decide) (by rw[aL];decide) h;clear aL h;go_enter Tryz.func270,Tryz.ntmps270;go_wp2_with fail;refine J.mono ?_;clear J;rintro e w2 ⟨rfl,b2⟩;go_wp2;go_ret;exact⟨rfl,b2⟩
 | false=>
  obtain rfl:n=0:=aL;have J:=any_nil A AE c nE ba w;clear h;go_enter Tryz.func270,Tryz.ntmps270;go_wp2_with fail;refine J.mono ?_;clear J;rintro e w2 ⟨rfl,b2⟩;go_wp2;go_ret;exact⟨rfl,b2⟩
theorem rB(S S2 S3:Nat->Prop)(AS AC A:Option Addr)(c nS c2 nC dn:Nat)(l:List dY)(bK:List Nat)(x:ae)(w:World)(cX:nS=l.length)(aW:nS<=1)(hS:SliceAt du w S AS l)(cU:nC=bK.length)(aG:nC<=1000)(hC:SliceAt b5 w S2 AC bK)
 (hx:SliceAt aN w S3 A x.events) (hg:x.aH):
 Calls Tryz.prog 223 #[Y AS nS c2,Y AC nC dn,a3 x A c] w λe w'=>∃A' c',e=.returned (aE ((dI l bK x).cellsOf A' c').toArray)/\SliceAt aN w' (λb=>b<w.heap.size) A' (dI l bK x).events/\Below w w w':=by
 obtain⟨w0,ar⟩:=am ((w.alloc (.cells (a3 x A c) 132)).alloc (.cells cZ 132));have aU:Below w w w0:=by rw[ar];exact((Below.refl _ _).alloc (Nat.le_refl _) _).alloc (by simp) _
 have bD:ai w0 w 132 (a3 x A c):=by rw[ar];exact(ai.made _ _ _).alloc _
 have aI:ai w0 (w.heap.size+1) 132 cZ:=by
  rw[ar];have:=ai.made (w.alloc (.cells (a3 x A c) 132)) 132 cZ;simpa using this
 obtain⟨xb,a0⟩:=am w.heap.size;obtain⟨rb,bh⟩:=am (w.heap.size+1);rw[<-a0]at bD;rw[<-bh]at aI;have bj:=Lib.hid a0;have bn:=Lib.hid bh;clear a0 bh;have HH:=ja (hS.below aU) (hC.below aU) ((hx.cJ (S':=λb=>S3 b\/w.heap.size<=b) (λb a7 e=>e.elim id (λe=>by omega))).below aU) cX cU;by_cases hk:x.kind=1
 focus
  have gk:((x.kind:Int)==1)=true:=(by rw[beq_iff_eq];omega);have fl:=qp S S2 AS AC nS c2 nC dn l bK w0 cX aW (hS.below aU) cU aG (hC.below aU);have az:=Lib.hid hk;clear cX hS cU hC hx hk;go_enter Tryz.func223,Tryz.ntmps223;go_wp2_with fail;rw[<-ar,<-bn.out,<-bj.out];clear ar;refine fl.mono ?_;clear fl;rintro e w1 ⟨v1,rfl,O1,b1⟩;obtain⟨A1,n1,c1,rfl,bv,bU⟩:=O1.form;have aB:=bD.below b1 bD.lt;have bz:=aI.below b1 aI.lt;have aC:=aB.lt;obtain⟨w2,a8⟩:=am (w1.alloc (.cells #[Y A1 n1 c1] 334));have b2:=aV a8;have hT:ai w2 w1 334 #[Y A1 n1 c1]:=(by rw[a8];exact ai.made _ _ _);obtain⟨tb,bg⟩:=am w1.heap.size;rw[<-bg]at hT;have ch:=Lib.hid bg;clear bg;have aK:=b1.trans (b2.mono b1.size);have bQ:=(O1.below b2).slice (S':=λ_=>False) (λ_ h=>h.elim) (λ_ h=>h.elim);have ke:=r2 270 tb (hG l bK) (λb=>S3 b\/w.heap.size<=b) A x.events.length c x.events w2 zq rfl (by have:=hg.len;omega) (HH.out.2.2.1.below aK) (λAE nE ba w' a7=>wZ tb (hG l bK) (λ_=>False) A1 AE n1 c1 nE ba w' (by have:=(hT.below a7 hT.lt).cell 0;simpa using this) bv.out (bQ.below a7));have aw:=Lib.hid bv.out;have aA:=aB.below b2 aB.lt;have bN:=bz.below b2 bz.lt;obtain⟨y0,y1,y2,bb,y4,y5,y6,y7⟩:=aB.c8;simp at y0 y1 y2 bb y4 y5 y6 y7;clear bQ;go_wp2_with fail;rw[<-a8,<-ch.out];clear a8;refine ke.mono ?_;clear ke;rintro e w3 ⟨v3,rfl,O3,b3⟩;obtain⟨A3,n3,c3,rfl,a2,bY⟩:=O3.form;have aT:=aA.below b3 aA.lt;have b0:=bN.below b3 bN.lt;have br:Below w w w3:=aU.trans ((aK.trans (b3.mono aK.size)).mono aU.size);have aj:Hid ((dI l bK x).events=x.events.filter λ_=>hG l bK):=by
   show _=_;unfold dI;rw[if_pos az.out];cases hG l bK with
   | true=>exact(List.filter_eq_self.2 (λ_ _=>rfl)).symm
   | false=>exact(List.filter_eq_nil_iff.2 (λ_ _=>by simp)).symm
  clear y0 y1 y2 bb y4 y5 y6 y7;have xf:=aT.free 7;have x7:=aT.cell 7;simp at x7;have a1:SliceAt aN w3 (λ_=>False) A3 (x.events.filter λ_=>hG l bK):=O3.slice (λ_ h=>h.elim) (λ_ h=>h.elim);go_wp2_with fail;obtain⟨w4,bd⟩:=am (w3.setCell ⟨xb,7,none⟩ (Y A3 n3 c3));have aO:ai w4 xb 132 (iY x A3 n3 c3):=(by rw[bd];simpa using aT.put 7 (Y A3 n3 c3));have aX:ai w4 rb 132 cZ:=(by rw[bd];exact b0.dA (by show ¬rb=xb;have:=bn.out;have:=bj.out;omega) _);have g4:w3.grownBy w4 (some xb):=(by rw[bd];exact aR _ _ _ _);rw[<-bd];clear bd x7 xf;have bp:Below w w w4:=br.grown g4 br.size (λk e=>by injection e with e;have:=bj.out;omega);have h4:SliceAt aN w4 (λ_=>False) A3 (x.events.filter λ_=>hG l bK):=by
   have O4:=(O3.weak (S':=λb=>b=xb) (λb e=>.inr (by rw[e,bj.out];exact Nat.le_refl _))).goes (S':=λb=>b=xb) (aJ g4 rfl) (λb e a5=>by have h1:=(O3.lt e).1;have:=aA.lt;omega);exact O4.slice (λ_ h=>h.elim) (λ_ h=>h.elim)
  have bH:=Lib.hid a2.out;have aD:Hid ((x.events.filter λ_=>hG l bK).length<=x.events.length):=List.length_filter_le _ _;have M:Hid (∀e∈(x.events.filter λ_=>hG l bK),e∈x.events):=λe he=>(List.mem_filter.1 he).1;have ev:=hX (λ_=>False) A3 n3 c3 (x.events.filter λ_=>hG l bK) w4 bH.out (by have h8:=hg.len;have h9:_<=_:=aD.out;have h7:_=_:=bH.out;omega) h4 (λe he=>⟨(hg.lays.2 e (M.out e he)).1,(hg.lays.2 e (M.out e he)).2⟩)
 rotate_left
 focus
  have gk:((x.kind:Int)==1)=false:=(by rw[beq_eq_false_iff_ne];omega);have aj:Hid ((dI l bK x).events=x.events):=(by show _=_;unfold dI;exact if_neg hk);clear cX hS cU hC hx hk;obtain⟨n3,a2⟩:=am x.events.length;rw[<-a2]at bD ar;rw[<-a2];have bH:=Lib.hid a2;clear a2;have aD:Hid (x.events.length<=x.events.length):=Nat.le_refl _;have M:Hid (∀e∈x.events,e∈x.events):=λe he=>he;obtain⟨A3,a9⟩:=am A;obtain⟨c3,bY⟩:=am c;rw[<-a9,<-bY]at bD ar;rw[<-a9,<-bY];have h4:SliceAt aN w0 (λ_=>False) A3 x.events:=(by rw[a9];exact HH.out.2.2.1.cJ (λ_ _ h=>h.elim));clear a9 bY;go_enter Tryz.func223,Tryz.ntmps223;go_wp2_with fail;rw[<-ar,<-bn.out,<-bj.out];clear ar;have aO:=bD;have aX:=aI;have bp:=aU;obtain⟨w4,bd⟩:=am w0;rw[<-bd]at h4 aO aX bp;rw[<-bd];clear bd;have ev:=hX (λ_=>False) A3 n3 c3 x.events w4 bH.out (by have h8:=hg.len;have h9:_<=_:=aD.out;have h7:_=_:=bH.out;omega) h4 (λe he=>⟨(hg.lays.2 e (M.out e he)).1,(hg.lays.2 e (M.out e he)).2⟩)
 all_goals
  refine ev.mono ?_;clear ev;rintro e w5 ⟨v5,rfl,O5,bS⟩;obtain⟨A5,n5,c5,rfl,b7,cA⟩:=O5.form;have ca:=aO.below bS aO.lt;have aF:=aX.below bS aX.lt;have x7:=ca.cell 7;have x6:=ca.cell 6;have aL:=ca.free 7;simp at x7 x6;go_wp2_with fail;obtain⟨w6,aY⟩:=am (w5.setCell ⟨xb,7,none⟩ (Y A5 n5 c5));have bZ:ai w6 xb 132 (iY x A5 n5 c5):=(by rw[aY];simpa using ca.put 7 (Y A5 n5 c5));have bP:ai w6 rb 132 cZ:=(by rw[aY];exact aF.dA (by show ¬rb=xb;have:=bn.out;have:=bj.out;omega) _);have g6:w5.grownBy w6 (some xb):=(by rw[aY];exact aR _ _ _ _);rw[<-aY];clear aY x7 x6 aL;refine(n7 w6).mono ?_;rintro e w7 ⟨rfl,bt⟩;have cm:=bZ.below bt bZ.lt;have ck:=bP.below bt bP.lt;obtain⟨x0,x1,x2,x3,x4,x5,x6,x7⟩:=cm.c8;simp at x0 x1 x2 x3 x4 x5 x6 x7;have cH:=cm.free 6;obtain⟨r0,r1,bf,r3,r4,r5,r6,r7⟩:=ck.c8;have cj:=ck.free 0;have cf:=ck.free 1;have cd:=ck.free 2;have bW:=ck.free 3;have cb:=ck.free 4;have ce:=ck.free 5;have b6:=ck.free 6;have b4:=ck.free 7;simp at r0 r1 bf r3 r4 r5 r6 r7;have ay:rb≠xb:=(by have:=bn.out;have:=bj.out;omega);have ad:xb≠rb:=λe=>ay e.symm;have aS:(rb==xb)=false:=(by rw[beq_eq_false_iff_ne];exact ay);have aQ:(xb==rb)=false:=(by rw[beq_eq_false_iff_ne];exact ad);go_wp2_with fail;obtain⟨w8,aM⟩:=am (w7.setCell ⟨xb,6,none⟩ aa);have cv:ai w8 rb 132 cZ:=(by rw[aM];exact ck.dA (by show ¬rb=xb;have:=bn.out;have:=bj.out;omega) _);have cP:w7.grownBy w8 (some xb):=(by rw[aM];exact aR _ _ _ _);rw[<-aM];have RZ:=((((((((cv.put 0 (ag x.kind)).put 1 (ag x.id.au)).put 2 (av x.id.aq)).put 3 (av x.id.ax)).put 4 (ag x.ah)).put 5 (av x.sub)).put 6 (aa)).put 7 (Y A5 n5 c5));simp only[List.setIfInBounds_toArray,List.set_cons_zero,List.set_cons_succ]at RZ;have gz:=bl rb [(I af x.kind),(I af x.id.au),(I ak x.id.aq),(I ak x.id.ax),(I af x.ah),(I ak x.sub),(aa),(Y A5 n5 c5)] w8 0;refine bodyPost_ret (results_cell_row rfl _ _ rb 132 _ (0,0) _ rfl RZ Tryz.underlying132 rfl (by kernel_rfl)) rfl ?_;have bc:=bj.out;have a6:=bn.out;have s5:=bp.size;have s6:=bS.size;have s7:=g6.size;have s8:=bt.size;have s9:=cP.size;have J:=aO.lt;have aP:=aX.lt;have B5:=bp.trans (bS.mono bp.size);have B6:=B5.grown g6 B5.size (λk e=>by injection e with e;omega);have B7:=B6.trans (bt.mono B6.size);have B8:=B7.grown cP B7.size (λk e=>by injection e with e;omega);have B9:=B8.grown gz B8.size (λk e=>by injection e with e;omega);refine⟨A5,c5,?_,?_,B9⟩
  ·unfold ae.cellsOf;rw[aj.out,<-b7.out];rfl
  ·rw[aj.out];have gl:Goes (λb=>b<w4.heap.size) w5 (λb=>b<w4.heap.size) _:=(((aJ g6 J).trans (Goes.ao bt _)).trans (aJ cP J)).trans (aJ gz aP);exact((O5.slice (λ_ h=>h) (λ_ h=>h)).goes gl).weak (λb a7=>Nat.lt_of_lt_of_le a7 bp.size)
theorem rx(a:Int)(w:World):Calls Tryz.prog 180 #[ag a] w λe w'=>e=.returned (.bool false)/\Below w w w':=by
 have g:(a !=a)=false:=by simp
 go_enter Tryz.func180,Tryz.ntmps180;go_wp2;go_ret;exact⟨rfl,.refl _ _⟩
theorem s5(a:Int)(w:World):Calls Tryz.prog 181 #[av a] w λe w'=>e=.returned (.bool false)/\Below w w w':=by
 have g:(a !=a)=false:=by simp
 go_enter Tryz.func181,Tryz.ntmps181;go_wp2;go_ret;exact⟨rfl,.refl _ _⟩
theorem An(a:Int)(w:World):Calls Tryz.prog 117 #[ag a,ag a] w λe w'=>e=.returned (ag 0)/\Below w w w':=by
 go_enter Tryz.func117,Tryz.ntmps117;go_wp2_with fail;refine(rx a w).mono ?_;rintro e w1 ⟨rfl,b1⟩;go_wp2_with fail;refine(rx a w1).mono ?_;rintro e w2 ⟨rfl,b2⟩;go_wp2;go_ret;exact⟨rfl,b1.trans (b2.mono b1.size)⟩
theorem zl(a:Int)(w:World):Calls Tryz.prog 118 #[av a,av a] w λe w'=>e=.returned (ag 0)/\Below w w w':=by
 go_enter Tryz.func118,Tryz.ntmps118;go_wp2_with fail;refine(s5 a w).mono ?_;rintro e w1 ⟨rfl,b1⟩;go_wp2_with fail;refine(s5 a w1).mono ?_;rintro e w2 ⟨rfl,b2⟩;go_wp2;go_ret;exact⟨rfl,b1.trans (b2.mono b1.size)⟩
theorem or_zero(b:Nat)(w:World)(h0:w.cell? (aj b)=some (I af 0))(h1:w.cell? ⟨b,1,none⟩=some (I af 0)):
 Calls Tryz.prog 116 #[Y (aj b) 2 2] w λe w'=>e=.returned (ag 0)/\Below w w w':=by
 go_enter Tryz.func116,Tryz.ntmps116;go_wp2_with fail
 go_loopw [8] (λi_ wr=>(i_=I af 0\/i_=I af 1\/i_=I af 2)/\wr=w) (λi _=>2- (intOf i).toNat)
 case atStart=>exact⟨.inl rfl,rfl⟩
 case round=>
  obtain⟨h,rfl⟩:=hrel;rcases h with rfl | rfl | rfl
  ·go_wp2
   go_round
   case rel=>exact⟨.inr (.inl rfl),by first | rfl | trivial⟩
   case measure=>simp[intOf]
  ·go_wp2
   go_round
   case rel=>exact⟨.inr (.inr rfl),by first | rfl | trivial⟩
   case measure=>simp[intOf]
  ·go_wp2;go_ret;exact⟨rfl,.refl _ _⟩
theorem m5(s:dY)(x:ae)(A:Option Addr)(c cb:Nat)(w:World)(bD:ai w cb 132 (a3 x A c))(e1:s.ah=x.ah)(a5:s.sub=x.sub):
 Calls Tryz.prog 115 #[cO s.ah s.sub,aj cb] w λe w'=>e=.returned (ag 0)/\Below w w w':=by
 rw[e1,a5];obtain⟨w0,ar⟩:=am (w.alloc (.cells (cO x.ah x.sub) 192));have hC:ai w0 w 192 (cO x.ah x.sub):=by rw[ar];exact ai.made _ _ _
 have aU:=aV ar;obtain⟨sb,aM⟩:=am w.heap.size;rw[<-aM]at hC;have aF:=Lib.hid aM;clear aM;have M:=bD.below aU bD.lt;have aC:=bD.lt;have k4:∀W:World,ai W sb 192 (cO x.ah x.sub)->ai W cb 132 (a3 x A c)->W.cell? (aj sb)=some (I af x.ah)/\W.cell? ⟨sb,1,none⟩=some (I ak x.sub)/\W.cell? ⟨sb,2,none⟩=some (aa)/\W.cell? ⟨cb,4,none⟩=some (I af x.ah)/\W.cell? ⟨cb,5,none⟩=some (I ak x.sub):=λW h1 h2=>⟨h1.cell 0,h1.cell 1,h1.cell 2,h2.cell 4,h2.cell 5⟩;clear bD e1 a5;go_enter Tryz.func115,Tryz.ntmps115;go_wp2_with fail;rw[<-ar,<-aF.out];clear ar;refine wp_region_held_drew (S:=λw'=>w'.cell? (aj sb)=some (I af x.ah)/\w'.cell? ⟨sb,1,none⟩=some (I ak x.sub)/\w'.cell? ⟨sb,2,none⟩=some (aa)/\w'.cell? ⟨cb,4,none⟩=some (I af x.ah)/\w'.cell? ⟨cb,5,none⟩=some (I ak x.sub)) (by kernel_rfl) (k4 _ hC M) (λJ=>?_);refine tk 0 J ?_;refine tk 1 J ?_;refine tk 2 J ?_;refine tk 3 J ?_;refine tk 5 J ?_;refine tk 6 J ?_;refine tk 7 J ?_;refine tk 8 J ?_;refine aP 4 (λK ad=>?_);clear J;go_simp;refine(An _ _).mono ?_;rintro e w1 ⟨rfl,b1⟩;have b1:=a8 b1;have ao:=hC.below b1 hC.lt;have aB:=M.below b1 M.lt
 try dsimp only
 refine ad.out _ _ (k4 _ ao aB) (λJ=>?_);clear ad K;refine aP 9 (λK ad=>?_);clear J;go_simp;refine(zl _ _).mono ?_;rintro e w2 ⟨rfl,b2⟩;have aI:=ao.below b2 ao.lt;have aA:=aB.below b2 aB.lt
 try dsimp only
 refine ad.out _ _ (k4 _ aI aA) (λJ=>?_);clear ad K;have bC:=(Below.refl w2 w2).alloc (Nat.le_refl _) (.cells #[ag 0,ag 0] 3);have aw:=aI.below bC aI.lt;have aT:=aA.below bC aA.lt;refine aP 10 (λK ad=>?_);clear J;go_simp;refine ad.out _ _ (k4 _ aw aT) (λJ=>?_);clear ad K;refine aP 11 (λK ad=>?_);clear J;have Y:=ai.made w2 3 #[ag 0,ag 0];have z0:(w2.alloc (.cells #[ag 0,ag 0] 3)).cell? (aj w2)=some (I af 0):=(Y.cell 0).trans rfl;have z1:(w2.alloc (.cells #[ag 0,ag 0] 3)).cell? ⟨w2.heap.size,1,none⟩=some (I af 0):=(Y.cell 1).trans rfl;go_simp;refine(or_zero _ _ z0 z1).mono ?_;rintro e w3 ⟨rfl,b3⟩
 try dsimp only
 refine ad.out _ _ (k4 _ (aw.below b3 aw.lt) (aT.below b3 aT.lt)) (λJ=>?_);clear ad K;refine tk 12 J ?_;refine cB ?_ _;go_wp2;go_ret;exact⟨rfl,aU.trans ((b1.mono aU.size).trans ((b2.mono (Nat.le_trans aU.size b1.size)).trans ((bC.mono (Nat.le_trans aU.size (Nat.le_trans b1.size b2.size))).trans (b3.mono (Nat.le_trans aU.size (Nat.le_trans b1.size (Nat.le_trans b2.size bC.size)))))))⟩
theorem wW{w:World}{g i:Nat}{t:TypeId}{cs:Array Value}{v:Value}(h:ai w g t cs)(hv:cs[i]? =some v):w.setCell ⟨g,i,none⟩ v=w:=by
 have e:∀f:Obj->Obj,f (.cells cs t (0,0))=.cells cs t (0,0)->w.heap.modify g f=w.heap:=by
  intro f hf;apply Array.ext_getElem?;intro k;rw[Array.getElem?_modify];split
  ·rename_i I;subst I;rw[show w.heap[g]? =some (.cells cs t (0,0)) from h];simp only[Option.map_some,hf]
  ·rfl
 have a5:cs.setIfInBounds i v=cs:=by
  apply Array.ext_getElem?;intro j;rw[Array.getElem?_setIfInBounds];split
  ·rename_i M;subst M;split
   ·exact hv.symm
   ·rename_i hh;rw[Array.getElem?_eq_none (by omega)]at hv;cases hv
  ·rfl
 unfold World.setCell;have e3:=e (λo=>match o with
  | .cells c elem frozen=>.cells (if (none:Option Nat).isSome then c else c.setIfInBounds i v) elem frozen
  | o=>o) (by show Obj.cells (cs.setIfInBounds i v) t (0,0)=_;rw[a5])
 exact congrArg (λhp=>{w with heap:=hp}) e3
theorem y8(s:dY)(x:ae)(A:Option Addr)(c cb fb:Nat)(w:World)(bD:ai w cb 132 (a3 x A c))(hF:w.cell? (aj fb)=some (.func (.func 115) #[] #[aj cb]))(e1:s.ah=x.ah)(a5:s.sub=x.sub):
 Calls Tryz.prog 119 #[cO s.ah s.sub,aj fb] w λe w'=>e=.returned (.bool false)/\Below w w w':=by
 obtain⟨w0,ar⟩:=am (w.alloc (.cells (cO s.ah s.sub) 192));have hC:ai w0 w 192 (cO s.ah s.sub):=by rw[ar];exact ai.made _ _ _
 have aU:=aV ar;obtain⟨sb,aM⟩:=am w.heap.size;rw[<-aM]at hC;have aF:=Lib.hid aM;clear aM;have sz:=m5 s x A c cb w0 (bD.below aU bD.lt) e1 a5;have I:fb<w.heap.size:=World.block_lt_of_cell? w _ hF;clear bD e1 a5 hC;go_enter Tryz.func119,Tryz.ntmps119;go_wp2_with fail;rw[<-ar];clear ar;refine sz.mono ?_;clear sz;rintro e w2 ⟨rfl,b2⟩;go_wp2;go_ret;exact⟨rfl,aU.trans (b2.mono aU.size)⟩
theorem At(s:dY)(x:ae)(A:Option Addr)(c cb fb:Nat)(w:World)(bD:ai w cb 132 (a3 x A c))(hF:w.cell? (aj fb)=some (.func (.func 115) #[] #[aj cb]))(e1:s.ah=x.ah)(a5:s.sub=x.sub):
 Calls Tryz.prog 120 #[cO s.ah s.sub,aj fb] w λe w'=>e=.returned (.bool false)/\Below w w w':=by
 obtain⟨w0,ar⟩:=am (w.alloc (.cells (cO s.ah s.sub) 192));have hC:ai w0 w 192 (cO s.ah s.sub):=by rw[ar];exact ai.made _ _ _
 have aU:=aV ar;obtain⟨sb,aM⟩:=am w.heap.size;rw[<-aM]at hC;have aF:=Lib.hid aM;clear aM;have sz:=m5 s x A c cb w0 (bD.below aU bD.lt) e1 a5;have I:fb<w.heap.size:=World.block_lt_of_cell? w _ hF;clear bD e1 a5 hC;go_enter Tryz.func120,Tryz.ntmps120;go_wp2_with fail;rw[<-ar];clear ar;refine sz.mono ?_;clear sz;rintro e w2 ⟨rfl,b2⟩;go_wp2;go_ret;exact⟨rfl,aU.trans (b2.mono aU.size)⟩
theorem o4(base:Nat)(S:Nat->Prop)(A:Option Addr)(n c:Nat)(l:List dY)(w:World)(aL:n=l.length)(hm:n<=1)(h:aD du 192 w base S (Y A n c) l):
 Calls Tryz.prog 113 #[Y A n c] w λe w'=>e=.returned (Y A n c)/\Below w w w':=by
 rcases(show n=0\/n=1 by omega)with e | e
 ·subst e;clear aL h;go_enter Tryz.func113,Tryz.ntmps113;go_wp2_with fail
  go_loopw [6] (λi_ wr=>i_=I af 0/\wr=w) (λi _=>0)
  case atStart=>exact⟨rfl,rfl⟩
  case round=>
   obtain⟨rfl,rfl⟩:=hrel;go_wp2;go_ret;exact⟨rfl,.refl _ _⟩
 ·subst e;obtain⟨g,cur,rfl,hB,J,hcs,aT⟩:=h.block (by decide);have hs:=h.slice (S':=λ_=>False) (λ_ h=>h.elim) (λ_ h=>h.elim);obtain⟨b,off,u,hA,bV,b8,bx,hcell,hu⟩:=hs.at_ (i:=0) (by omega) (by decide);injection hA with hA;injection hA with aY aJ a9;subst aY aJ;have aR:u=[I af l[0].ah,I ak l[0].sub,aa]:=hu;rw[aR]at hcell;have d2:w.cell? ⟨g,2,none⟩=some aa:=(by simpa using hcell 2 _ rfl);have c2:cur[2]? =some aa:=(hB.cell 2).symm.trans d2;have f2:=hB.free 2;clear hu aR hcell hs h aL bx aT J hcs;go_enter Tryz.func113,Tryz.ntmps113;go_wp2_with fail
  go_loopw [6] (λi_ wr=>(i_=I af 0/\wr=w)\/(i_=I af 1/\Below w w wr)) (λi _=>1- (intOf i).toNat)
  case atStart=>exact .inl ⟨rfl,rfl⟩
  case round=>
   rcases hrel with⟨rfl,rfl⟩ | ⟨rfl,a7⟩
   ·go_wp2_with fail;refine(n7 wr).mono ?_;rintro e w2 ⟨rfl,b2⟩;have bq:=hB.below b2 hB.lt;have M:w2.cell? ⟨g,2,none⟩=some aa:=(bq.cell 2).trans c2;have ad:=bq.free 2;have ss:=wW bq c2;go_wp2_with fail
    go_round
    case rel=>exact .inr ⟨rfl,b2⟩
    case measure=>simp[intOf]
   ·go_wp2;go_ret;exact⟨rfl,a7⟩
end Go.Proofs.YtgblliofomgggaaGreat
