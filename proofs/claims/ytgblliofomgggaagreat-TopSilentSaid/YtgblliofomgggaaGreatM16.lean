import Derived.Laws.IdiomRangeMap
import Derived.Test.YtgblliofomgggaaGreatM01
import Derived.Test.YtgblliofomgggaaGreatM11
import Derived.Test.YtgblliofomgggaaGreatM15
import Derived.Test.YtgblliofomgggaaGreatM05
namespace Go.Proofs.YtgblliofomgggaaGreat
set_option maxRecDepth 100000
set_option maxHeartbeats 4000000
open Go.RowKit a7 bA p7
open Go.IntKind renaming i64 -> af,u64 -> ak
open Go.Value renaming int -> I,slice -> Y,pointer -> aL,agg -> aE
theorem py{w:World}{base:Nat}{S:Nat->Prop}{A:Option Addr}{c:Nat}{l:List Nat}(h:w.ownsRow base 3 1 (Y A l.length c) l.length (Tr.fl l)):aD b5 3 w base S (Y A l.length c) l:=by
 refine⟨l.map λk:Nat=>[Value.int .i64 (k:Int)],?_,by simp,λi u a hu ha=>?_⟩
 ·have:(l.map λk:Nat=>[Value.int .i64 (k:Int)]).flatten=Tr.fl l:=by
   unfold Tr.fl;clear h
   induction l with
   | nil=>rfl
   | cons x l M=>simpa using M
  rw[this];exact h
 ·rw[List.getElem?_map,ha]at hu;simp at hu;exact hu.symm
theorem gY(z:aM)(s:aC)(a:b4)(F:Nat->Prop)(w:World)(h:bk w F z s a):
 Calls Tryz.prog 163 #[aj a.bb] w λe w'=>e=.returned (.bool (decide (z.me=0)))/\w=w':=by
 obtain⟨v,hB,D⟩:=h.ex;have bV:=h.ce;obtain⟨bb,mr,mt,L⟩:=a;unfold bi at hB;simp only at hB bV ⊢;have y0:=hB.cell 0;simp at y0;clear h hB D;by_cases h0:z.me=0
 ·have g:((z.me:Int)==0)=true:=(by rw[beq_iff_eq];omega);have HD:Hid (decide (z.me=0)=true):=decide_eq_true h0;clear h0;go_enter Tryz.func163,Tryz.ntmps163;go_wp2;go_ret;exact⟨by rw[HD.out];rfl,rfl⟩
 ·have g:((z.me:Int)==0)=false:=(by rw[beq_eq_false_iff_ne];omega);have HD:Hid (decide (z.me=0)=false):=decide_eq_false h0;clear h0;go_enter Tryz.func163,Tryz.ntmps163;go_wp2;go_ret;exact⟨by rw[HD.out];rfl,rfl⟩
theorem mN(z:aM)(s:aC)(a:b4)(F:Nat->Prop)(w:World)(hz:z.ok)(h:bk w F z s a):
 Calls Tryz.prog 167 #[aj a.bb] w λe w'=>∃v,e=.returned v/\aD b5 3 w' w (λb=>b<w.heap.size) v (cg z)/\Below w w w':=by
 obtain⟨v,hB,D⟩:=h.ex;have bV:=h.ce;obtain⟨bb,mr,mt,L⟩:=a;unfold bi at hB;simp only at hB bV ⊢;have aJ:ai w.drew bb 130 _:=hB;have kd:=Tr.yb v.AP v.cP z.n z.p z.me w.drew D.par.1 hz.me;clear h hB D hz;go_enter Tryz.func167,Tryz.ntmps167;go_wp2_with fail;refine wp_region_held_drew (S:=(λw'=>w'.cell? (aj bb)=some (I af z.me)/\w'.cell? ⟨bb,1,none⟩=some (Y v.AP z.n v.cP))) (by kernel_rfl) (⟨aJ.cell 0,aJ.cell 1⟩) (λJ=>?_);refine tk 0 J ?_;refine tk 1 J ?_;refine tk 2 J ?_;refine tk 3 J ?_;refine tk 4 J ?_;refine tk 5 J ?_;refine tk 6 J ?_;refine tk 7 J ?_;refine aP 8 (λK ad=>?_);clear J;go_simp;refine kd.mono ?_;clear kd;rintro e w1 ⟨A1,c1,rfl,own,b1⟩;have aE:=aJ.below b1 bV
 try dsimp only
 refine ad.out _ _ (⟨aE.cell 0,aE.cell 1⟩) (λJ=>?_);clear ad K;refine aP 9 (λK ad=>?_);clear J;go_simp;refine ad.out _ _ (⟨aE.cell 0,aE.cell 1⟩) (λJ=>?_);clear ad K;refine cB ?_ _;clear J;go_wp2;go_ret;exact⟨_,rfl,py own,a8 b1⟩
theorem ge{z:aM}(hz:z.ok):(cg z).length<=16/\∀k∈cg z,k<16:=by
 have:=hz.n;unfold cg Tr.kids;refine⟨Nat.le_trans (List.length_filter_le _ _) (by simpa using this),λk hk=>?_⟩;have:=List.mem_range.1 (List.mem_filter.1 hk).1;omega
theorem z9(w:World):(zeroValue 233).run Tryz.prog w=.ok (aE #[ag 0,av 0,aa,aa,aa,aa,aa,aa]) w:=by kernel_rfl
theorem pD{w:World}{S:Nat->Prop}{mr:Nat}{s:aC}(h:gz w S mr s.bU)(k:Nat)(hk:k<1000):∃ma,(Instr.lookup 127 (.map (some mr)) (ag k) false).run Tryz.prog w=.ok (aE ((s.rep k).cellsOf ma).toArray) w/\cI w S (s.rep k) ma:=by
 obtain⟨f,hm,hf⟩:=h.ex;have hw:=ei (a:=(k:Int)) (by omega);unfold aC.rep;cases hr:s.bU k with
 | none=>
  refine⟨⟨none,0,none,0,none,0,none,0⟩,?_,cI.zero _ _⟩;rw[jS Tryz.underlying127 z9 hm hw ((hf k).1 hr) false];rfl
 | some m=>
  obtain⟨ma,h1,h2⟩:=(hf k).2 m hr;refine⟨ma,?_,h2⟩;rw[dG Tryz.underlying127 hm hw h1 false];rfl
theorem lu(z:aM)(s:aC)(a:b4)(F:Nat->Prop)(w:World)(hz:z.ok)(h:bk w F z s a):
 Calls Tryz.prog 165 #[aj a.bb] w λe w'=>∃v,e=.returned v/\aD iO 233 w' w (λb=>bO F a b\/w.heap.size<=b) v (bz z s)/\Below w w w':=by
 have kd:=mN z s a F w hz h;have bN:Hid ((cg z).length<=16/\∀k∈cg z,k<16):=ge hz;obtain⟨v,hB,D⟩:=h.ex;have bV:=h.ce;obtain⟨bb,mr,mt,L⟩:=a;unfold bi at hB;simp only at hB bV ⊢;obtain⟨i0,z0,bM,bL,bB,bJ,bR⟩:=aS Tryz.z1;have RA:=h.bU;have cS:Hid (∀b,bO F ⟨bb,mr,mt,L⟩ b\/w.heap.size<=b->bO F ⟨bb,mr,mt,L⟩ b):=λb a7=>a7.elim id (λe=>.inl (λhF=>by have:=h.lt b hF;omega));clear h hz D;go_enter Tryz.func165,Tryz.ntmps165;go_wp2_with fail;refine kd.mono ?_;clear kd;rintro e w1 ⟨dk,rfl,OK,b1⟩;obtain⟨AK,nK,cN,rfl,bl,cu⟩:=OK.form;have au:nK<=16:=by have:=bN.out.1;rw[bl.out];exact this
 go_wp2_with fail
 go_loopw [3,9] (λv_ i_ wr=>∃i:Nat,i_=I af i/\i<=nK/\aD iO 233 wr w1 (λb=>bO F ⟨bb,mr,mt,L⟩ b\/w.heap.size<=b) v_ (((cg z).take i).map s.rep)/\Below w1 w1 wr) (λ_ i _=>nK- (intOf i).toNat)
 case atStart=>exact⟨0,rfl,by omega,aD.nil _ _ _ _ _,.refl _ _⟩
 case round=>
  obtain⟨i,rfl,hi,O,a7⟩:=hrel;by_cases bA:i<nK
  ·have bu:i<(cg z).length:=(by have:=bl.out;omega);have bE:(i:Int)<(nK:Int):=(by omega);have J:=b1.trans (a7.mono b1.size);have sK:=(OK.slice (S':=λb=>b<w.heap.size) (λb a7=>a7) (λb a7=>a7)).below a7;obtain⟨b,off,u,rfl,M,b8,bx,hcell,hu⟩:=sK.at_ bu (by decide);have aR:u=[I af (cg z)[i]]:=hu;rw[aR]at hcell;have d0:wr.cell? ⟨b,off+i,none⟩=some (I af (cg z)[i]):=(by simpa[b5]using hcell 0 _ rfl);have dh:=bN.out.2 _ (List.getElem_mem bu);have a4:Hid (((cg z).take (i+1)).map s.rep=((cg z).take i).map s.rep++[s.rep (cg z)[i]]):=by
    show _=_;rw[List.take_succ_eq_append_getElem bu,List.map_append];rfl
   have aW:(((cg z).take i).map s.rep).length=i:=(by rw[List.length_map,List.length_take];omega);obtain⟨k,hk⟩:=am ((cg z)[i]);rw[<-hk]at d0 dh a4;have aa:=RA.goes (Goes.ao J _) (J.block mr RA.lt);obtain⟨ma,aL,cD⟩:=pD aa k (by omega);have cx:=(hB.below J bV).cell 10;simp at cx;obtain⟨A3,n3,c3,rfl,a2,bY⟩:=O.form;have e3:n3=i:=(by rw[a2.out,aW]);subst e3;unfold bc.cellsOf at aL;have bC:=(Below.refl wr wr).alloc (Nat.le_refl _) (.cells (fD (s.rep k) ma.A1 ma.c1 ma.A2 ma.c2 ma.A3 ma.c3 ma.A4 ma.c4) 233);have bI:iO.R (wr.alloc (.cells (fD (s.rep k) ma.A1 ma.c1 ma.A2 ma.c2 ma.A3 ma.c3 ma.A4 ma.c4) 233)) (bm (λb=>bO F ⟨bb,mr,mt,L⟩ b\/w.heap.size<=b) (Y A3 n3 c3)) (fD (s.rep k) ma.A1 ma.c1 ma.A2 ma.c2 ma.A3 ma.c3 ma.A4 ma.c4) (s.rep k):=
    ⟨ma,rfl,(cD.cJ (S':=bm (λb=>bO F ⟨bb,mr,mt,L⟩ b\/w.heap.size<=b) (Y A3 n3 c3)) (λb _ aG=>by
     rcases aG with aG | aG
     ·exact cS.out b aG
     ·exact cS.out b (.inr (Nat.le_trans b1.size (O.lt aG).1)))).below bC⟩
   clear bx hu aR hk hcell sK cD;go_wp2_with (at_builtin;refine a9 _ rfl (.tmp 13) (.tmp 20) 237 rfl iO w1 233 i0 z0 160 Tryz.underlying237 bM bL bJ bR bB (by decide) (λb=>bO F ⟨bb,mr,mt,L⟩ b\/w.heap.size<=b) (Y A3 n3 c3) (((cg z).take n3).map s.rep) rfl (O.below bC) (aj wr) 1 (fD (s.rep k) ma.A1 ma.c1 ma.A2 ma.c2 ma.A3 ma.c3 ma.A4 ma.c4) (s.rep k) rfl (Src.made wr _ _) bI (by rw[aW];unfold maxLen;omega) (by rw[aW];omega) (by simp;have:=a7.size;omega) ?_;rw[aW];intro A6 bX w6 O6 cz gr aZ);rw[<-a4.out]at O6;have aQ:∀k,(Value.slice A3 n3 c3).ownBlock=some k->w1.heap.size<=k:=λk hk=>(O.lt hk).1
   go_round
   case rel=>exact⟨n3+1,by go_num,by omega,O6,(a7.trans (bC.mono a7.size)).grown gr (Nat.le_trans a7.size bC.size) aQ⟩
   case measure=>simp[intOf];omega
  ·obtain rfl:i=nK:=(by omega);rw[bl.out,List.take_length]at O;go_wp2;go_ret;exact⟨_,rfl,O.mono b1.size,b1.trans (a7.mono b1.size)⟩
theorem Ai:(32:TypeId)<Tryz.prog.types.size:=of_decide_eq_true (by kernel_rfl)
theorem B0:(match Tryz.prog.underlying 32 with | some (.array _ _) | some (.struct _)=>true | _=>false)=true:=by rw[Tryz.underlying32]
theorem zo:Go.Maps.Keyed Tryz.prog 32:=Go.Maps.Keyed.of_law (deep_law_laid Nt.z0 (m:=2) (by omega) Ai (by kernel_rfl) B0)
theorem C6:Tryz.prog.keyType 32=true:=by kernel_rfl
theorem sh:Tryz.prog.cellsOf 32=3:=by kernel_rfl
theorem y4:Tryz.prog.cellsOf 30=1:=by kernel_rfl
theorem xy{ba c1 c2:Value}:(Value.agg #[ba,c1,c2]).formed Tryz.prog 32=true:=by simp[Value.formed,Tryz.underlying32,sh]
theorem Cu(w:World):(zeroValue 3).run Tryz.prog w=.ok (ag 0) w:=by kernel_rfl
theorem Bq(x:PId)(hx:x.aH):∃l,keyOf Tryz.prog 32 x.val=some l:=by
 unfold keyOf PId.val;rw[Tryz.underlying32];simp only[C6,xy,Bool.and_self,if_true];obtain⟨m,hm⟩:∃m,Tryz.prog.types.size+1=m+2:=⟨Tryz.prog.types.size-1,by have h:32<Tryz.prog.types.size:=Ai;omega⟩;rw[hm];have a1:∀a:Int,(Lit.int .i64 a).wf=true->Tryz.prog.keyLits (m+1) 3 [.int .i64 a]=some [.int .i64 a]:=λa ha=>by
  unfold Program.keyLits;rw[Tryz.underlying3];simp[ha]
 have I:∀a:Int,(Lit.int .u64 a).wf=true->Tryz.prog.keyLits (m+1) 30 [.int .u64 a]=some [.int .u64 a]:=λa ha=>by
  unfold Program.keyLits;rw[Tryz.underlying30];simp[ha]
 refine⟨.string (keyBytes [.int .i64 x.au,.int .u64 x.aq,.int .u64 x.ax]),?_⟩;unfold Program.keyLits;rw[Tryz.underlying32];simp only[Value.cells,sh];have a7:=hx.b;have hl:=hx.l;have hs:=hx.s;have u0:IntKind.u64.min=0:=rfl;have u1:IntKind.u64.max=18446744073709551615:=rfl;have w1:(Lit.int .u64 (x.aq:Int)).wf=true:=by simp[Lit.wf,u0,u1];omega
 have w2:(Lit.int .u64 (x.ax:Int)).wf=true:=by simp[Lit.wf,u0,u1];omega
 simp[Nt.wi,y4,a1 _ (ei (a:=(x.au:Int)) (by omega)),I _ w1,I _ w2]
theorem o6{w:World}{mt:Nat}(h:w.heap[mt]? =some (.map #[] 0))(x:PId)(hx:x.aH):(Instr.lookup 128 (.map (some mt)) x.val true).run Tryz.prog w=.ok (.tuple #[ag 0,.bool false]) w:=by
 obtain⟨l,hl⟩:=Bq x hx;have I:(Instr.findKey 32 x.val #[].toList).run Tryz.prog w=.ok none w:=by
  rcases zo.find w hl [] (λe he=>by cases he)with⟨hr,_⟩ | ⟨j,e,hr,hj,hk⟩
  ·exact hr
  ·simp at hj
 have hc:=zo.check w (#[]:Array MapEntry).isEmpty hl;unfold Instr.lookup;simp[run_underlying Tryz.underlying128,Go.MapKept.run_getObj_map h];simp at hc I;simp[hc,I]
theorem um(z:aM)(s:aC)(a:b4)(F:Nat->Prop)(id:PId)(w:World)(h:bk w F z s a)(hid:id.aH):
 Calls Tryz.prog 66 #[aj a.bb,id.val] w λe w'=>e=.returned (.bool false)/\Below w w w':=by
 obtain⟨v,hB,D⟩:=h.ex;have bV:=h.ce;obtain⟨bb,mr,mt,L⟩:=a;unfold bi at hB;simp only at hB bV ⊢;obtain⟨w0,ar⟩:=am (w.alloc (.cells (bY id) 32));have hI:ai w0 w 32 (bY id):=by rw[ar];exact ai.made _ _ _
 have aU:=aV ar;obtain⟨ib,aQ⟩:=am w.heap.size;rw[<-aQ]at hI;have a4:=Lib.hid aQ;clear aQ;have tl:=o6 (w:=w0.drew) (mt:=mt) ((aU.block mt (h.lt mt (h.own mt (.inr (.inr (.inl rfl)))))).trans h.told) id hid;have ab:=λ(w:World)=>fI 1 (Y v.AL s.list.length v.cL) (Y v.AQ s.ay.length v.cQ) id w ⟨_,_,_,rfl⟩ ⟨_,_,_,rfl⟩;unfold PId.val at tl ab ⊢;have aJ:ai w0.drew bb 130 _:=ai.below (w':=w0) hB aU bV;have aG:ai w0.drew ib 32 _:=hI;clear h D hB hid hI;go_enter Tryz.func66,Tryz.ntmps66;go_wp2_with fail;rw[<-ar]
 try rw[<-a4.out]
 clear ar;refine wp_region_held_drew (S:=(λw'=>w'.cell? ⟨bb,4,none⟩=some (I ak 1)/\w'.cell? ⟨bb,5,none⟩=some (Y v.AL s.list.length v.cL)/\w'.cell? ⟨bb,6,none⟩=some (Y v.AQ s.ay.length v.cQ)/\w'.cell? ⟨bb,7,none⟩=some (aa)/\w'.cell? ⟨bb,12,none⟩=some (.map (some mt))/\w'.cell? (aj ib)=some (I af id.au)/\w'.cell? ⟨ib,1,none⟩=some (I ak id.aq)/\w'.cell? ⟨ib,2,none⟩=some (I ak id.ax))) (by kernel_rfl) (⟨aJ.cell 4,aJ.cell 5,aJ.cell 6,aJ.cell 7,aJ.cell 12,aG.cell 0,aG.cell 1,aG.cell 2⟩) (λJ=>?_);refine tk 0 J ?_;refine tk 1 J ?_;refine tk 2 J ?_;refine tk 3 J ?_;refine tk 4 J ?_;refine aP 5 (λK ad=>?_);clear J;go_simp;clear tl;refine ad.out _ _ (⟨aJ.cell 4,aJ.cell 5,aJ.cell 6,aJ.cell 7,aJ.cell 12,aG.cell 0,aG.cell 1,aG.cell 2⟩) (λJ=>?_);clear ad K;refine tk 6 J ?_;refine tk 7 J ?_;refine tk 8 J ?_;refine aP 9 (λK ad=>?_);clear J;go_simp;refine ad.out _ _ (⟨aJ.cell 4,aJ.cell 5,aJ.cell 6,aJ.cell 7,aJ.cell 12,aG.cell 0,aG.cell 1,aG.cell 2⟩) (λJ=>?_);clear ad K;refine aP 10 (λK ad=>?_);clear J;go_simp;refine ad.out _ _ (⟨aJ.cell 4,aJ.cell 5,aJ.cell 6,aJ.cell 7,aJ.cell 12,aG.cell 0,aG.cell 1,aG.cell 2⟩) (λJ=>?_);clear ad K;refine cB ?_ _;clear J;have aK:Below w w w0.drew.drew:=⟨aU.os,aU.tape,aU.output,aU.size,aU.block⟩;have M:ai w0.drew.drew bb 130 _:=aJ;have ae:ai w0.drew.drew ib 32 _:=aG;have ag:=ab w0.drew.drew;go_wp2_with fail;refine wp_region_held_drew (S:=(λw'=>w'.cell? ⟨bb,4,none⟩=some (I ak 1)/\w'.cell? ⟨bb,5,none⟩=some (Y v.AL s.list.length v.cL)/\w'.cell? ⟨bb,6,none⟩=some (Y v.AQ s.ay.length v.cQ)/\w'.cell? ⟨bb,7,none⟩=some (aa)/\w'.cell? ⟨bb,12,none⟩=some (.map (some mt))/\w'.cell? (aj ib)=some (I af id.au)/\w'.cell? ⟨ib,1,none⟩=some (I ak id.aq)/\w'.cell? ⟨ib,2,none⟩=some (I ak id.ax))) (by kernel_rfl) (⟨M.cell 4,M.cell 5,M.cell 6,M.cell 7,M.cell 12,ae.cell 0,ae.cell 1,ae.cell 2⟩) (λJ=>?_);refine tk 0 J ?_;refine tk 1 J ?_;refine tk 2 J ?_;refine tk 3 J ?_;refine tk 4 J ?_;refine tk 5 J ?_;refine tk 6 J ?_;refine aP 7 (λK ad=>?_);clear J;go_simp;refine ag.mono ?_;clear ag ab;rintro e w1 ⟨rfl,b1⟩;have aE:=M.below b1 M.lt;have aI:=ae.below b1 ae.lt
 try dsimp only
 refine ad.out _ _ (⟨aE.cell 4,aE.cell 5,aE.cell 6,aE.cell 7,aE.cell 12,aI.cell 0,aI.cell 1,aI.cell 2⟩) (λJ=>?_);clear ad K;refine aP 8 (λK ad=>?_);clear J;go_simp;refine ad.out _ _ (⟨aE.cell 4,aE.cell 5,aE.cell 6,aE.cell 7,aE.cell 12,aI.cell 0,aI.cell 1,aI.cell 2⟩) (λJ=>?_);clear ad K;refine aP 9 (λK ad=>?_);clear J;go_simp;refine ad.out _ _ (⟨aE.cell 4,aE.cell 5,aE.cell 6,aE.cell 7,aE.cell 12,aI.cell 0,aI.cell 1,aI.cell 2⟩) (λJ=>?_);clear ad K;refine cB ?_ _;clear J;go_wp2;go_ret;exact⟨rfl,aK.trans (b1.mono aK.size)⟩
theorem vG{P:Prop}(h:P:=by
 clear hk J ai;go_wp2_with fail;rw[<-aN];clear aN;refine ap.mono ?_;clear ap;rintro e w2 ⟨v2,rfl,O2,b2⟩;go_wp2
 go_round
 case rel=>exact⟨i+1,by go_num,by omega,by rw[HE.out];exact(O2.mono a6.size).weak (λb aG=>Nat.lt_of_lt_of_le aG a6.size),a6.trans (b2.mono a6.size)⟩
 case measure=>simp[intOf];omega
 ):P:=h
theorem lM(z:aM)(s:aC)(a:b4)(F:Nat->Prop)(place:Nat)(w:World)(h:bk w F z s a)(hf:Fit z s)(hp:place<=s.list.length):
 Calls Tryz.prog 61 #[aj a.bb,ag place] w λe w'=>∃v,e=.returned v/\aD du 192 w' w (λb=>b<w.heap.size) v (bQ (s.list.take place))/\Below w w w':=by
 obtain⟨v,hB,D⟩:=h.ex;have bV:=h.ce;obtain⟨bb,mr,mt,L⟩:=a;unfold bi at hB;simp only at hB bV ⊢;have HF:=Lib.hid hf;have DL:=D.list;have ar:=D.cap;have y5:=hB.cell 5;simp at y5;obtain⟨n,aL⟩:=am s.list.length;rw[<-aL]at y5 hp ar;have HN:=Lib.hid aL;obtain⟨AL,ad⟩:=am v.AL;rw[<-ad]at y5 DL;obtain⟨cL,ba⟩:=am v.cL;rw[<-ba]at y5 ar;have av:n<=60:=by rw[aL];exact hf.l1
 have bh:(place:Int)<=(n:Int):=by omega
 clear h hB D hf aL ad ba;go_enter Tryz.func61,Tryz.ntmps61;go_wp2_with fail
 go_loopw [5,16] (λv_ i_ wr=>∃i:Nat,i_=I af i/\i<=place/\aD du 192 wr w (λb=>b<w.heap.size) v_ (bQ (s.list.take i))/\Below w w wr) (λ_ i _=>place- (intOf i).toNat)
 case atStart=>exact⟨0,rfl,by omega,aD.nil _ _ _ _ _,.refl _ _⟩
 case round=>
  obtain⟨i,rfl,hi,O,a7⟩:=hrel;by_cases bA:i<place
  ·have bu:i<s.list.length:=(by have:=HN.out;omega);have bE:(i:Int)<(place:Int):=(by omega);have aX:=(HF.out.list _ (List.getElem_mem bu)).aH;have J:=HF.out.lX i bu;have a4:=Lib.hid (jt s.list i bu);obtain⟨b,off,u,rfl,bV,b8,bx,hcell,A2,c8,hu,h2⟩:=(DL.goes (.ao a7 _)).at_ bu (by decide);rw[hu]at hcell;have d0:wr.cell? ⟨b,off+i*8,none⟩=some (I af s.list[i].kind):=hcell 0 _ rfl;have d1:wr.cell? ⟨b,off+i*8+1,none⟩=some (I af s.list[i].id.au):=hcell 1 _ rfl;have d2:wr.cell? ⟨b,off+i*8+2,none⟩=some (I ak s.list[i].id.aq):=hcell 2 _ rfl;have d3:wr.cell? ⟨b,off+i*8+3,none⟩=some (I ak s.list[i].id.ax):=hcell 3 _ rfl;have d4:wr.cell? ⟨b,off+i*8+4,none⟩=some (I af s.list[i].ah):=hcell 4 _ rfl;have d5:wr.cell? ⟨b,off+i*8+5,none⟩=some (I ak s.list[i].sub):=hcell 5 _ rfl;have d7:wr.cell? ⟨b,off+i*8+7,none⟩=some (Y A2 s.list[i].events.length c8):=hcell 7 _ rfl;have d6:wr.cell? ⟨b,off+i*8+6,none⟩=some aa:=hcell 6 _ rfl;obtain⟨x,hx⟩:=am (s.list[i]);rw[<-hx]at d0 d1 d2 d3 d4 d5 d7 aX a4 J;obtain⟨l,hl⟩:=am (bQ (s.list.take i));rw[<-hl]at O a4 J;obtain⟨w1,aN⟩:=am (wr.alloc (.cells (a3 x A2 c8) 132));have b1:=aV aN;have O1:=O.below b1;have a6:=a7.trans (b1.mono a7.size);obtain⟨A3,n3,c3,rfl,a2,bY⟩:=O.form;have aB:=aX.kind;clear hcell bx hu hx h2 aX hl;rcases aB with hk | hk | hk
   ·have g:((x.kind:Int) !=1)=false:=(by simp;omega);have HE:Hid (bQ (s.list.take (i+1))=l):=by
     show _=_;rw[a4.out];unfold dR;rw[if_neg (by omega),if_neg (by omega)]
    clear hk J;go_wp2_with fail
    try rw[<-aN]
    clear aN
    go_round
    case rel=>exact⟨i+1,by go_num,by omega,by rw[HE.out];exact O1,a6⟩
    case measure=>simp[intOf];omega
   ·have g:((x.kind:Int) !=1)=true:=(by simp;omega);have HE:Hid (bQ (s.list.take (i+1))=[⟨x.ah,x.sub⟩]):=by
     show _=_;rw[a4.out];unfold dR;rw[if_pos hk]
    have ai:=J.1 hk;rw[ai]at a2;obtain rfl:n3=0:=a2.out;have ap:=mV A3 A2 c3 c8 x w1 hk;exact vG
   ·have g:((x.kind:Int) !=1)=true:=(by simp;omega);have HE:Hid (bQ (s.list.take (i+1))=[]):=by
     show _=_;rw[a4.out];unfold dR;rw[if_neg (by omega),if_pos hk]
    have ai:=J.2 hk;rw[ai]at a2 O1;obtain rfl:n3=1:=a2.out;have ap:=kq A3 A2 c3 c8 x w1 hk (λb=>b<w.heap.size) (O1.slice (λb a7=>a7) (λb a7=>a7));exact vG
  ·obtain rfl:i=place:=(by omega);go_wp2;go_ret;exact⟨_,rfl,O,a7⟩
theorem np(z:aM)(bF i:Nat)(hi:i<z.homes.length):((List.range (i+1)).filter λc=>Tr.fE z.p bF (z.homes.getD c 0))=((List.range i).filter λc=>Tr.fE z.p bF (z.homes.getD c 0))++(if Tr.fE z.p bF z.homes[i]=true then [i]else []):=by
 rw[List.range_succ,List.filter_append];have:z.homes.getD i 0=z.homes[i]:=by rw[List.getD_eq_getElem?_getD,List.getElem?_eq_getElem hi];rfl
 congr 1;rw[List.filter_cons,this,List.filter_nil]
theorem qK(z:aM)(s:aC)(a:b4)(F:Nat->Prop)(bF:Nat)(w:World)(hz:z.ok)(h:bk w F z s a)(hk:bF<z.n):
 Calls Tryz.prog 221 #[aj a.bb,ag bF] w λe w'=>∃v,e=.returned v/\aD b5 3 w' w (λb=>b<w.heap.size) v (bw z bF)/\Below w w w':=by
 obtain⟨v,hB,D⟩:=h.ex;have bV:=h.ce;obtain⟨bb,mr,mt,L⟩:=a;unfold bi at hB;simp only at hB bV ⊢;obtain⟨i0,bM,bL,ae,aa⟩:=info_parts Tr.Tryz.qe;have DP:=D.par;have DH:=D.homes;have y1:=hB.cell 1;have y2:=hB.cell 2;simp at y1 y2;obtain⟨n,aL⟩:=am z.homes.length;rw[<-aL]at y2;have HN:=Lib.hid aL;have ah:=Lib.hid hz.hh;have ak:n<=32:=by rw[aL];exact hz.h2
 clear h D aL hz;go_enter Tryz.func221,Tryz.ntmps221;go_wp2_with fail;clear y1 y2
 go_loopw [5,13] (λv_ i_ wr=>∃i:Nat,i_=I af i/\i<=n/\aD b5 3 wr w (λb=>b<w.heap.size) v_ ((List.range i).filter λc=>Tr.fE z.p bF (z.homes.getD c 0))/\Below w w wr) (λ_ i _=>n- (intOf i).toNat)
 case atStart=>exact⟨0,rfl,by omega,aD.nil _ _ _ _ _,.refl _ _⟩
 case round=>
  obtain⟨i,rfl,hi,O,a7⟩:=hrel;by_cases bA:i<n
  ·have bu:i<z.homes.length:=(by have:=HN.out;omega);have bE:(i:Int)<(n:Int):=(by omega);have a4:=Lib.hid (np z bF i bu);have ad:=ah.out _ (List.getElem_mem bu);obtain⟨b,off,u,ai,M,b8,bx,hcell,hu⟩:=(DH.goes (.ao a7 _)).at_ bu (by decide);have aR:u=[I af z.homes[i]]:=hu;rw[aR]at hcell;have d0:wr.cell? ⟨b,off+i,none⟩=some (I af z.homes[i]):=(by simpa[b5]using hcell 0 _ rfl);obtain⟨hm,J⟩:=am (z.homes[i]);rw[<-J]at d0 a4 ad;have up:=Tr.BC v.AP v.cP z.n wr z.p wr (DP.goes (.ao a7 _)).1 bF hm hk ad;have y1:=(hB.below a7 bV).cell 1;simp at y1;obtain⟨l,hl⟩:=am ((List.range i).filter λc=>Tr.fE z.p bF (z.homes.getD c 0));have aq:l.length<=32:=(by rw[hl];exact Nat.le_trans (List.length_filter_le _ _) (by simp;omega));rw[<-hl]at O a4;obtain⟨A3,n3,c3,rfl,a2,bY⟩:=O.form;have bH:=Lib.hid a2.out;rw[ai];clear bx hu aR hcell J hl;cases ay:Tr.fE z.p bF hm with
   | false=>
    rw[ay]at up a4;have HE:Hid (((List.range (i+1)).filter λc=>Tr.fE z.p bF (z.homes.getD c 0))=l):=by
     show _=_;rw[a4.out];simp
    clear ay;go_wp2_with fail;refine up.mono ?_;clear up;rintro e w1 ⟨rfl,rfl⟩;go_wp2
    go_round
    case rel=>exact⟨i+1,by go_num,by omega,by rw[HE.out];exact O,a7⟩
    case measure=>simp[intOf];omega
   | true=>
    rw[ay]at up a4;have HE:Hid (((List.range (i+1)).filter λc=>Tr.fE z.p bF (z.homes.getD c 0))=l++[i]):=by
     show _=_;rw[a4.out];simp
    clear ay;go_wp2_with fail;refine up.mono ?_;clear up;rintro e w1 ⟨rfl,rfl⟩;have bC:=(Below.refl wr wr).alloc (Nat.le_refl _) (.cells #[ag (i:Int)] 3);go_wp2_with (at_builtin;refine a9 _ rfl (.tmp 25) (.tmp 27) 22 rfl b5 w 3 i0 (ag 0) 8 Tryz.underlying22 bM bL ae aa rfl (by decide) (λb=>b<w.heap.size) (Y A3 n3 c3) l rfl (O.below bC) (aj wr) 1 [ag (i:Int)] i rfl (Src.made wr _ _) rfl (by unfold maxLen;omega) (by omega) (by simp;have:=a7.size;omega) ?_;rw[<-bH.out];intro A6 bX w6 O6 cz gr aZ);have aQ:∀k,(Value.slice A3 n3 c3).ownBlock=some k->w.heap.size<=k:=λk hk=>(O.lt hk).1
    go_round
    case rel=>exact⟨i+1,by go_num,by omega,by rw[HE.out];exact O6,(a7.trans (bC.mono a7.size)).grown gr (Nat.le_trans a7.size bC.size) aQ⟩
    case measure=>simp[intOf];omega
  ·obtain rfl:i=n:=(by omega);have HE:Hid (bw z bF=((List.range i).filter λc=>Tr.fE z.p bF (z.homes.getD c 0))):=by
    show _=_;unfold bw;rw[<-HN.out]
   go_wp2;go_ret;exact⟨_,rfl,by rw[HE.out];exact O,a7⟩
section
open Go.RowKit Go.Shelf
attribute [local go_sem] Oper.semAt_some
theorem tC(W:World)(mt:Nat)(ty:TypeId)(h:W.heap[mt]? =some (.map #[] 0)):
 (Instr.next (aj W) false ty).run Tryz.prog (W.alloc (.mapIter (some mt) 0 #[] 0))=.ok (.tuple #[.bool false]) (W.alloc (.mapIter (some mt) 0 #[] 0)):=by
 rcases run_next_map (P:=Tryz.prog) W ty mt 0 0 #[] #[] 0 h (λx hx=>by simp at hx) (Nat.le_refl _)with⟨_,h2⟩ | ⟨e,he,_⟩
 ·exact h2
 ·simp[leftOf]at he
theorem xh{α:Type}(F:Fence)(d:Nat)(hF:F.fn 304)(ad:F.round=none)(l mb mt:Nat)(J Jx:List α->World->Prop)(W:World)(I:W.cell? (aj mb)=some (.map (some mt)))(ae:W.heap[mt]? =some (.map #[] 0))(hJ:AbidesFrom W J)(h0:J [] W):
 CallsIn F d Tryz.prog 304 #[.func (.yield l) #[] #[],aj mb] W λe W'=>(∃v,e=.returned v)/\((∃ys,ys=[]/\J ys W')\/(∃pre,True/\Jx pre W')):=by
 have aa:=run_range_map (P:=Tryz.prog) W 128 32 3 mt #[] 0 Tryz.underlying128 ae;have M:=λty=>tC W mt ty ae;refine callsIn_of_wp Tryz.func304 rfl hF ?_ ad;simp only[Tryz.ntmps304,List.size_toArray,List.length_cons,List.length_nil,Nat.reduceAdd,Nat.reduceSub,Array.replicate_succ,Array.replicate_zero,List.push_toArray,List.append_toArray,List.nil_append,List.cons_append]
 gi_wp2
 gi_loopw [6] (λ_ wr=>wr=W.alloc (.mapIter (some mt) 0 #[] 0)) (λi _=>0)
 case atStart=>rfl
 case round=>
  obtain rfl:=hrel
  gi_wp2
  go_end0
  exact⟨⟨_,rfl⟩,.inl ⟨_,rfl,hJ _ _ _ none h0 (World.grownBy_alloc W _ none) (λr e=>by cases e)⟩⟩
theorem xB(mb mt:Nat)(w:World)(I:w.cell? (aj mb)=some (.map (some mt)))(ae:w.heap[mt]? =some (.map #[] 0)):
 CallsIn Fence.wide 5 Tryz.prog 318 #[aa,.func (.func 304) #[] #[aj mb]] w λe w'=>e=.returned aa/\Below w w w':=by
 have bA:mb<w.heap.size:=World.block_lt_of_cell? w _ I;have dc:mt<w.heap.size:=(Array.getElem?_eq_some_iff.1 ae).1;refine callsIn_of_wp_marks Tryz.func318 rfl trivial ?_ rfl;simp only[Tryz.ntmps318,List.size_toArray,List.length_cons,List.length_nil,Nat.reduceAdd,Nat.reduceSub,Array.replicate_succ,Array.replicate_zero,List.push_toArray,List.append_toArray,List.nil_append,List.cons_append]
 gi_wp2
 have bO:=Boxed.new w 47 aa;have aR:Below w w (w.alloc (.cells #[aa] 47)):=(Below.refl _ w).alloc (Nat.le_refl _) _;have ai:SeqStopsK Fence.wide 4 Tryz.prog 304 #[aj mb] (λx:Empty=>x.elim) (Tr.Kept (w.heap.size+1) w) (λys=>ys=[]) (λ_=>True) 0 (w.alloc (.cells #[aa] 47)):=λl J Jx W aP hJ _ _ h0=>
  xh Fence.wide 4 trivial rfl l mb mt J Jx W ((aP.cell (p:=⟨mb,0,none⟩) (by simp;omega)).trans ((aR.cell (p:=⟨mb,0,none⟩) bA).trans I)) ((aP.block mt (by simp;omega)).trans ((aR.block mt dc).trans ae)) hJ h0
 refine wpIn_rangeFunc_ownG rfl (by omega) (gf:=304) (lb:=#[.pointer (aj mb)]) rfl trivial (enters_of Tryz.func304 (by kernel_rfl) rfl)
  ai (λh k=>h.trans k) (λW l o o' hl h h1 h2=>Tr.Kept.put W l o o' (by simp at hl;omega) h h1 h2) (Below.refl _ _) (λx=>x.elim)
  (λ_ W=>Boxed W w 47 aa/\Below w w W)
  (λ_ _ _=>False)
  (OwnFrom.and (Own.from (boxed_own _ _ _) _) (ownFrom_below (Nat.le_refl _) (by simp)))
  (λ_ _ _ _ _ hs _ _=>hs)
  ⟨bO,aR⟩
  (λx=>x.elim) ?assign ?body ?done ?stop
 case assign=>
  intro l x;exact x.elim
 case body=>
  intro l pre x;exact x.elim
 case done=>
  rintro D ys W hD rfl ⟨hv,hB⟩ ad;have hc:=hv.cell
  gi_wp2
  refine⟨by simp,.inl ⟨_,_,rfl,run_takeDeferred ad,?_⟩⟩;exact⟨_,results_tmp rfl _ _ _,rfl,hB.trans (belowK_b (w:=w) (Nat.le_refl _) W D _ _ (by simp at hD;omega) ad rfl rfl)⟩
 case stop=>
  rintro D c pre W _ _ h _;exact h.elim
theorem x4(mb mt:Nat)(w:World)(I:w.cell? (aj mb)=some (.map (some mt)))(ae:w.heap[mt]? =some (.map #[] 0)):
 Calls Tryz.prog 318 #[aa,.func (.func 304) #[] #[aj mb]] w λe w'=>e=.returned aa/\Below w w w':=callsIn_wide.1 (xB mb mt w I ae)
theorem oC(mb mt:Nat)(w:World)(I:w.cell? (aj mb)=some (.map (some mt)))(ae:w.heap[mt]? =some (.map #[] 0)):
 Calls Tryz.prog 302 #[.func (.func 304) #[] #[aj mb]] w λe w'=>e=.returned aa/\Below w w w':=by
 have sq:=x4 mb mt w I ae;clear I ae;go_enter Tryz.func302,Tryz.ntmps302;go_wp2_with fail;refine sq.mono ?_;rintro e w1 ⟨rfl,b1⟩;go_wp2;go_ret;exact⟨rfl,b1⟩
theorem qh(f:Value)(w:World):Calls Tryz.prog 325 #[aa,ag 0,ag 0,f] w λe w'=>(∃v,e=.returned v)/\w=w':=by
 go_enter Tryz.func325,Tryz.ntmps325;go_wp2
 go_loopw [8] (λi wr=>i=I af 1/\wr=w) (λ_ _=>0)
 case atStart=>exact⟨rfl,rfl⟩
 case round=>
  obtain⟨rfl,rfl⟩:=hrel;go_wp2
  go_end0
  exact⟨⟨_,rfl⟩,rfl⟩
theorem w2(k:Int)(f:Value)(w:World):Calls Tryz.prog 319 #[aa,ag 0,ag 0,ag k,f] w λe w'=>(∃v,e=.returned v)/\w=w':=by
 have ins:=qh f w;go_enter Tryz.func319,Tryz.ntmps319;go_wp2_with fail
 go_loopw [1,2] (λi j wr=>i=I af 0/\j=I af 0/\wr=w) (λ_ _ _=>0)
 case atStart=>exact⟨rfl,rfl,rfl⟩
 case round=>
  obtain⟨rfl,rfl,rfl⟩:=hrel;go_wp2_with fail;refine ins.mono ?_;rintro e w1 ⟨⟨v,rfl⟩,rfl⟩;go_wp2;refine bodyPost_ret (results_none rfl _ _ _) rfl ?_;exact⟨⟨_,rfl⟩,rfl⟩
theorem sH(w:World):Calls Tryz.prog 334 #[av 0] w λe w'=>e=.returned (ag 0)/\w=w':=by
 go_enter Tryz.func334,Tryz.ntmps334;go_wp2;go_ret;exact⟨by kernel_rfl,rfl⟩
theorem xu(w:World):Calls Tryz.prog 320 #[av 0] w λe w'=>e=.returned (ag 0)/\w=w':=by
 have l0:=sH w;go_enter Tryz.func320,Tryz.ntmps320;go_wp2_with fail;refine l0.mono ?_;rintro e w1 ⟨rfl,rfl⟩;go_wp2;go_ret;exact⟨rfl,rfl⟩
theorem ub(f:Value)(w:World):Calls Tryz.prog 303 #[aa,f] w λe w'=>(∃v,e=.returned v)/\w=w':=by
 have l0:=xu w;have p0:=w2 0 f w;go_enter Tryz.func303,Tryz.ntmps303;go_wp2_with fail;refine l0.mono ?_;rintro e w1 ⟨rfl,rfl⟩;go_wp2_with fail;refine p0.mono ?_;rintro e w1 ⟨⟨v,rfl⟩,rfl⟩;go_wp2
 go_end0
 exact⟨⟨_,rfl⟩,rfl⟩
theorem qX(mb mt:Nat)(f:Value)(w:World)(I:w.cell? (aj mb)=some (.map (some mt)))(ae:w.heap[mt]? =some (.map #[] 0)):
 Calls Tryz.prog 272 #[.func (.func 304) #[] #[aj mb],f] w λe w'=>e=.returned aa/\Below w w w':=by
 have co:=oC mb mt w I ae;have so:=ub f;clear I ae;go_enter Tryz.func272,Tryz.ntmps272;go_wp2_with fail;refine co.mono ?_;clear co;rintro e w1 ⟨rfl,b1⟩;go_wp2_with fail;refine(so w1).mono ?_;clear so;rintro e w2 ⟨⟨v,rfl⟩,rfl⟩;go_wp2;go_ret;exact⟨rfl,b1⟩
theorem yr(mt:Nat)(w:World):Calls Tryz.prog 273 #[.map (some mt)] w λe w'=>e=.returned (.func (.func 304) #[] #[aj w])/\w'=w.alloc (.cells #[.map (some mt)] 128):=by
 go_enter Tryz.func273,Tryz.ntmps273;go_wp2;go_ret;exact⟨rfl,rfl⟩
theorem nR(w:World):Calls Tryz.prog 68 #[aa] w λe w'=>e=.returned aa/\w=w':=by
 unfold aa;have e:(binOp .eql 47 (Y none 0 0) (Y none 0 0)).run Tryz.prog w=.ok (.bool true) w:=by rfl
 go_enter Tryz.func68,Tryz.ntmps68;go_wp2;go_ret;exact⟨rfl,rfl⟩
theorem kI(w:World):(Builtin.append_ #[47,47] 47 #[aa,aa]).run Tryz.prog w=.ok aa w:=by
 obtain⟨i0,bM⟩:∃i,Tryz.prog.info? 32=some i:=Option.isSome_iff_exists.1 (by kernel_rfl);exact dw w 0 1 47 47 32 i0 Tryz.underlying47 bM aa 0 [] (World.ownsRow_nil _ _ _ _) 0
theorem sj(z:aM)(s:aC)(a:b4)(F:Nat->Prop)(w:World)(h:bk w F z s a):
 Calls Tryz.prog 225 #[aj a.bb] w λe w'=>e=.returned aa/\Below w w w':=by
 obtain⟨v,hB,D⟩:=h.ex;have bV:=h.ce;have ae:=h.told;have bl:=h.lt _ (h.own a.mt (.inr (.inr (.inl rfl))));obtain⟨bb,mr,mt,L⟩:=a;unfold bi at hB;simp only at hB bV ae bl ⊢;obtain⟨w0,ar⟩:=am (w.alloc (.cells #[aj bb] 80));have hC:ai w0 w 80 #[aj bb]:=by rw[ar];exact ai.made _ _ _
 have aU:=aV ar;obtain⟨cb,M⟩:=am w.heap.size;rw[<-M]at hC;have aF:=Lib.hid M;have ad:=hB.cell 12;simp at ad;have I:=yr mt w0;clear h D M;go_enter Tryz.func225,Tryz.ntmps225;go_wp2_with fail;rw[<-ar]
 try rw[<-aF.out]
 clear ar;refine I.mono ?_;clear I;rintro e w1 ⟨rfl,aN⟩;have b1:=aV aN;have hM:ai w1 w0 128 #[.map (some mt)]:=by rw[aN];exact ai.made _ _ _
 have m0:=hM.cell 0;simp at m0;have so:=qX w0 mt (.func (.func 274) #[] #[aj cb]) w1 m0 ((b1.block mt (Nat.lt_of_lt_of_le bl aU.size)).trans ((aU.block mt bl).trans ae));have a6:=aU.trans (b1.mono aU.size);clear aN m0 ad;go_wp2_with fail;refine so.mono ?_;clear so;rintro e w2 ⟨rfl,b2⟩;have bo:=a6.trans (b2.mono a6.size);have bq:=hB.below bo bV;have aI:=(hC.below b1 hC.lt).below b2 (hC.below b1 hC.lt).lt;have ba:=aI.cell 0;have y7:=bq.cell 7;simp at ba y7;have cl:=nR w2;go_wp2_with fail;refine cl.mono ?_;clear cl;rintro e w3 ⟨rfl,rfl⟩;have aT:=kI;clear ba y7;go_wp2;go_ret;exact⟨rfl,bo⟩
end
def hp(z:aM)(s:aC):List ae->Prop
 | []=>True
 | x::l=>rZ z s x/\hp z (s.dd x) l
theorem l9{z:aM}(hz:z.ok):∀ (l:List ae) (s:aC) (i:Nat) (h:i<l.length),hp z s l->Fit z s->(∀x∈l,ch z x)->rZ z ((l.take i).foldl aC.dd s) l[i]/\Fit z ((l.take i).foldl aC.dd s)
 | [],_,_,h,_,_,_=>by simp at h
 | x::l,s,0,_,hc,hf,_=>⟨hc.1,hf⟩
 | x::l,s,i+1,h,hc,hf,hg=>l9 hz l (s.dd x) i (by simpa using h) hc.2 (hf.dd hz hc.1 (hg x (by simp))) (λy hy=>hg y (by simp[hy]))
theorem sr(s:aC)(l:List ae)(i:Nat)(h:i<l.length):(l.take (i+1)).foldl aC.dd s=((l.take i).foldl aC.dd s).dd l[i]:=by
 rw[List.take_succ_eq_append_getElem h,List.foldl_append];rfl
theorem vb{list ps l:List ae}:∀x∈dP list ps l,x∈l:=by
 unfold dP
 suffices h:∀ (l acc:List ae),∀x∈l.foldl (b6 list ps) acc,x∈acc\/x∈l from λx hx=>(h l [] x hx).elim (λh=>by cases h) id
 intro l
 induction l with
 | nil=>intro acc x hx;exact .inl hx
 | cons y l M=>
  intro acc x hx;rw[List.foldl_cons]at hx;rcases M _ x hx with h | h
  ·unfold b6 at h;split at h
   ·exact .inl h
   ·rcases List.mem_append.1 h with h | h
    ·exact .inl h
    ·exact .inr (by rw[List.mem_singleton.1 h];simp)
  ·exact .inr (by simp[h])
theorem uj(list ps l:List ae):(dP list ps l).length<=l.length:=by
 unfold dP
 suffices h:∀ (l acc:List ae),(l.foldl (b6 list ps) acc).length<=acc.length+l.length by simpa using h l []
 intro l
 induction l with
 | nil=>intro acc;simp
 | cons y l M=>
  intro acc;rw[List.foldl_cons];refine Nat.le_trans (M _) ?_;unfold b6;split
  ·simp
   try omega
  ·simp
   try omega
theorem tN(a b l m c d:Int)(A:Option Addr)(k e:Nat):(Program.built Tryz.prog 161 [(0,I af 3),(2,aE #[ag a,ag b,av l,av m,ag c,av d,aa,Y A k e])]).map Array.toList=some [I af 3,I ak 0,I af a,I af b,I ak l,I ak m,I af c,I ak d,aa,Y A k e,I af 0,I ak 0,I ak 0]:=by kernel_rfl
theorem uU(a b l m c d:Int)(A:Option Addr)(k e:Nat)(w:World):(Instr.build 161 #[(0,I af 3),(2,aE #[ag a,ag b,av l,av m,ag c,av d,aa,Y A k e])]).run Tryz.prog w=.ok (aE #[ag 3,av 0,ag a,ag b,av l,av m,ag c,av d,aa,Y A k e,ag 0,av 0,av 0]) w:=by
 obtain⟨cs,h1,h2⟩:=Option.map_eq_some_iff.1 (tN a b l m c d A k e);rw[run_build w 161 _ cs h1];rw[show cs=#[I af 3,I ak 0,I af a,I af b,I ak l,I ak m,I af c,I ak d,aa,Y A k e,I af 0,I ak 0,I ak 0] from Array.toList_inj.1 h2]
theorem vn(z:aM)(s:aC)(a:b4)(F:Nat->Prop)(S9:Nat->Prop)(l:List ae)(A:Option Addr)(n c:Nat)(w:World)(hz:z.ok)(h:bk w F z s a)(hf:Fit z s)(aL:n=l.length)(hm:s.ay.length+n<=5)(hl:SliceAt aB w S9 A l)(hg:∀x∈l,ch z x)
 (hc:hp z s (dP s.list s.ay l)):
 Calls Tryz.prog 238 #[aj a.bb,Y A n c] w λe w'=>(∃r,e=.returned r)/\∃a':b4,aY w w' F z ((dP s.list s.ay l).foldl aC.dd s) a a':=by
 obtain⟨i0,z0,bM,bL,bB,bJ,bR⟩:=aS Tryz.dJ;have az:SliceAt aB w (λb=>S9 b\/w.heap.size<=b) A l:=hl.cJ (λb a7 e=>e.elim id (λe=>by omega));have HH:=ja h hf hz hg hc;have HT:=Lib.hid h.told;have HN:=Lib.hid aL;obtain⟨v,hB,D⟩:=h.ex;have bV:=h.ce;obtain⟨bb,mr,mt,L⟩:=a;unfold bi at hB;simp only at hB bV ⊢;have a1:=hf.l1;have bs:=bV;have bl:mt<w.heap.size:=h.lt mt (h.own mt (.inr (.inr (.inl rfl))));clear hl h aL hg hc hz hf;go_enter Tryz.func238,Tryz.ntmps238;go_wp2_with fail
 go_loopw [5,6,19] (λr_ v_ i_ wr=>r_=aa/\∃i:Nat,i_=I af i/\i<=n/\aD aB 132 wr w (λb=>S9 b\/w.heap.size<=b) v_ (l.take i)/\Below w w wr) (λ_ _ i _=>n- (intOf i).toNat)
 case atStart=>exact⟨rfl,0,rfl,by omega,aD.nil _ _ _ _ _,.refl _ _⟩
 case round=>
  obtain⟨rfl,i,rfl,hi,O,a7⟩:=hrel;by_cases bA:i<n
  ·have bu:i<l.length:=(by have:=HN.out;omega);have bE:(i:Int)<(n:Int):=(by omega);have aX:=(HH.out.2.2.2.1 _ (List.getElem_mem bu)).aH;have a4:Hid (l.take (i+1)=l.take i++[l[i]]):=List.take_succ_eq_append_getElem bu;have aW:(l.take i).length=i:=(by rw[List.length_take];omega);obtain⟨b,off,u,rfl,bV,b8,bx,hcell,A2,c8,hu,h2⟩:=(az.goes (.ao a7 _)).at_ bu (by decide);rw[hu]at hcell;have d0:wr.cell? ⟨b,off+i*8,none⟩=some (I af l[i].kind):=hcell 0 _ rfl;have d1:wr.cell? ⟨b,off+i*8+1,none⟩=some (I af l[i].id.au):=hcell 1 _ rfl;have d2:wr.cell? ⟨b,off+i*8+2,none⟩=some (I ak l[i].id.aq):=hcell 2 _ rfl;have d3:wr.cell? ⟨b,off+i*8+3,none⟩=some (I ak l[i].id.ax):=hcell 3 _ rfl;have d4:wr.cell? ⟨b,off+i*8+4,none⟩=some (I af l[i].ah):=hcell 4 _ rfl;have d5:wr.cell? ⟨b,off+i*8+5,none⟩=some (I ak l[i].sub):=hcell 5 _ rfl;have d7:wr.cell? ⟨b,off+i*8+7,none⟩=some (Y A2 l[i].events.length c8):=hcell 7 _ rfl;have d6:wr.cell? ⟨b,off+i*8+6,none⟩=some aa:=hcell 6 _ rfl;obtain⟨x,hx⟩:=am (l[i]);rw[<-hx]at d0 d1 d2 d3 d4 d5 d7 h2 aX a4;obtain⟨A3,n3,c3,rfl,a2,bY⟩:=O.form;have e3:n3=i:=(by rw[a2.out,aW]);subst e3;obtain⟨w1,aN⟩:=am (wr.alloc (.cells (a3 x A2 c8) 132));have b1:=aV aN;have bD:ai w1 wr 132 (a3 x A2 c8):=(by rw[aN];exact ai.made _ _ _);obtain⟨xb,a0⟩:=am wr.heap.size;rw[<-a0]at bD;have bj:=Lib.hid a0;have a6:=a7.trans (b1.mono a7.size);have aJ:ai w1.drew bb 130 _:=ai.below (w':=w1) hB a6 bs;have M:ai w1.drew xb 132 _:=bD;have tl:=o6 (w:=w1.drew) (mt:=mt) ((a6.block mt bl).trans HT.out) x.id aX.id;unfold PId.val at tl;have O1:=O.below b1;have a8:=h2.below b1;clear hcell bx hu hx h2 aX a0;go_wp2_with fail;rw[<-aN]
   try rw[<-bj.out]
   clear aN;refine wp_region_held_drew (S:=(λw'=>w'.cell? ⟨bb,12,none⟩=some (.map (some mt))/\w'.cell? ⟨xb,1,none⟩=some (I af x.id.au)/\w'.cell? ⟨xb,2,none⟩=some (I ak x.id.aq)/\w'.cell? ⟨xb,3,none⟩=some (I ak x.id.ax))) (by kernel_rfl) (⟨aJ.cell 12,M.cell 1,M.cell 2,M.cell 3⟩) (λJ=>?_);refine tk 0 J ?_;refine tk 1 J ?_;refine tk 2 J ?_;refine tk 3 J ?_;refine tk 4 J ?_;refine tk 5 J ?_;refine aP 6 (λK ad=>?_);clear J;go_simp;clear tl;refine ad.out _ _ (⟨aJ.cell 12,M.cell 1,M.cell 2,M.cell 3⟩) (λJ=>?_);clear ad K;refine tk 7 J ?_;refine tk 8 J ?_;refine tk 9 J ?_;refine aP 10 (λK ad=>?_);clear J;go_simp;refine ad.out _ _ (⟨aJ.cell 12,M.cell 1,M.cell 2,M.cell 3⟩) (λJ=>?_);clear ad K;refine aP 11 (λK ad=>?_);clear J;go_simp;refine ad.out _ _ (⟨aJ.cell 12,M.cell 1,M.cell 2,M.cell 3⟩) (λJ=>?_);clear ad K;refine cB ?_ _;clear J;have O2:aD aB 132 w1.drew w (λb=>S9 b\/w.heap.size<=b) _ _:=O1.below ⟨rfl,rfl,rfl,Nat.le_refl _,λ_ _=>rfl⟩;have bC:=(Below.refl w1.drew.heap.size w1.drew).alloc (Nat.le_refl _) (.cells (a3 x A2 c8) 132);have bI:aB.R (w1.drew.alloc (.cells (a3 x A2 c8) 132)) (bm (λb=>S9 b\/w.heap.size<=b) (Y A3 n3 c3)) (a3 x A2 c8) x:=
    ⟨A2,c8,rfl,(a8.fX.weak (λb aG=>aG.elim id (λe=>.inr (O1.lt e).1))).below bC⟩
   have bQ:w.heap.size<=w1.drew.heap.size:=a6.size;obtain⟨x0,x1,x2,x3,x4,x5,x6,x7⟩:=M.c8;simp at x0 x1 x2 x3 x4 x5 x6 x7;go_wp2_with (at_builtin;refine a9 _ rfl (.tmp 39) (.tmp 41) 46 rfl aB w 132 i0 z0 96 Tryz.underlying46 bM bL bJ bR bB (by decide) (λb=>S9 b\/w.heap.size<=b) (Y A3 n3 c3) (l.take n3) rfl (O2.below bC) (aj w1.drew.heap.size) 1 (a3 x A2 c8) x rfl (Src.made w1.drew _ _) bI (by rw[aW];unfold maxLen;omega) (by rw[aW];omega) (by simp;have:w.heap.size<=w1.heap.size:=bQ;omega) ?_;intro A6 bX w6 O6 cz gr aZ);rw[aW,<-a4.out]at O6;have aQ:∀k,(Value.slice A3 n3 c3).ownBlock=some k->w.heap.size<=k:=λk hk=>(O.lt hk).1;have aK:Below w w w1.drew:=⟨a6.os,a6.tape,a6.output,a6.size,a6.block⟩
   go_round
   case rel=>exact⟨rfl,n3+1,by go_num,by omega,O6,(aK.trans (bC.mono aK.size)).grown gr (Nat.le_trans aK.size bC.size) aQ⟩
   case measure=>simp[intOf];omega
  ·obtain rfl:i=n:=(by omega);rw[HN.out,List.take_length]at O;clear az;obtain⟨nn,rfl⟩:=am i;obtain⟨wm,rfl⟩:=am wr;obtain⟨AM,nM,ds,rfl,bc,dB⟩:=O.form;have cF:=hB.below a7 bs;have y4:=cF.cell 4;have y5:=cF.cell 5;have y6:=cF.cell 6;have y7:=cF.cell 7;simp at y4 y5 y6 y7;have ar:=bc.out;have pm:=qv (bO F ⟨bb,mr,mt,L⟩) (λb=>(S9 b\/w.heap.size<=b)/\b<w.heap.size) 1 v.AL v.AQ _ v.cL _ v.cQ s.list s.ay AM nM ds l wm (D.list.goes (.ao a7 _)) (D.prom.goes (.ao a7 _)) rfl (by omega) rfl ar (by rw[ar,<-HN.out];exact hm) (O.slice (λb a7=>a7.1) (λb a7=>a7.2)) (λx hx=>(HH.out.2.2.2.1 x hx).aH);have aT:=kI;clear ar;go_wp2_with fail;refine pm.mono ?_;clear pm y4 y5 y6 y7;rintro e w2 ⟨vP,rfl,OP,b2⟩;obtain⟨P,bv⟩:=am (dP s.list s.ay l);have a5:∀x∈P,ch z x:=λx hx=>HH.out.2.2.2.1 x (vb x (by rw[<-bv];exact hx));have aF:hp z s P:=(by rw[bv];exact HH.out.2.2.2.2);have bh:P.length<=5:=(by rw[bv];have:=uj s.list s.ay l;have:=HN.out;omega);rw[<-bv]at OP;have av:=Lib.hid bv;have aU:=Lib.hid a5;have bf:=Lib.hid aF;clear bv a5 aF;obtain⟨AP,nP,cP,rfl,bU,b9⟩:=OP.form;have b0:nP<=5:=(by rw[bU.out];exact bh);clear bh;have bo:=a7.trans (b2.mono a7.size);have sP:=OP.slice (S':=λb=>b<wm.heap.size) (λb a7=>a7) (λb a7=>a7);have aO:SliceAt aB w2 (λb=>b<wm.heap.size\/w2.heap.size<=b) AP P:=sP.cJ (λb a7 e=>e.elim id (λe=>by omega));have ck:=aY.below HH.out.1 bo;clear O OP sP;go_wp2_with fail
   go_loopw [5,58] (λr_ i_ wq=>r_=aa/\∃ (i:Nat) (bn:b4),i_=I af i/\i<=nP/\aY w wq F z ((P.take i).foldl aC.dd s) ⟨bb,mr,mt,L⟩ bn/\(∀b,bn.mut b->b4.mut ⟨bb,mr,mt,L⟩ b\/w2.heap.size<=b)/\aw (λb=>b4.mut ⟨bb,mr,mt,L⟩ b\/w2.heap.size<=b) w2 wq) (λ_ i _=>nP- (intOf i).toNat)
   case atStart=>exact⟨rfl,0,_,rfl,by omega,ck,λb a7=>.inl a7,aw.refl _ _⟩
   case round=>
    obtain⟨rfl,i,bn,rfl,hi,st,bg,tq⟩:=hrel;by_cases bA:i<nP
    ·have bu:i<P.length:=(by have:=bU.out;omega);have bE:(i:Int)<(nP:Int):=(by omega);have aX:=aU.out _ (List.getElem_mem bu);have ag:=l9 HH.out.2.2.1 P s i bu bf.out HH.out.2.1 aU.out;have a4:=Lib.hid (sr s P i bu);have gq:Goes (λb=>b<wm.heap.size\/w2.heap.size<=b) w2 (λb=>b<wm.heap.size\/w2.heap.size<=b) wr:=⟨tq.os,tq.tape,tq.output,tq.size,λb aG aL=>tq.aI b aG (λe=>aL (e.elim (λe=>.inl (Nat.lt_of_lt_of_le (HH.out.1.lt b (HH.out.1.own b e)) a7.size)) .inr)),λ_ _ h=>h⟩;obtain⟨b,off,u,rfl,bV,b8,bx,hcell,A2,c8,hu,h2⟩:=(aO.goes gq).at_ bu (by decide);rw[hu]at hcell;have d0:wr.cell? ⟨b,off+i*8,none⟩=some (I af P[i].kind):=hcell 0 _ rfl;have d1:wr.cell? ⟨b,off+i*8+1,none⟩=some (I af P[i].id.au):=hcell 1 _ rfl;have d2:wr.cell? ⟨b,off+i*8+2,none⟩=some (I ak P[i].id.aq):=hcell 2 _ rfl;have d3:wr.cell? ⟨b,off+i*8+3,none⟩=some (I ak P[i].id.ax):=hcell 3 _ rfl;have d4:wr.cell? ⟨b,off+i*8+4,none⟩=some (I af P[i].ah):=hcell 4 _ rfl;have d5:wr.cell? ⟨b,off+i*8+5,none⟩=some (I ak P[i].sub):=hcell 5 _ rfl;have d7:wr.cell? ⟨b,off+i*8+7,none⟩=some (Y A2 P[i].events.length c8):=hcell 7 _ rfl;have d6:wr.cell? ⟨b,off+i*8+6,none⟩=some aa:=hcell 6 _ rfl;obtain⟨x,hx⟩:=am (P[i]);rw[<-hx]at d0 d1 d2 d3 d4 d5 d7 h2 aX ag a4;obtain⟨sq,b5⟩:=am ((P.take i).foldl aC.dd s);rw[<-b5]at st ag a4;obtain⟨w3,bd⟩:=am (wr.alloc (.cells (a3 x A2 c8) 132));have b3:=aV bd;have cc:=st.lN b3;have nt:=oI z sq bn (New F w w3) (λb=>b<wm.heap.size\/w2.heap.size<=b) x A2 c8 w3 HH.out.2.2.1 cc.at_ ag.2 ag.1 aX (h2.below b3);have aR:bn.bb=bb:=st.bb;rw[aR]at nt;have bF:=λw=>uU x.kind x.id.au x.id.aq x.id.ax x.ah x.sub A2 x.events.length c8 w;clear hcell bx hu hx h2 aX ag b5 aO gq;go_wp2_with fail;rw[<-bd];clear bd bF d0 d1 d2 d3 d4 d5 d6 d7;refine nt.mono ?_;clear nt;rintro e w4 ⟨rfl,bw,bW⟩;have cr:=cc.trans bW;go_wp2
     go_round
     case rel=>exact⟨rfl,i+1,bw,by go_num,by omega,by rw[a4.out];exact cr,λb a7=>(bW.news b a7).elim (bg b) (λe=>.inr (Nat.le_trans (Nat.le_trans tq.size b3.size) e)),(tq.trans (aw.ao b3 λ_=>False) (λ_ _ h=>h.elim)).trans bW.ba (λb _ e=>bg b e)⟩
     case measure=>simp[intOf];omega
    ·obtain rfl:i=nP:=(by omega);have HE:Hid ((P.take i).foldl aC.dd s=P.foldl aC.dd s):=by
      show _=_;rw[bU.out,List.take_length]
     rw[HE.out]at st;obtain⟨vq,bp,Dq⟩:=st.at_.ex;have aR:bn.bb=bb:=st.bb;have aE:=bp.cell 11;have aA:=bp.free 11;unfold bi at aE;rw[aR]at aE aA;simp at aE;have gg:=Below.refl wr wr;obtain⟨w9,br⟩:=am (wr.setCell ⟨bn.bb,11,none⟩ aa);have fin:=st.at_.put (s':=P.foldl aC.dd s) (v':=vq) gg 11 aa br (by rw[br];have:=bp.put 11 aa;unfold bi at this ⊢;simpa using this) (λkk=>Dq.goes kk) rfl rfl;rw[aR]at br;clear bp Dq;go_wp2;rw[<-br]
     go_end0
     exact⟨⟨_,rfl⟩,_,by rw[<-av.out];exact st.trans fin⟩
def gX(z:aM)(s:aC)(h:Nat):List ae->Prop
 | []=>True
 | x::l=>(h=s.list.length->jh z s x)/\gX z (cw s h x) (h+1) l
theorem Fit.cw{z:aM}(hz:z.ok){s:aC}{h:Nat}{x:ae}(hf:Fit z s)(hc:h=s.list.length->jh z s x)(hg:ch z x):Fit z (cw s h x):=by
 unfold Go.Proofs.YtgblliofomgggaaGreat.cw;split
 ·rename_i e;exact hf.bP hz (hc e) hg
 ·exact hf
theorem kP{z:aM}(hz:z.ok):∀ (l:List ae) (s:aC) (h i:Nat) (hi:i<l.length),gX z s h l->Fit z s->(∀x∈l,ch z x)->(h+i=(cn s h (l.take i)).list.length->jh z (cn s h (l.take i)) l[i])/\Fit z (cn s h (l.take i))
 | [],_,_,_,h,_,_,_=>by simp at h
 | x::l,s,h,0,hi,hc,hf,_=>⟨hc.1,hf⟩
 | x::l,s,h,i+1,hi,hc,hf,hg=>by
  have:=kP hz l (Go.Proofs.YtgblliofomgggaaGreat.cw s h x) (h+1) i (by simpa using hi) hc.2 (hf.cw hz hc.1 (hg x (by simp))) (λy hy=>hg y (by simp[hy]));rw[show h+(i+1)=h+1+i by omega];exact this
theorem j0{z:aM}(hz:z.ok):∀ (l:List ae) (s:aC) (h:Nat),gX z s h l->Fit z s->(∀x∈l,ch z x)->Fit z (cn s h l)
 | [],_,_,_,hf,_=>hf
 | x::l,s,h,hc,hf,hg=>j0 hz l (Go.Proofs.YtgblliofomgggaaGreat.cw s h x) (h+1) hc.2 (hf.cw hz hc.1 (hg x (by simp))) (λy hy=>hg y (by simp[hy]))
theorem lY:∀ (l:List ae) (s:aC) (h i:Nat) (hi:i<l.length),cn s h (l.take (i+1))=Go.Proofs.YtgblliofomgggaaGreat.cw (cn s h (l.take i)) (h+i) l[i]
 | [],_,_,_,h=>by simp at h
 | x::l,s,h,0,hi=>rfl
 | x::l,s,h,i+1,hi=>by
  have:=lY l (Go.Proofs.YtgblliofomgggaaGreat.cw s h x) (h+1) i (by simpa using hi);rw[show h+(i+1)=h+1+i by omega];exact this
theorem A6(z:aM)(s:aC)(a:b4)(F:Nat->Prop)(S9:Nat->Prop)(m:bc)(ma:fu)(w:World)(hz:z.ok)(h:bk w F z s a)(hf:Fit z s)(hM:cI w S9 m ma)(aH:∀b,a.mut b->S9 b)(a9:m.entries.length<=16)(b9:m.bf<=1000)(aN:∀x∈m.entries,ch z x)(aF:∀x∈m.aK,ch z x)
 (bU:gX z s m.bf m.entries) (bh:(cn s m.bf m.entries).ay.length+m.aK.length<=5)
 (aT:hp z (cn s m.bf m.entries) (dP (cn s m.bf m.entries).list (cn s m.bf m.entries).ay m.aK)):
 Calls Tryz.prog 173 #[aj a.bb,aE (m.cellsOf ma).toArray] w λe w'=>(∃r,e=.returned r)/\∃a':b4,aY w w' F z (iB m s) a a':=by
 have bs:=h.ce;have aJ:=hM.entries;have aG:=hM.aK;unfold bc.cellsOf;obtain⟨cm,cp,aO,cd,cj,cq,bT,cf⟩:=ma;simp only at aJ aG ⊢;obtain⟨bb,az⟩:=am a.bb;rw[<-az]at bs ⊢;obtain⟨w0,ar⟩:=am (((w.alloc (.cells #[aj bb] 80)).alloc (.cells (fD m cm cp aO cd cj cq bT cf) 233)).alloc (.cells #[.func (.func 235) #[aj bb] #[]] 215));have aU:Below w w w0:=by rw[ar];exact(((Below.refl _ _).alloc (Nat.le_refl _) _).alloc (by simp) _).alloc (by simp;omega) _
 have aS:ai w0 w 80 #[aj bb]:=by rw[ar];exact((ai.made _ _ _).alloc _).alloc _
 have ae:ai w0 (w.heap.size+1) 233 (fD m cm cp aO cd cj cq bT cf):=by
  rw[ar];have:=(ai.made (w.alloc (.cells #[aj bb] 80)) 233 (fD m cm cp aO cd cj cq bT cf)).alloc (.cells #[.func (.func 235) #[aj bb] #[]] 215);simpa using this
 have J:ai w0 (w.heap.size+2) 215 #[.func (.func 235) #[aj bb] #[]]:=by
  rw[ar];have:=ai.made ((w.alloc (.cells #[aj bb] 80)).alloc (.cells (fD m cm cp aO cd cj cq bT cf) 233)) 215 #[.func (.func 235) #[aj bb] #[]];simpa using this
 obtain⟨pb,bl⟩:=am w.heap.size;obtain⟨mb,b7⟩:=am (w.heap.size+1);obtain⟨cb,M⟩:=am (w.heap.size+2);rw[<-bl]at aS;rw[<-b7]at ae;rw[<-M]at J;have HB:=fm bl b7 M;have ck:=aY.below h aU;have aP:SliceAt aB w0 (λb=>a.mut b\/w0.heap.size<=b) cj m.entries:=((aJ.cJ (S':=λb=>a.mut b) (λb _ e=>aH b e)).below aU).cJ (λb a7 e=>e.elim id (λe=>by omega));have aL:SliceAt aB w0 (λb=>a.mut b\/w0.heap.size<=b) bT m.aK:=((aG.cJ (S':=λb=>a.mut b) (λb _ e=>aH b e)).below aU).cJ (λb a7 e=>e.elim id (λe=>by omega));have ad:∀b,w.heap.size<=b->b<w0.heap.size->¬ (a.mut b\/w0.heap.size<=b):=λb h1 h2 e=>e.elim (λe=>by have:=h.lt b (h.own b e);omega) (λe=>by omega);have np:¬ (a.mut pb\/w0.heap.size<=pb):=ad pb (by omega) aS.lt;have nm:¬ (a.mut mb\/w0.heap.size<=mb):=ad mb (by omega) ae.lt;have nc:¬ (a.mut cb\/w0.heap.size<=cb):=ad cb (by omega) J.lt;obtain⟨nE,cC⟩:=am m.entries.length;have HH:=ja hz hf aN bU cC;have HP:=fm aF bh aT;have bG:=Lib.hid az;have aQ:nE<=16:=by omega
 rw[<-cC]at ae ar ⊢;clear hM aJ aG aH aN aF bU bh aT bl b7 M hf hz az ad cC a9;have q1:=ae.cell 1;have q4:=ae.cell 4;simp at q1 q4;go_enter Tryz.func173,Tryz.ntmps173;go_wp2_with fail;go_step3;go_wp2_with fail;rw[<-ar];have a5:w.heap.size+1+1=cb:=by have:=HB.out.2.2;omega
 rw[a5,<-HB.out.2.1,<-HB.out.1];clear a5 ar;go_step3;go_wp2_with fail;clear q1 q4
 go_loopw [18] (λi_ wr=>∃ (i:Nat) (bn:b4),i_=I af i/\i<=nE/\aY w wr F z (cn s m.bf (m.entries.take i)) a bn/\(∀b,bn.mut b->a.mut b\/w0.heap.size<=b)/\aw (λb=>a.mut b\/w0.heap.size<=b) w0 wr) (λi _=>nE- (intOf i).toNat)
 case atStart=>exact⟨0,a,rfl,by omega,ck,λb a7=>.inl a7,aw.refl _ _⟩
 case round=>
  obtain⟨i,bn,rfl,hi,st,bg,tq⟩:=hrel;have av:=tq.aW aS np;have aA:=tq.aW ae nm;have bq:=tq.aW J nc;by_cases bA:i<nE
  ·have bu:i<m.entries.length:=(by have:=HH.out.2.2.2.2;omega);have bE:(i:Int)<(nE:Int):=(by omega);have aX:=HH.out.2.2.1 _ (List.getElem_mem bu);have ag:=kP HH.out.1 m.entries s m.bf i bu HH.out.2.2.2.1 HH.out.2.1 HH.out.2.2.1;have a4:=Lib.hid (lY m.entries s m.bf i bu);have gq:Goes (λb=>a.mut b\/w0.heap.size<=b) w0 (λb=>a.mut b\/w0.heap.size<=b) wr:=⟨tq.os,tq.tape,tq.output,tq.size,tq.aI,λ_ _ h=>h⟩;obtain⟨b,off,u,rfl,bV,b8,bx,hcell,A2,c8,hu,h2⟩:=(aP.goes gq).at_ bu (by decide);rw[hu]at hcell;have d0:wr.cell? ⟨b,off+i*8,none⟩=some (I af m.entries[i].kind):=hcell 0 _ rfl;have d1:wr.cell? ⟨b,off+i*8+1,none⟩=some (I af m.entries[i].id.au):=hcell 1 _ rfl;have d2:wr.cell? ⟨b,off+i*8+2,none⟩=some (I ak m.entries[i].id.aq):=hcell 2 _ rfl;have d3:wr.cell? ⟨b,off+i*8+3,none⟩=some (I ak m.entries[i].id.ax):=hcell 3 _ rfl;have d4:wr.cell? ⟨b,off+i*8+4,none⟩=some (I af m.entries[i].ah):=hcell 4 _ rfl;have d5:wr.cell? ⟨b,off+i*8+5,none⟩=some (I ak m.entries[i].sub):=hcell 5 _ rfl;have d7:wr.cell? ⟨b,off+i*8+7,none⟩=some (Y A2 m.entries[i].events.length c8):=hcell 7 _ rfl;have d6:wr.cell? ⟨b,off+i*8+6,none⟩=some aa:=hcell 6 _ rfl;obtain⟨x,hx⟩:=am (m.entries[i]);rw[<-hx]at d0 d1 d2 d3 d4 d5 d7 h2 aX ag a4;obtain⟨sq,b5⟩:=am (cn s m.bf (m.entries.take i));rw[<-b5]at st ag a4;obtain⟨vq,bp,Dq⟩:=st.at_.ex;have aR:bn.bb=bb:=st.bb.trans bG.out.symm;rw[aR]at bp;unfold bi at bp;have a1:=ag.2.l1;obtain⟨nl,cu⟩:=am sq.list.length;rw[<-cu]at bp ag a1;have cH:=Lib.hid cu;obtain⟨w3,bd⟩:=am (wr.alloc (.cells (a3 x A2 c8) 132));have b3:=aV bd;have bD:ai w3 wr 132 (a3 x A2 c8):=(by rw[bd];exact ai.made _ _ _);obtain⟨xb,a0⟩:=am wr.heap.size;rw[<-a0]at bD;have bj:=Lib.hid a0;have cc:=st.lN b3;have p0:=av.cell 0;have k0:=bq.cell 0;have m1:=aA.cell 1;have y5:=bp.cell 5;simp at p0 k0 m1 y5;have lp:=av.lt;have lm:=aA.lt;have lc:=bq.lt;have lb:=bp.lt;by_cases he:m.bf+i=nl
   ·have g:(((m.bf:Int)+(i:Int)) !=(nl:Int))=false:=(by simp;omega);have HE:Hid (cn s m.bf (m.entries.take (i+1))=sq.bP x):=by
     show _=_;rw[a4.out];unfold Go.Proofs.YtgblliofomgggaaGreat.cw;rw[if_pos (by rw[he,cH.out])]
    have nt:=l8 z sq bn (New F w w3) (λb=>a.mut b\/w0.heap.size<=b) x A2 c8 w3 HH.out.1 cc.at_ ag.2 (ag.1 he) aX (h2.below b3);rw[aR,<-cH.out,<-he]at nt;rw[show((m.bf+i:Nat):Int)=(m.bf:Int)+(i:Int) by omega]at nt;have bF:=λw=>nZ ((m.bf:Int)+(i:Int)) x.kind x.id.au x.id.aq x.id.ax x.ah x.sub A2 x.events.length c8 w;clear hcell bx hu hx h2 aX ag b5 cu a0 gq he bp Dq;go_wp2_with fail;rw[<-bd];clear bd bF g d0 d1 d2 d3 d4 d5 d6 d7 p0 k0 m1 y5;refine nt.mono ?_;clear nt;rintro e w4 ⟨rfl,bw,bW⟩;have cr:=cc.trans bW;go_wp2
    go_round
    case rel=>exact⟨i+1,bw,by go_num,by omega,by rw[HE.out];exact cr,λb a7=>(bW.news b a7).elim (bg b) (λe=>.inr (Nat.le_trans (Nat.le_trans tq.size b3.size) e)),(tq.trans (aw.ao b3 λ_=>False) (λ_ _ h=>h.elim)).trans bW.ba (λb _ e=>bg b e)⟩
    case measure=>simp[intOf];omega
   ·have g:(((m.bf:Int)+(i:Int)) !=(nl:Int))=true:=(by simp;omega);have HE:Hid (cn s m.bf (m.entries.take (i+1))=sq):=by
     show _=_;rw[a4.out];unfold Go.Proofs.YtgblliofomgggaaGreat.cw;rw[if_neg (by rw[<-cH.out];exact he)]
    clear hcell bx hu hx h2 aX ag b5 cu a0 gq he bp Dq;go_wp2_with fail
    try rw[<-bd]
    clear bd g d0 d1 d2 d3 d4 d5 d6 d7 p0 k0 m1 y5
    go_round
    case rel=>exact⟨i+1,bn,by go_num,by omega,by rw[HE.out];exact cc,bg,tq.trans (aw.ao b3 λ_=>False) (λ_ _ h=>h.elim)⟩
    case measure=>simp[intOf];omega
  ·obtain rfl:i=nE:=(by omega);have HE:Hid (cn s m.bf (m.entries.take i)=cn s m.bf m.entries):=by
    show _=_;rw[HH.out.2.2.2.2,List.take_length]
   rw[HE.out]at st;have cv:=j0 HH.out.1 m.entries s m.bf HH.out.2.2.2.1 HH.out.2.1 HH.out.2.2.1;have gq:Goes (λb=>a.mut b\/w0.heap.size<=b) w0 (λb=>a.mut b\/w0.heap.size<=b) wr:=⟨tq.os,tq.tape,tq.output,tq.size,tq.aI,λ_ _ h=>h⟩;have aR:bn.bb=bb:=st.bb.trans bG.out.symm;have aD:=vn z (cn s m.bf m.entries) bn (New F w wr) (λb=>a.mut b\/w0.heap.size<=b) m.aK bT m.aK.length cf wr HH.out.1 st.at_ cv rfl HP.out.2.1 (aL.goes gq) HP.out.1 HP.out.2.2;rw[aR]at aD;have p0:=av.cell 0;have m6:=aA.cell 6;have m7:=aA.cell 7;have m5:=aA.cell 5;simp at p0 m6 m7 m5;clear cv gq aP aL aR;obtain⟨wm,rfl⟩:=am wr;go_wp2_with fail
   go_loopw [48] (λi_ wr=>i_=I af 0/\wr=wm) (λ_ _=>0)
   case atStart=>exact⟨rfl,rfl⟩
   case round=>
    obtain⟨rfl,rfl⟩:=hrel;obtain⟨wm,rfl⟩:=am wr;go_wp2_with fail
    go_loopw [81] (λi_ wr=>i_=I af 0/\wr=wm) (λ_ _=>0)
    case atStart=>exact⟨rfl,rfl⟩
    case round=>
     obtain⟨rfl,rfl⟩:=hrel;go_wp2_with fail;refine aD.mono ?_;clear aD;rintro e w5 ⟨⟨r,rfl⟩,bO,cr⟩;go_wp2
     try rw[Exit.noGoto_normal]
     go_end0
     exact⟨⟨_,rfl⟩,bO,st.trans cr⟩
end Go.Proofs.YtgblliofomgggaaGreat
