import Derived.Test.YtgblliofomgggaaGreatM01
import Derived.Test.YtgblliofomgggaaGreatM05
import Derived.Test.YtgblliofomgggaaGreatM16
import Derived.Test.YtgblliofomgggaaGreatM11
namespace Go.Proofs.YtgblliofomgggaaGreat
set_option maxRecDepth 100000
set_option maxHeartbeats 8000000
open Go.RowKit a7 bA p7
open Go.IntKind renaming i64 -> af,u64 -> ak
open Go.Value renaming int -> I,slice -> Y,pointer -> aL,agg -> aE
theorem oY(list acc l:List ae)(i:Nat)(h:i<l.length):(l.take (i+1)).foldl (bn list) acc=bn list ((l.take i).foldl (bn list) acc) l[i]:=by
 rw[List.take_succ_eq_append_getElem h,List.foldl_append];rfl
theorem qC(list acc:List ae)(x:ae):(bn list acc x).length<=acc.length+1:=by
 unfold bn;split
 ·omega
 ·simp
theorem gS(list:List ae):∀ (l acc:List ae),(l.foldl (bn list) acc).length<=acc.length+l.length
 | [],acc=>by simp
 | x::l,acc=>by
  rw[List.foldl_cons,List.length_cons];have:=gS list l (bn list acc x);have:=qC list acc x;omega
theorem aD.dA{α:Type}{r:dD α}{e:TypeId}{w w':World}{base q:Nat}{S:Nat->Prop}{v:Value}{l:List α}(h:aD r e w base S v l)(g:w.grownBy w' (some q))(hq:v.ownBlock≠some q)(hS:S q):aD r e w' base S v l:=by
 obtain⟨us,h1,h2,a1⟩:=h;exact⟨us,dU h1 (λk hk=>by injection hk with hk;rw[<-hk];exact hq) g,h2,λi u a hu ha=>r.goes (a1 i u a hu ha) (bv g (λk hk=>by injection hk with hk;rw[<-hk];exact .inl hS))⟩
theorem pw(z:aM)(s:aC)(a:b4)(F:Nat->Prop)(S:Nat->Prop)(base ob pb:Nat)(l acc:List ae)(A:Option Addr)(n c:Nat)(v0:Value)(w:World)(h:bk w F z s a)(hf:Fit z s)(aL:n=l.length)(hm:acc.length+n<=15)(hl:SliceAt aB w S A l)(hg:∀x∈l,x.aH)
 (hO:ai w ob 46 #[v0]) (O:aD aB 132 w base S v0 acc) (bv:ai w pb 80 #[aj a.bb]) (hS:∀b,base<=b->S b) (bz:base<=w.heap.size) (bw:ob<base) (bl:pb<base) (b5:pb≠ob) (b6:S ob) (hF:∀b,F b->b<base/\b≠ob):
 Calls Tryz.prog 217 #[Y A n c,aj ob,aj pb] w λe w'=>(∃r,e=.returned r)/\∃v',ai w' ob 46 #[v']/\aD aB 132 w' base S v' (l.foldl (bn s.list) acc)/\aw (λb=>b=ob\/v0.ownBlock=some b) w w'/\∀b,v'.ownBlock=some b->v0.ownBlock=some b\/w.heap.size<=b:=by
 obtain⟨i0,z0,bM,bL,bB,bJ,bR⟩:=aS Tryz.dJ;have HH:=ja h hf hg hS hF;have HN:=Lib.hid aL;have bs:=h.ce;obtain⟨bb,az⟩:=am a.bb;rw[<-az]at bv bs;have bG:=Lib.hid az;have cb:bb<base/\bb≠ob:=by rw[az];exact hF _ (h.own _ (.inl rfl))
 obtain⟨b9,ck⟩:=cb;clear h hf aL hg az hS hF;go_enter Tryz.func217,Tryz.ntmps217;go_wp2_with fail
 go_loopw [9] (λi_ wr=>∃ (i:Nat) (v:Value),i_=I af i/\i<=n/\ai wr ob 46 #[v]/\aD aB 132 wr base S v ((l.take i).foldl (bn s.list) acc)/\aw (λb=>b=ob\/v0.ownBlock=some b) w wr/\∀b,v.ownBlock=some b->v0.ownBlock=some b\/w.heap.size<=b) (λi _=>n- (intOf i).toNat)
 case atStart=>exact⟨0,v0,rfl,by omega,hO,O,aw.refl _ _,λb a7=>.inl a7⟩
 case round=>
  obtain⟨i,v,rfl,hi,hOr,ca,tq,bg⟩:=hrel;have av:=tq.aW bv (λe=>e.elim b5 (λe=>by have:=(O.lt e).1;omega));by_cases bA:i<n
  ·have bu:i<l.length:=(by have:=HN.out;omega);have bE:(i:Int)<(n:Int):=(by omega);have aX:=HH.out.2.2.1 _ (List.getElem_mem bu);have ag:=HH.out.1.ba tq (λb a7 e=>by have:=HH.out.2.2.2.2 b a7;rcases e with e | e;(omega);(have:=(O.lt e).1;omega));have a4:=Lib.hid (oY s.list acc l i bu);have gq:Goes S w S wr:=⟨tq.os,tq.tape,tq.output,tq.size,λb a7 aL=>tq.aI b a7 (λe=>aL (e.elim (λe=>by rw[e];exact b6) (λe=>HH.out.2.2.2.1 b (O.lt e).1))),λ_ _ h=>h⟩;obtain⟨b,off,u,rfl,bV,b8,bx,hcell,A2,c8,hu,h2⟩:=(hl.goes gq).at_ bu (by decide);rw[hu]at hcell;have d0:wr.cell? ⟨b,off+i*8,none⟩=some (I af l[i].kind):=hcell 0 _ rfl;have d1:wr.cell? ⟨b,off+i*8+1,none⟩=some (I af l[i].id.au):=hcell 1 _ rfl;have d2:wr.cell? ⟨b,off+i*8+2,none⟩=some (I ak l[i].id.aq):=hcell 2 _ rfl;have d3:wr.cell? ⟨b,off+i*8+3,none⟩=some (I ak l[i].id.ax):=hcell 3 _ rfl;have d4:wr.cell? ⟨b,off+i*8+4,none⟩=some (I af l[i].ah):=hcell 4 _ rfl;have d5:wr.cell? ⟨b,off+i*8+5,none⟩=some (I ak l[i].sub):=hcell 5 _ rfl;have d7:wr.cell? ⟨b,off+i*8+7,none⟩=some (Y A2 l[i].events.length c8):=hcell 7 _ rfl;have d6:wr.cell? ⟨b,off+i*8+6,none⟩=some aa:=hcell 6 _ rfl;obtain⟨x,hx⟩:=am (l[i]);rw[<-hx]at d0 d1 d2 d3 d4 d5 d7 h2 aX a4;have bQ:=gS s.list (l.take i) acc;rw[List.length_take]at bQ;obtain⟨q,hq⟩:=am ((l.take i).foldl (bn s.list) acc);rw[<-hq]at ca a4 bQ;obtain⟨A3,n3,c3,rfl,a2,bY⟩:=ca.form;have cf:n3<=14:=(by rw[a2.out];omega);have bh:decide ((16:Int)<=(n3:Int))=false:=decide_eq_false (by omega);obtain⟨vq,bp,Dq⟩:=ag.ex;rw[<-bG.out]at bp;unfold bi at bp;obtain⟨w1,aN⟩:=am (wr.alloc (.cells (a3 x A2 c8) 132));have b1:=aV aN;have bD:ai w1 wr 132 (a3 x A2 c8):=(by rw[aN];exact ai.made _ _ _);obtain⟨xb,a0⟩:=am wr.heap.size;rw[<-a0]at bD;have bj:=Lib.hid a0;have aQ:=hOr.below b1 hOr.lt;have a8:=av.below b1 av.lt;have aE:=bp.below b1 bp.lt;have Q1:=ca.below b1;have cM:=gy 218 xb (λy=>decide (y.id=x.id)) (λ_=>False) A3 n3 c3 q w1 yN a2.out (by omega) (Q1.slice (S':=λ_=>False) (λb h=>h.elim) (λb h=>h.elim)) (λy hy A c w' a7 bT=>uV y A c x.id xb w' ⟨by have:=(bD.below a7 bD.lt).cell 1;simpa using this,by have:=(bD.below a7 bD.lt).cell 2;simpa using this,by have:=(bD.below a7 bD.lt).cell 3;simpa using this⟩);rw[hP]at cM;have xo:xb≠ob:=(by have:=hOr.lt;omega);have pl:=av.lt;have ol:=hOr.lt;have cd:=bp.lt;have cl:=hOr.cell 0;simp at cl;clear hcell bx hu hx a0 gq hq bQ;go_wp2_with fail;rw[<-aN]
   try rw[<-bj.out]
   clear aN cl d0 d1 d2 d3 d4 d5 d6 d7;refine cM.mono ?_;clear cM;rintro e w2 ⟨rfl,b2⟩;have bo:=b1.trans (b2.mono b1.size);have bZ:=aQ.below b2 aQ.lt;have bP:=a8.below b2 a8.lt;have bq:=aE.below b2 aE.lt;have aA:=bD.below b2 bD.lt;have Q2:=Q1.below b2;have bF:=h2.below bo;have bU:aw (λb=>b=ob\/v0.ownBlock=some b) w w2:=tq.trans (aw.ao bo λ_=>False) (λ_ _ h=>h.elim);have has:=λ(w':World) (a7:Below w2 w2 w')=>g7 (bO F a) 1 vq.AL _ vq.cL s.list (Y vq.AQ s.ay.length vq.cQ) aa x.id w' rfl (by have:=HH.out.2.1.l1;omega) (Dq.list.goes (.ao (bo.trans (a7.mono bo.size)) _)) ⟨_,_,_,rfl⟩ ⟨_,_,_,rfl⟩;have a1:=λ(w':World) (a7:Below w2 w2 w')=>um z s a F x.id w' (ag.below (bo.trans (a7.mono bo.size))) aX.id;rw[<-bG.out]at a1;unfold PId.val at has a1;clear h2 aQ a8 aE bD Q1 b1 b2;have aG:ai w2.drew ob 46 _:=bZ;have aF:ai w2.drew pb 80 _:=bP;have aJ:ai w2.drew bb 130 _:=bq;have M:ai w2.drew xb 132 _:=aA;have cc:Below w2 w2 w2.drew:=⟨rfl,rfl,rfl,Nat.le_refl _,λ_ _=>rfl⟩;cases ar:bd q x.id with
   | true=>
    have HE:Hid ((l.take (i+1)).foldl (bn s.list) acc=q):=by
     show _=_;rw[a4.out];unfold bn;rw[ar];rfl
    clear ar has a1;go_wp2_with fail;refine wp_region_held_drew (S:=(λw'=>w'.cell? (aj pb)=some (.pointer (aj bb))/\w'.cell? ⟨bb,4,none⟩=some (I ak 1)/\w'.cell? ⟨bb,5,none⟩=some (Y vq.AL s.list.length vq.cL)/\w'.cell? ⟨bb,6,none⟩=some (Y vq.AQ s.ay.length vq.cQ)/\w'.cell? ⟨bb,7,none⟩=some (aa)/\w'.cell? ⟨xb,1,none⟩=some (I af x.id.au)/\w'.cell? ⟨xb,2,none⟩=some (I ak x.id.aq)/\w'.cell? ⟨xb,3,none⟩=some (I ak x.id.ax)/\w'.cell? (aj ob)=some (Y A3 n3 c3))) (by kernel_rfl) (⟨aF.cell 0,aJ.cell 4,aJ.cell 5,aJ.cell 6,aJ.cell 7,M.cell 1,M.cell 2,M.cell 3,aG.cell 0⟩) (λJ=>?_);refine tk 0 J ?_;refine tk 1 J ?_;refine fa 2 J ?_;refine fa 3 J ?_;refine fa 4 J ?_;refine fa 5 J ?_;refine fa 6 J ?_;refine fa 7 J ?_;refine fa 8 J ?_;refine tk 9 J ?_;refine tk 10 J ?_;refine fa 11 J ?_;refine fa 12 J ?_;refine fa 13 J ?_;refine fa 14 J ?_;refine tk 15 J ?_;refine tk 16 J ?_;refine fa 17 J ?_;refine fa 18 J ?_;refine fa 19 J ?_;refine tk 20 J ?_;refine cB ?_ _;clear J;have Q3:aD aB 132 w2.drew base S _ _:=Q2.below cc;have bc:aw (λb=>b=ob\/v0.ownBlock=some b) w w2.drew:=bU.trans (aw.ao cc λ_=>False) (λ_ _ h=>h.elim);go_wp2_with fail
    go_round
    case rel=>exact⟨i+1,Y A3 n3 c3,by go_num,by omega,aG,by rw[HE.out];exact Q3,bc,bg⟩
    case measure=>simp[intOf];omega
   | false=>
    cases a6:bd s.list x.id with
    | true=>
     have HE:Hid ((l.take (i+1)).foldl (bn s.list) acc=q):=by
      show _=_;rw[a4.out];unfold bn;rw[ar,a6];rfl
     rw[a6]at has;clear ar a6 a1;go_wp2_with fail;refine wp_region_held_drew (S:=(λw'=>w'.cell? (aj pb)=some (.pointer (aj bb))/\w'.cell? ⟨bb,4,none⟩=some (I ak 1)/\w'.cell? ⟨bb,5,none⟩=some (Y vq.AL s.list.length vq.cL)/\w'.cell? ⟨bb,6,none⟩=some (Y vq.AQ s.ay.length vq.cQ)/\w'.cell? ⟨bb,7,none⟩=some (aa)/\w'.cell? ⟨xb,1,none⟩=some (I af x.id.au)/\w'.cell? ⟨xb,2,none⟩=some (I ak x.id.aq)/\w'.cell? ⟨xb,3,none⟩=some (I ak x.id.ax)/\w'.cell? (aj ob)=some (Y A3 n3 c3))) (by kernel_rfl) (⟨aF.cell 0,aJ.cell 4,aJ.cell 5,aJ.cell 6,aJ.cell 7,M.cell 1,M.cell 2,M.cell 3,aG.cell 0⟩) (λJ=>?_);refine tk 0 J ?_;refine tk 1 J ?_;refine tk 2 J ?_;refine tk 3 J ?_;refine tk 4 J ?_;refine tk 5 J ?_;refine tk 6 J ?_;refine tk 7 J ?_;refine aP 8 (λK ad=>?_);clear J;go_simp;refine(has w2.drew cc).mono ?_;clear has;rintro e w3 ⟨rfl,b3⟩;have aY:=aG.below b3 aG.lt;have bS:=aF.below b3 aF.lt;have bW:=aJ.below b3 aJ.lt;have aT:=M.below b3 M.lt;have Q3:aD aB 132 w3 base S _ _:=(Q2.below cc).below b3;have bc:aw (λb=>b=ob\/v0.ownBlock=some b) w w3:=(bU.trans (aw.ao cc λ_=>False) (λ_ _ h=>h.elim)).trans (aw.ao b3 λ_=>False) (λ_ _ h=>h.elim)
     try dsimp only
     refine ad.out _ _ (⟨bS.cell 0,bW.cell 4,bW.cell 5,bW.cell 6,bW.cell 7,aT.cell 1,aT.cell 2,aT.cell 3,aY.cell 0⟩) (λJ=>?_);clear ad K;refine tk 9 J ?_;refine tk 10 J ?_;refine fa 11 J ?_;refine fa 12 J ?_;refine fa 13 J ?_;refine fa 14 J ?_;refine tk 15 J ?_;refine tk 16 J ?_;refine fa 17 J ?_;refine fa 18 J ?_;refine fa 19 J ?_;refine tk 20 J ?_;refine cB ?_ _;clear J;go_wp2_with fail
     go_round
     case rel=>exact⟨i+1,Y A3 n3 c3,by go_num,by omega,aY,by rw[HE.out];exact Q3,bc,bg⟩
     case measure=>simp[intOf];omega
    | false=>
     have HE:Hid ((l.take (i+1)).foldl (bn s.list) acc=q++[x]):=by
      show _=_;rw[a4.out];unfold bn;rw[ar,a6,<-a2.out,decide_eq_false (by omega)];rfl
     rw[a6]at has;clear ar a6;go_wp2_with fail;refine wp_region_held_drew (S:=(λw'=>w'.cell? (aj pb)=some (.pointer (aj bb))/\w'.cell? ⟨bb,4,none⟩=some (I ak 1)/\w'.cell? ⟨bb,5,none⟩=some (Y vq.AL s.list.length vq.cL)/\w'.cell? ⟨bb,6,none⟩=some (Y vq.AQ s.ay.length vq.cQ)/\w'.cell? ⟨bb,7,none⟩=some (aa)/\w'.cell? ⟨xb,1,none⟩=some (I af x.id.au)/\w'.cell? ⟨xb,2,none⟩=some (I ak x.id.aq)/\w'.cell? ⟨xb,3,none⟩=some (I ak x.id.ax)/\w'.cell? (aj ob)=some (Y A3 n3 c3))) (by kernel_rfl) (⟨aF.cell 0,aJ.cell 4,aJ.cell 5,aJ.cell 6,aJ.cell 7,M.cell 1,M.cell 2,M.cell 3,aG.cell 0⟩) (λJ=>?_);refine tk 0 J ?_;refine tk 1 J ?_;refine tk 2 J ?_;refine tk 3 J ?_;refine tk 4 J ?_;refine tk 5 J ?_;refine tk 6 J ?_;refine tk 7 J ?_;refine aP 8 (λK ad=>?_);clear J;go_simp;refine(has w2.drew cc).mono ?_;clear has;rintro e w3 ⟨rfl,b3⟩;have aY:=aG.below b3 aG.lt;have bS:=aF.below b3 aF.lt;have bW:=aJ.below b3 aJ.lt;have aT:=M.below b3 M.lt;have Q3:aD aB 132 w3 base S _ _:=(Q2.below cc).below b3;have bc:aw (λb=>b=ob\/v0.ownBlock=some b) w w3:=(bU.trans (aw.ao cc λ_=>False) (λ_ _ h=>h.elim)).trans (aw.ao b3 λ_=>False) (λ_ _ h=>h.elim)
     try dsimp only
     refine ad.out _ _ (⟨bS.cell 0,bW.cell 4,bW.cell 5,bW.cell 6,bW.cell 7,aT.cell 1,aT.cell 2,aT.cell 3,aY.cell 0⟩) (λJ=>?_);clear ad K;refine tk 9 J ?_;refine tk 10 J ?_;refine tk 11 J ?_;refine tk 12 J ?_;refine tk 13 J ?_;refine aP 14 (λK ad=>?_);clear J;go_simp;refine(a1 w3 (cc.trans b3)).mono ?_;clear a1;rintro e w4 ⟨rfl,bK⟩;have ch:=aY.below bK aY.lt;have b7:=bS.below bK bS.lt;have bt:=bW.below bK bW.lt;have aO:=aT.below bK aT.lt;have Q4:=Q3.below bK;have br:aw (λb=>b=ob\/v0.ownBlock=some b) w w4:=bc.trans (aw.ao bK λ_=>False) (λ_ _ h=>h.elim)
     try dsimp only
     refine ad.out _ _ (⟨b7.cell 0,bt.cell 4,bt.cell 5,bt.cell 6,bt.cell 7,aO.cell 1,aO.cell 2,aO.cell 3,ch.cell 0⟩) (λJ=>?_);clear ad K;refine tk 15 J ?_;refine tk 16 J ?_;refine tk 17 J ?_;refine tk 18 J ?_;refine aP 19 (λK ad=>?_);clear J;go_simp;refine ad.out _ _ (⟨b7.cell 0,bt.cell 4,bt.cell 5,bt.cell 6,bt.cell 7,aO.cell 1,aO.cell 2,aO.cell 3,ch.cell 0⟩) (λJ=>?_);clear ad K;refine tk 20 J ?_;refine cB ?_ _;clear J;have bC:=(Below.refl w4 w4).alloc (Nat.le_refl _) (.cells (a3 x A2 c8) 132);have aU:=(cc.trans b3).trans (bK.mono (cc.trans b3).size);have bI:aB.R (w4.alloc (.cells (a3 x A2 c8) 132)) (bm S (Y A3 n3 c3)) (a3 x A2 c8) x:=
      ⟨A2,c8,rfl,((bF.below aU).weak (λb a7=>a7.elim id (λe=>HH.out.2.2.2.1 b (Q4.lt e).1))).below bC⟩
     obtain⟨x0,x1,x2,x3,x4,x5,x6,x7⟩:=aO.c8;have cl:=ch.cell 0;simp at x0 x1 x2 x3 x4 x5 x6 x7 cl;have bH:=Lib.hid a2.out;have cj:base<=w4.heap.size:=Nat.le_trans bz br.size;go_wp2_with (at_builtin;refine a9 _ rfl (.tmp 37) (.tmp 39) 46 rfl aB base 132 i0 z0 96 Tryz.underlying46 bM bL bJ bR bB (by decide) S (Y A3 n3 c3) q rfl (Q4.below bC) (aj w4) 1 (a3 x A2 c8) x rfl (Src.made w4 _ _) bI (by rw[<-bH.out];unfold maxLen;omega) (by rw[<-bH.out];omega) (by simp;omega) ?_;rw[<-bH.out];intro A6 bX w6 O6 cz gr aZ;have aK:=(ch.below bC ch.lt).grown gr (λe=>by have:=(Q4.lt e.symm).1;omega);have o6:=aK.cell 0;have b0:=aK.free 0;simp at o6);have bf:=aK.put 0 (Y A6 (n3+1) bX);simp only[List.setIfInBounds_toArray,List.set_cons_zero]at bf;have cg:=aR w6 ob 0 (Y A6 (n3+1) bX);have O7:=O6.dA cg (λe=>by have:=(O6.lt e).1;omega) b6;have a5:aw (λb=>b=ob\/v0.ownBlock=some b) w (w6.setCell (aj ob) (Y A6 (n3+1) bX)):=((br.trans (aw.ao bC λ_=>False) (λ_ _ h=>h.elim)).trans (aw.bN gr (F:=λb=>(Value.slice A3 n3 c3).ownBlock=some b) (λb a7=>a7)) (λb a7 e=>(bg b e).elim .inr (λe=>by omega))).trans (aw.bN cg (F:=λb=>b=ob\/v0.ownBlock=some b) (λb a7=>by injection a7 with a7;exact .inl a7.symm)) (λ_ _ h=>h)
     go_round
     case rel=>exact⟨i+1,Y A6 (n3+1) bX,by go_num,by omega,bf,by rw[HE.out];exact O7,a5,λb a7=>aZ.elim (λe=>bg b (e.symm.trans a7)) (λe=>.inr (by rw[e]at a7;injection a7 with a7;have:=br.size;have:=bC.size;omega))⟩
     case measure=>simp[intOf];omega
  ·obtain rfl:i=n:=(by omega);rw[HN.out,List.take_length]at ca;clear hl;go_wp2
   go_end0
   exact⟨⟨_,rfl⟩,v,hOr,ca,tq,bg⟩
theorem aD.ba{α:Type}{r:dD α}{e:TypeId}{w w':World}{base:Nat}{S G:Nat->Prop}{v:Value}{l:List α}(h:aD r e w base S v l)(t:aw G w w')(hG:∀b,b<w.heap.size->G b->S b)(hv:∀b,v.ownBlock=some b->¬G b):aD r e w' base S v l:=by
 obtain⟨us,k1,k2,k3⟩:=h;refine⟨us,?_,k2,λi u' x hu hx=>r.goes (k3 i u' x hu hx) ⟨t.os,t.tape,t.output,t.size,λb a7 hp=>t.aI b a7 (λe=>hp (.inl (hG b a7 e))),λ_ _ h=>h⟩⟩;refine⟨k1.1,?_⟩;rcases k1.2 with ad | ⟨b,cap,cur,I,hg,hh,rest⟩
 ·exact .inl ad
 ·exact .inr ⟨b,cap,cur,I,hg,(t.aI b (Array.getElem?_eq_some_iff.1 hh).1 (hv b (by rw[I];rfl))).trans hh,rest⟩
theorem aD.at_{α:Type}{r:dD α}{e:TypeId}{w:World}{base:Nat}{S:Nat->Prop}{A:Option Addr}{n c:Nat}{l:List α}(h:aD r e w base S (Y A n c) l){i:Nat}(hi:i<l.length)(hk:0<r.k):
 ∃b off u,A=some ⟨b,off,none⟩/\b<w.heap.size/\(Value.slice A n c).ownBlock=some b/\u.length=r.k/\(∀j x,u[j]? =some x->w.cell? ⟨b,off+i*r.k+j,none⟩=some x)/\r.R w (bm S (Y A n c)) u l[i]:=by
 obtain⟨A',n',c',aB,aL,_⟩:=h.form;injection aB with e1 a5 e3;obtain rfl:n=l.length:=by rw[a5];exact aL.out
 clear aL e1 a5 e3;obtain⟨us,h1,h2,a1⟩:=h;have hl:∀u∈us,u.length=r.k:=λu hu=>by
  obtain⟨a,ha⟩:=ip h2 a1 u hu;exact r.len ha
 have aI:=a1 i us[i] l[i] (List.getElem?_eq_getElem (by omega)) (List.getElem?_eq_getElem hi);have ae:0<us.flatten.length:=by
  rw[cd us hl];exact Nat.mul_pos (by omega) hk
 obtain⟨b,off,hA,a7,_,hc⟩:=(a6.eu (S:=λ_=>False) h1 (λb h=>h.elim)).open_ ae;have J:(Value.slice A l.length c).ownBlock=some b:=by rw[hA];rfl
 refine⟨b,off,us[i],hA,a7,J,r.len aI,λj v hv=>?_,aI⟩;have hj:j<r.k:=by
  have:=(List.getElem?_eq_some_iff.1 hv).1;rw[r.len aI]at this;exact this
 rw[Nat.add_assoc];exact hc _ v ((eh us hl i j _ (List.getElem?_eq_getElem (by omega)) hj).trans hv)
def cz(l:List bc):Nat:=(l.map λm=>m.asks.length).sum
theorem oZ(l:List bc)(i:Nat)(h:i<l.length):cz (l.take (i+1))=cz (l.take i)+l[i].asks.length:=by
 unfold cz;rw[List.take_succ_eq_append_getElem h,List.map_append,List.sum_append];simp
theorem r9(l:List bc)(i:Nat):cz (l.take i)<=cz l:=by
 unfold cz
 conv=>rhs;rw[<-List.take_append_drop i l,List.map_append,List.sum_append]
 omega
theorem qR(list own:List ae)(l:List bc)(i:Nat)(h:i<l.length):fk list own (l.take (i+1))=l[i].asks.foldl (bn list) (fk list own (l.take i)):=by
 unfold fk;rw[List.take_succ_eq_append_getElem h,List.foldl_append];rfl
theorem gN(list own:List ae):∀ (l:List bc),(fk list own l).length<=own.length+cz l:=by
 intro l
 suffices h:∀ (l:List bc) (acc:List ae),(l.foldl (λacc m=>m.asks.foldl (bn list) acc) acc).length<=acc.length+cz l by
  have h1:=h l (own.foldl (bn list) []);have h2:=gS list own [];unfold fk;simp only[List.length_nil]at h2;omega
 intro l
 induction l with
 | nil=>intro acc;simp[cz]
 | cons m l M=>
  intro acc;rw[List.foldl_cons];have:=M (m.asks.foldl (bn list) acc);have:=gS list m.asks acc;have:cz (m::l)=m.asks.length+cz l:=(by simp[cz]);omega
theorem kc{z:aM}{s:aC}(hf:Fit z s):∀m∈bz z s,(∀x∈m.asks,ch z x)/\m.a5.length<=16/\m.asks.length<=16:=λm hm=>by
 unfold bz at hm;obtain⟨k,_,rfl⟩:=List.mem_map.1 hm;unfold aC.rep;cases h:s.bU k with
 | none=>exact⟨(λx hx=>by cases hx),by simp[bc.zero],by simp[bc.zero]⟩
 | some m=>exact hf.bU k m h
theorem vH(z:aM)(s:aC)(a:b4)(F:Nat->Prop)(w:World)(hz:z.ok)(h:bk w F z s a)(hf:Fit z s)(hl:(b0 s.aF).length+cz (bz z s)<=15):
 Calls Tryz.prog 166 #[aj a.bb] w λe w'=>∃v,e=.returned v/\aD aB 132 w' w (λb=>bO F a b/\b<w.heap.size) v (dF z s)/\Below w w w':=by
 obtain⟨v,hB,D⟩:=h.ex;have bs:=h.ce;obtain⟨bb,az⟩:=am a.bb;rw[<-az]at hB bs ⊢;have bG:=Lib.hid az;unfold bi at hB;have y8:=hB.cell 8;simp at y8;obtain⟨w0,ar⟩:=am ((w.alloc (.cells #[aj bb] 80)).alloc (.cells #[aa] 46));have aU:Below w w w0:=by rw[ar];exact((Below.refl _ _).alloc (Nat.le_refl _) _).alloc (by simp) _
 have aS:ai w0 w 80 #[aj bb]:=by rw[ar];exact(ai.made _ _ _).alloc _
 have J:ai w0 (w.heap.size+1) 46 #[aa]:=by
  rw[ar];have:=ai.made (w.alloc (.cells #[aj bb] 80)) 46 #[aa];simpa using this
 obtain⟨pb,bl⟩:=am w.heap.size;obtain⟨ob,bw⟩:=am (w.heap.size+1);rw[<-bl]at aS;rw[<-bw]at J;have Y:=di bl bw;have aT:=J.lt;have aN:=sD (bO F a) v.AT _ v.cT s.aF w0 rfl (by have:=hf.l3;omega) (D.aF.goes (.ao aU _)) (λt ht=>(hf.aF t ht).aH);have aP:=Lib.hid hf.l3;have HH:=dx h hf hz hl;clear h hf hz hl D bl bw az;go_enter Tryz.func166,Tryz.ntmps166;go_wp2_with fail;rw[<-ar,<-Y.out.2,<-Y.out.1];clear ar y8;refine aN.mono ?_;clear aN;rintro e w1 ⟨v1,rfl,O1,b1⟩;obtain⟨A1,n1,c1,rfl,bv,bU⟩:=O1.form;have a6:=aU.trans (b1.mono aU.size);have a8:=aS.below b1 aS.lt;have aQ:=J.below b1 J.lt;obtain⟨S,hS⟩:∃S:Nat->Prop,S=λb=>(bO F a b/\b<w.heap.size)\/b=ob\/b=pb\/w1.heap.size<=b:=⟨_,rfl⟩;have s1:SliceAt aB w1 S A1 (b0 s.aF):=(O1.slice (S':=λb=>b<w0.heap.size) (λb a7=>a7) (λb a7=>a7)).cJ (λb a7 e=>by
  rw[hS]at e;have:=aU.size;rcases e with e | e | e | e
  ·exact Nat.lt_of_lt_of_le e.2 this
  ·show b<w0.heap.size;omega
  ·show b<w0.heap.size;have:=aS.lt;omega
  ·omega)
 have M:∀b,F b->b<w1.heap.size/\b≠ob:=λb a7=>by
  have:=HH.out.1.lt b a7;have:=a6.size;have:=Y.out.2;exact⟨by omega,by omega⟩
 have b5:pb≠ob:=by have:=Y.out;omega
 have b6:S ob:=by rw[hS];exact .inr (.inl rfl)
 have au:∀b,w1.heap.size<=b->S b:=λb a7=>by rw[hS];exact .inr (.inr (.inr a7))
 have ad:=pw z s a F S w1 ob pb (b0 s.aF) [] A1 n1 c1 aa w1 (HH.out.1.below a6) HH.out.2.1 bv.out (by have:=HH.out.2.2.2;have:=bv.out;simp;omega) s1 (rS λt ht=>(HH.out.2.1.aF t ht).aH) aQ (aD.nil _ _ _ _ _) (by rw[bG.out]at a8;exact a8) au (Nat.le_refl _) aQ.lt a8.lt b5 b6 M;have p0:=a8.cell 0;simp at p0;have ay:=Lib.hid hS;clear O1 s1;go_wp2_with fail;refine ad.mono ?_;clear ad;rintro e w2 ⟨⟨r,rfl⟩,v2,bZ,O2,t2,a3⟩;have bP:=t2.aW a8 (λe=>e.elim b5 (λe=>by cases e));have aG:bk w2 F z s a:=(HH.out.1.below a6).ba t2 (λb a7 e=>by rcases e with e | e;(exact(M b a7).2 e);(cases e));have la:=lu z s a F w2 HH.out.2.2.1 aG;rw[<-bG.out]at la;have p0:=bP.cell 0;simp at p0;go_wp2_with fail;refine la.mono ?_;clear la p0;rintro e w3 ⟨v3,rfl,O3,b3⟩;obtain⟨A3,n3,c3,rfl,a2,bY⟩:=O3.form;have bo:Below w w w2:=a6.trans (t2.below a6.size (λb a7 e=>by rcases e with e | e;(have:=Y.out.2;omega);(cases e)));have aY:=bZ.below b3 bZ.lt;have bS:=bP.below b3 bP.lt;have Q3:=O2.below b3;have br:=bo.trans (b3.mono bo.size);have t13:=b3.size;have t12:=t2.size;have bg:=bZ.lt;have aZ:=bP.lt;have aE:=r9 (bz z s);have ah:=Lib.hid (kc HH.out.2.1);have bF:=(ge HH.out.2.2.1).1;have aJ:n3<=16:=by rw[a2.out];unfold bz;rw[List.length_map];exact bF
 have aL:fk s.list (b0 s.aF) ((bz z s).take 0)=(b0 s.aF).foldl (bn s.list) []:=rfl;have aq:=Lib.hid (λb (a7:S b)=>(show bO F a b from by
  rw[hS]at a7;rcases a7 with e | e | e | e
  ·exact e.1
  ·exact .inl (λhF=>(M b hF).2 e)
  ·exact .inl (λhF=>by have:=HH.out.1.lt b hF;have:=Y.out.1;omega)
  ·exact .inl (λhF=>by have:=(M b hF).1;omega)))
 clear bF hS;go_wp2_with fail
 go_loopw [18] (λi_ wr=>∃ (i:Nat) (v:Value),i_=I af i/\i<=n3/\ai wr ob 46 #[v]/\aD aB 132 wr w1 S v (fk s.list (b0 s.aF) ((bz z s).take i))/\aw (λb=>b=ob\/v2.ownBlock=some b) w3 wr/\(∀b,v.ownBlock=some b->v2.ownBlock=some b\/w3.heap.size<=b)) (λi _=>n3- (intOf i).toNat)
 case atStart=>exact⟨0,v2,rfl,by omega,aY,Q3,aw.refl _ _,λb a7=>.inl a7⟩
 case round=>
  obtain⟨i,v,rfl,hi,hOr,ca,tq,ax⟩:=hrel;have av:=tq.aW bS (λe=>e.elim b5 (λe=>by have h1:=(O2.lt e).1;have h2:=a8.lt;omega));have ag:bk wr F z s a:=(aG.below b3).ba tq (λb a7 e=>by rcases e with e | e;(exact(M b a7).2 e);(have:=(O2.lt e).1;have:=(M b a7).1;omega));by_cases bA:i<n3
  ·have bu:i<(bz z s).length:=(by have:=a2.out;omega);have bE:(i:Int)<(n3:Int):=(by omega);have aX:=ah.out _ (List.getElem_mem bu);have a4:=Lib.hid (qR s.list (b0 s.aF) (bz z s) i bu);have ae:=oZ (bz z s) i bu;have bm:=aE (i+1);have bQ:=gN s.list (b0 s.aF) ((bz z s).take i);have aA:=O3.ba tq (λb a7 e=>by
    rcases e with e | e
    ·exact .inl (aq.out b (by rw[e];exact b6))
    ·exact .inl (aq.out b (au b (O2.lt e).1))) (λb a7 e=>by
    have a1:=(O3.lt a7).1;rcases e with e | e
    ·omega
    ·have:=(O2.lt e).2;omega)
   obtain⟨b,off,u,rfl,bV,b8,bx,hcell,hu⟩:=(aA).at_ bu (by decide);obtain⟨⟨cm,cp,aO,cd,cj,cq,bT,cf⟩,aR,cD⟩:=hu;unfold bc.cellsOf at aR;simp only at aR;rw[aR]at hcell;have d0:wr.cell? ⟨b,off+i*8,none⟩=some (I af (bz z s)[i].kind):=hcell 0 _ rfl;have d1:wr.cell? ⟨b,off+i*8+1,none⟩=some (I ak (bz z s)[i].bf):=hcell 1 _ rfl;have d2:wr.cell? ⟨b,off+i*8+2,none⟩=some (.slice cm (bz z s)[i].a5.length cp):=hcell 2 _ rfl;have d3:wr.cell? ⟨b,off+i*8+3,none⟩=some (.slice aO (bz z s)[i].asks.length cd):=hcell 3 _ rfl;have d4:wr.cell? ⟨b,off+i*8+4,none⟩=some (.slice cj (bz z s)[i].entries.length cq):=hcell 4 _ rfl;have d5:wr.cell? ⟨b,off+i*8+5,none⟩=some (.slice bT (bz z s)[i].aK.length cf):=hcell 5 _ rfl;have d6:wr.cell? ⟨b,off+i*8+6,none⟩=some (aa):=hcell 6 _ rfl;have d7:wr.cell? ⟨b,off+i*8+7,none⟩=some (aa):=hcell 7 _ rfl;obtain⟨x,hx⟩:=am ((bz z s)[i]);rw[<-hx]at d0 d1 d2 d3 d4 d5 aX a4 cD ae;obtain⟨q,hq⟩:=am (fk s.list (b0 s.aF) ((bz z s).take i));rw[<-hq]at ca a4 bQ;obtain⟨w4,bd⟩:=am (wr.alloc (.cells (fD x cm cp aO cd cj cq bT cf) 233));have bK:=aV bd;have bD:ai w4 wr 233 (fD x cm cp aO cd cj cq bT cf):=(by rw[bd];exact ai.made _ _ _);obtain⟨xb,a0⟩:=am wr.heap.size;rw[<-a0]at bD;have bj:=Lib.hid a0;have ch:=hOr.below bK hOr.lt;have b7:=av.below bK av.lt;have Q4:=ca.below bK;have sx:SliceAt aB w4 S aO x.asks:=(cD.asks.cJ (S':=S) (λb a7 e=>.inl (.inl (aq.out b e)))).below bK;have ad:=pw z s a F S w1 ob pb x.asks q aO x.asks.length cd v w4 (ag.below bK) HH.out.2.1 rfl (by have:=HH.out.2.2.2;omega) sx (λy hy=>(aX.1 y hy).aH) ch Q4 (by rw[bG.out]at b7;exact b7) au (by have:=tq.size;have:=bK.size;omega) aQ.lt a8.lt b5 b6 M;have x3:=bD.cell 3;simp at x3;clear hcell bx aR hx a0 hq bQ ae bm sx cD;go_wp2_with fail;rw[<-bd];clear bd x3 d0 d1 d2 d3 d4 d5 d6 d7;refine ad.mono ?_;clear ad;rintro e w5 ⟨⟨r,rfl⟩,v5,a9,O5,t5,aI⟩;go_wp2
   go_round
   case rel=>exact⟨i+1,v5,by go_num,by omega,a9,by rw[a4.out];exact O5,(tq.trans (aw.ao bK λ_=>False) (λ_ _ h=>h.elim)).trans t5 (λb a7 e=>e.elim .inl (λe=>(ax b e).elim .inr (λe=>by omega))),λb a7=>(aI b a7).elim (ax b) (λe=>.inr (by have:=tq.size;have:=bK.size;omega))⟩
   case measure=>simp[intOf];omega
  ·obtain rfl:i=n3:=(by omega);have HE:Hid (fk s.list (b0 s.aF) ((bz z s).take i)=dF z s):=by
    show _=_;rw[a2.out,List.take_length];rfl
   rw[HE.out]at ca;have cl:=hOr.cell 0;simp at cl;go_wp2;go_ret;exact⟨_,rfl,(ca.mono a6.size).weak (λb a7=>by rw[ay.out];exact .inl a7),br.trans (tq.below br.size (λb a7 e=>by rcases e with e | e;(have:=Y.out.2;omega);(have:=(O2.lt e).1;have:=a6.size;omega)))⟩
theorem aD.vK{α:Type}{r:dD α}{e:TypeId}{w:World}{base:Nat}{S S':Nat->Prop}{A:Option Addr}{n c:Nat}{l:List α}(h:aD r e w base S (Y A n c) l)(hs:∀b,b<w.heap.size->S' b->S b)(ho:∀b,(Value.slice A n c).ownBlock=some b->¬S' b):SliceAt r w S' A l:=by
 obtain⟨A',n',c',aB,aL,_⟩:=h.form;injection aB with e1 a5 e3;obtain rfl:n=l.length:=by rw[a5];exact aL.out
 clear aL e1 a5 e3;obtain⟨us,h1,h2,a1⟩:=h;have h4:=a6.eu (S:=λ_=>False) h1 (λb h=>h.elim);refine⟨us,?_,h2,λi u a hu ha=>r.goes (a1 i u a hu ha) (weaken λb a7 hp=>.inl (hs b a7 hp))⟩;rcases h4 with h4 | ⟨b,off,hA,a7,_,hc⟩
 ·exact .inl h4
 ·exact .inr ⟨b,off,hA,a7,ho b (by rw[hA];rfl),hc⟩
theorem n9{z:aM}(hz:z.ok):∀ (l:List ae) (s:aC) (i:Nat) (h:i<l.length),gU z s l->Fit z s->(∀x∈l,ch z x)->jh z ((l.take i).foldl aC.bP s) l[i]/\Fit z ((l.take i).foldl aC.bP s)
 | [],_,_,h,_,_,_=>by simp at h
 | x::l,s,0,_,hc,hf,_=>⟨hc.1,hf⟩
 | x::l,s,i+1,h,hc,hf,hg=>n9 hz l (s.bP x) i (by simpa using h) hc.2 (hf.bP hz hc.1 (hg x (by simp))) (λy hy=>hg y (by simp[hy]))
theorem lS{z:aM}(hz:z.ok):∀ (l:List ae) (s:aC),gU z s l->Fit z s->(∀x∈l,ch z x)->Fit z (l.foldl aC.bP s)
 | [],_,_,hf,_=>hf
 | x::l,s,hc,hf,hg=>lS hz l (s.bP x) hc.2 (hf.bP hz hc.1 (hg x (by simp))) (λy hy=>hg y (by simp[hy]))
theorem rW(s:aC)(l:List ae)(i:Nat)(h:i<l.length):(l.take (i+1)).foldl aC.bP s=((l.take i).foldl aC.bP s).bP l[i]:=by
 rw[List.take_succ_eq_append_getElem h,List.foldl_append];rfl
theorem lR:∀ (l:List ae) (s:aC),(l.foldl aC.bP s).bU=s.bU
 | [],_=>rfl
 | x::l,s=>lR l (s.bP x)
structure ih (z:aM) (s:aC):Prop where
 asks:(b0 s.aF).length+cz (bz z s)<=15
 aH:∀x∈dF z s,ch z x
 listed:gU z s (hb z s)
 yes:gU z ((hb z s).foldl aC.bP s) ((gP z s).filter λx=>b9 (bz z s) x.id)
theorem nh(list:List ae):∀ (l:List ae) (s:List ae×List ae) (x:ae),(x∈(l.foldl (bh list) s).1->x∈s.1\/x∈l)/\(x∈(l.foldl (bh list) s).2->x∈s.2\/x∈l)
 | [],s,x=>⟨λh=>.inl h,λh=>.inl h⟩
 | y::l,s,x=>by
  have M:=nh list l (bh list s y) x;rw[List.foldl_cons];have h1:x∈(bh list s y).1->x∈s.1\/x=y:=by
   unfold bh;split
   ·exact .inl
   ·split
    ·split
     ·intro h;rcases List.mem_append.1 h with h | h
      ·exact .inl h
      ·exact .inr (List.mem_singleton.1 h)
     ·exact .inl
    ·exact .inl
  have h2:x∈(bh list s y).2->x∈s.2\/x=y:=by
   unfold bh;split
   ·exact .inl
   ·split
    ·split
     ·exact .inl
     ·exact .inl
    ·intro h;rcases List.mem_append.1 h with h | h
     ·exact .inl h
     ·exact .inr (List.mem_singleton.1 h)
  refine⟨λh=>?_,λh=>?_⟩
  ·rcases M.1 h with h | h
   ·exact(h1 h).imp id (λe=>by rw[e];simp)
   ·exact .inr (by simp[h])
  ·rcases M.2 h with h | h
   ·exact(h2 h).imp id (λe=>by rw[e];simp)
   ·exact .inr (by simp[h])
theorem rl(list:List ae):∀ (l:List ae) (s:List ae×List ae),(l.foldl (bh list) s).1.length<=s.1.length+l.length/\(l.foldl (bh list) s).2.length<=s.2.length+l.length
 | [],s=>⟨by simp,by simp⟩
 | y::l,s=>by
  have M:=rl list l (bh list s y);rw[List.foldl_cons,List.length_cons];have h1:(bh list s y).1.length<=s.1.length+1/\(bh list s y).2.length<=s.2.length+1:=by
   unfold bh;split
   ·exact⟨by omega,by omega⟩
   ·split
    ·split
     ·simp
     ·exact⟨by omega,by omega⟩
    ·simp
  omega
theorem ma{z:aM}(hz:z.ok):∀ (P:List ae) (x:ae) (R:List ae) (s:aC),gU z s (P++x::R)->Fit z s->(∀y∈P,ch z y)->jh z (P.foldl aC.bP s) x/\Fit z (P.foldl aC.bP s)
 | [],_,_,_,hc,hf,_=>⟨hc.1,hf⟩
 | y::P,x,R,s,hc,hf,hg=>ma hz P x R (s.bP y) hc.2 (hf.bP hz hc.1 (hg y (by simp))) (λq hq=>hg q (by simp[hq]))
theorem sT{α:Type}(p:α->Bool)(l:List α)(i:Nat)(h:i<l.length)(hp:p l[i]=true):l.filter p=(l.take i).filter p++l[i]::(l.drop (i+1)).filter p:=by
 conv=>lhs;rw[<-List.take_append_drop i l,List.drop_eq_getElem_cons h,List.filter_append,List.filter_cons,if_pos hp]
theorem hI{α:Type}(p:α->Bool)(l:List α)(i:Nat)(h:i<l.length):(l.take (i+1)).filter p=(l.take i).filter p++if p l[i]=true then [l[i]]else []:=by
 rw[List.take_succ_eq_append_getElem h,List.filter_append,List.filter_cons,List.filter_nil]
theorem wF(kids:List bc)(opn:List ae)(x:ae)(hx:x∈opn):bd (opn.filter λy=>b9 kids y.id) x.id=b9 kids x.id:=by
 unfold bd;rw[Bool.eq_iff_iff,List.any_eq_true];constructor
 ·rintro⟨y,hy,he⟩;have h1:=(List.mem_filter.1 hy).2;rw[of_decide_eq_true he]at h1;exact h1
 ·intro h;exact⟨x,List.mem_filter.2 ⟨hx,h⟩,decide_eq_true rfl⟩
theorem lT(z:aM)(s:aC)(a:b4)(F:Nat->Prop)(w:World)(h:bk w F z s a)(ct:z.me≠0):
 Calls Tryz.prog 160 #[aj a.bb] w λe w'=>(∃r,e=.returned r)/\w=w':=by
 have ro:=gY z s a F w h;rw[decide_eq_false ct]at ro;clear h ct;go_enter Tryz.func160,Tryz.ntmps160;go_wp2_with fail;go_step3;go_wp2_with fail;refine ro.mono ?_;rintro e w1 ⟨rfl,rfl⟩;go_wp2
 try rw[Exit.noGoto_ret]
 refine bodyPost_ret (results_none rfl _ _ _) rfl ?_;exact⟨⟨_,rfl⟩,rfl⟩
theorem nU(z:aM)(s:aC)(a:b4)(F:Nat->Prop)(w:World)(hz:z.ok)(h:bk w F z s a)(hf:Fit z s)(ct:z.me=0)(hw:ih z s):
 Calls Tryz.prog 160 #[aj a.bb] w λe w'=>(∃r,e=.returned r)/\∃a':b4,aY w w' F z (hd z s) a a':=by
 obtain⟨i0,z0,bM,bL,bB,bJ,bR⟩:=aS Tryz.dJ;have ro:=gY z s a F w h;rw[decide_eq_true ct]at ro;obtain⟨v,hB,D⟩:=h.ex;have bs:=h.ce;obtain⟨bb,az⟩:=am a.bb;have ask:=vH z s a F w.drew hz (h.below ⟨rfl,rfl,rfl,Nat.le_refl _,λ_ _=>rfl⟩) hf hw.asks;rw[<-az]at hB bs ro ask ⊢;have bG:=Lib.hid az;unfold bi at hB;have HH:=dx h hf hz hw;have aJ:ai w.drew bb 130 _:=hB;have HD:=Lib.hid D;clear hf ct hw az h D hz;go_enter Tryz.func160,Tryz.ntmps160;go_wp2_with fail;go_step3;go_wp2_with fail;refine ro.mono ?_;clear ro;rintro e w1 ⟨rfl,rfl⟩;go_wp2_with fail;refine wp_region_held_drew (S:=(λw'=>w'.cell? ⟨bb,4,none⟩=some (I ak 1)/\w'.cell? ⟨bb,5,none⟩=some (Y v.AL s.list.length v.cL)/\w'.cell? ⟨bb,6,none⟩=some (Y v.AQ s.ay.length v.cQ)/\w'.cell? ⟨bb,7,none⟩=some (aa)/\w'.cell? ⟨bb,13,none⟩=some (Y v.AW s.waits.length v.cW))) (by kernel_rfl) (⟨aJ.cell 4,aJ.cell 5,aJ.cell 6,aJ.cell 7,aJ.cell 13⟩) (λJ=>?_);refine tk 0 J ?_;refine tk 1 J ?_;refine tk 2 J ?_;refine tk 3 J ?_;refine tk 4 J ?_;refine tk 5 J ?_;refine tk 6 J ?_;refine tk 7 J ?_;refine tk 8 J ?_;refine aP 9 (λK ad=>?_);clear J;go_simp;refine ask.mono ?_;clear ask;rintro e w1 ⟨vA,rfl,OA,b1⟩;obtain⟨AA,nA,c6,rfl,cK,db⟩:=OA.form;have a6:Below w w w1:=⟨b1.os,b1.tape,b1.output,b1.size,b1.block⟩;have aE:=hB.below a6 bs;have dg:=tY (bO F a) (bO F a) (λb=>bO F a b/\b<w.heap.size) 1 v.AL v.AW _ v.cL _ v.cW (Y v.AQ s.ay.length v.cQ) s.list s.waits AA nA c6 (dF z s) w1 ⟨_,_,_,rfl⟩ (HD.out.list.goes (.ao a6 _)) rfl (by have:=HH.out.2.1.l1;omega) rfl (by have:=HH.out.2.1.l4;omega) (HD.out.waits.goes (.ao a6 _)) (λx hx=>(HH.out.2.1.waits x hx).aH) cK.out (by have:=gN s.list (b0 s.aF) (bz z s);have:=HH.out.2.2.2.asks;have:=cK.out;unfold dF at this;omega) (OA.slice (λb a7=>a7) (λb a7=>a7.2)) (λx hx=>(HH.out.2.2.2.aH x hx).aH)
 try dsimp only
 refine ad.out _ _ (⟨aE.cell 4,aE.cell 5,aE.cell 6,aE.cell 7,aE.cell 13⟩) (λJ=>?_);clear ad K;refine aP 10 (λK ad=>?_);clear J;go_simp;refine dg.mono ?_;clear dg;rintro e w2 ⟨v1,v2,rfl,pr,b2⟩;obtain⟨A1,n1,c1,rfl,bv,bU⟩:=pr.L.form;obtain⟨A2,aZ,c2,rfl,aO,aT⟩:=pr.P.form;have bo:=a6.trans (b2.mono a6.size);have bq:=aE.below b2 aE.lt
 try dsimp only
 refine ad.out _ _ (⟨bq.cell 4,bq.cell 5,bq.cell 6,bq.cell 7,bq.cell 13⟩) (λJ=>?_);clear ad K;refine tk 11 J ?_;refine tk 12 J ?_;refine tk 13 J ?_;refine tk 14 J ?_;refine aP 15 (λK ad=>?_);clear J;go_simp;refine ad.out _ _ (⟨bq.cell 4,bq.cell 5,bq.cell 6,bq.cell 7,bq.cell 13⟩) (λJ=>?_);clear ad K;refine cB ?_ _;clear J;obtain⟨opn,cf⟩:=am (gP z s);obtain⟨M,aW⟩:=am (hb z s);have av:(∀x∈opn,ch z x)/\∀x∈M,ch z x:=by
  rw[cf,aW];exact⟨λx hx=>((nh s.list (dF z s) (s.waits,[]) x).1 hx).elim (HH.out.2.1.waits x) (HH.out.2.2.2.aH x),λx hx=>((nh s.list (dF z s) (s.waits,[]) x).2 hx).elim (λh=>by cases h) (HH.out.2.2.2.aH x)⟩
 have hlen:opn.length<=19/\M.length<=15:=by
  have h1:=rl s.list (dF z s) (s.waits,[]);have h2:=gN s.list (b0 s.aF) (bz z s);have a1:=HH.out.2.2.2.asks;have h4:=HH.out.2.1.l4;rw[cf,aW];unfold gP hb fe dF at*;simp only[List.length_nil]at h1;omega
 have e1:(fe s.list s.waits (dF z s)).1=opn:=cf.symm;have a5:(fe s.list s.waits (dF z s)).2=M:=aW.symm;rw[e1]at pr bv;rw[a5]at pr aO;have sO:SliceAt aB w2 (λb=>b<w1.heap.size\/w2.heap.size<=b) A1 opn:=(pr.L.slice (S':=λb=>b<w1.heap.size) (λb a7=>.inl a7) (λb a7=>a7)).cJ (λb a7 e=>e.elim id (λe=>by omega));have sL:SliceAt aB w2 (λb=>b<w1.heap.size\/w2.heap.size<=b) A2 M:=(pr.P.slice (S':=λb=>b<w1.heap.size) (λb a7=>.inl a7) (λb a7=>a7)).cJ (λb a7 e=>e.elim id (λe=>by omega));have dd:aZ<=15:=by rw[aO.out];exact hlen.2
 have da:n1<=19:=by rw[bv.out];exact hlen.1
 have bc:gU z s M:=by rw[aW];exact HH.out.2.2.2.listed
 have ck:=aY.below HH.out.1 bo;have aU:=dx cf aW av bc;have cD:w.heap.size<=w1.heap.size:=a6.size;clear pr OA aE bq aJ hB av hlen e1 a5 bc cf aW b1;go_wp2_with fail
 go_loopw [38] (λi_ wr=>∃ (i:Nat) (bn:b4),i_=I af i/\i<=aZ/\aY w wr F z ((M.take i).foldl aC.bP s) a bn/\(∀b,bn.mut b->a.mut b\/w2.heap.size<=b)/\aw (λb=>a.mut b\/w2.heap.size<=b) w2 wr) (λi _=>aZ- (intOf i).toNat)
 case atStart=>exact⟨0,a,rfl,by omega,ck,λb a7=>.inl a7,aw.refl _ _⟩
 case round=>
  obtain⟨i,bn,rfl,hi,st,bg,tq⟩:=hrel;have gq:Goes (λb=>b<w1.heap.size\/w2.heap.size<=b) w2 (λb=>b<w1.heap.size\/w2.heap.size<=b) wr:=⟨tq.os,tq.tape,tq.output,tq.size,λb aG aL=>tq.aI b aG (λe=>aL (e.elim (λe=>.inl (Nat.lt_of_lt_of_le (HH.out.1.lt b (HH.out.1.own b e)) cD)) .inr)),λ_ _ h=>h⟩;by_cases bA:i<aZ
  ·have bu:i<M.length:=(by have:=aO.out;omega);have bE:(i:Int)<(aZ:Int):=(by omega);have aX:=aU.out.2.2.1.2 _ (List.getElem_mem bu);have ag:=n9 HH.out.2.2.1 M s i bu aU.out.2.2.2 HH.out.2.1 aU.out.2.2.1.2;have a4:=Lib.hid (rW s M i bu);obtain⟨b,off,u,rfl,bV,b8,bx,hcell,A5,c8,hu,h2⟩:=(sL.goes gq).at_ bu (by decide);rw[hu]at hcell;have d0:wr.cell? ⟨b,off+i*8,none⟩=some (I af M[i].kind):=hcell 0 _ rfl;have d1:wr.cell? ⟨b,off+i*8+1,none⟩=some (I af M[i].id.au):=hcell 1 _ rfl;have d2:wr.cell? ⟨b,off+i*8+2,none⟩=some (I ak M[i].id.aq):=hcell 2 _ rfl;have d3:wr.cell? ⟨b,off+i*8+3,none⟩=some (I ak M[i].id.ax):=hcell 3 _ rfl;have d4:wr.cell? ⟨b,off+i*8+4,none⟩=some (I af M[i].ah):=hcell 4 _ rfl;have d5:wr.cell? ⟨b,off+i*8+5,none⟩=some (I ak M[i].sub):=hcell 5 _ rfl;have d7:wr.cell? ⟨b,off+i*8+7,none⟩=some (Y A5 M[i].events.length c8):=hcell 7 _ rfl;have d6:wr.cell? ⟨b,off+i*8+6,none⟩=some aa:=hcell 6 _ rfl;obtain⟨x,hx⟩:=am (M[i]);rw[<-hx]at d0 d1 d2 d3 d4 d5 d7 h2 aX ag a4;obtain⟨sq,b5⟩:=am ((M.take i).foldl aC.bP s);rw[<-b5]at st ag a4;obtain⟨w3,bd⟩:=am (wr.alloc (.cells (a3 x A5 c8) 132));have b3:=aV bd;have cc:=st.lN b3;have nt:=pT z sq bn (New F w w3) (λb=>b<w1.heap.size\/w2.heap.size<=b) x A5 c8 w3 HH.out.2.2.1 cc.at_ ag.2 ag.1 aX (h2.below b3);have aR:bn.bb=bb:=st.bb.trans bG.out.symm;rw[aR]at nt;clear hcell bx hu hx h2 aX ag b5 gq;go_wp2_with fail;rw[<-bd];clear bd d0 d1 d2 d3 d4 d5 d6 d7;refine nt.mono ?_;clear nt;rintro e w4 ⟨rfl,bw,bW⟩;have cr:=cc.trans bW;go_wp2
   go_round
   case rel=>exact⟨i+1,bw,by go_num,by omega,by rw[a4.out];exact cr,λb a7=>(bW.news b a7).elim (bg b) (λe=>.inr (Nat.le_trans (Nat.le_trans tq.size b3.size) e)),(tq.trans (aw.ao b3 λ_=>False) (λ_ _ h=>h.elim)).trans bW.ba (λb _ e=>bg b e)⟩
   case measure=>simp[intOf];omega
  ·obtain rfl:i=aZ:=(by omega);obtain⟨wm,rfl⟩:=am wr;have cv:=lS HH.out.2.2.1 M s aU.out.2.2.2 HH.out.2.1 aU.out.2.2.1.2;have HE:Hid ((M.take i).foldl aC.bP s=M.foldl aC.bP s):=by
    show _=_;rw[aO.out,List.take_length]
   rw[HE.out]at st;obtain⟨s1,bQ⟩:=am (M.foldl aC.bP s);have cj:bz z s1=bz z s:=by
    unfold bz aC.rep;rw[bQ,lR]
   rw[<-bQ]at st cv;have c9:=Lib.hid bQ;have aR:bn.bb=bb:=st.bb.trans bG.out.symm;have la:=lu z s1 bn (New F w wm) wm HH.out.2.2.1 st.at_;rw[aR,cj]at la;have dM:=Lib.hid cj;clear bQ cj sL;go_wp2_with fail;refine la.mono ?_;clear la;rintro e w3 ⟨dk,rfl,OK,b3⟩;obtain⟨AK,nK,cN,rfl,bl,cu⟩:=OK.form;have cU:=(sO.goes gq).below b3;have bF:=(ge HH.out.2.2.1).1;have dc:=sI (λb=>b<w1.heap.size\/w2.heap.size<=b) (λb=>(bO (New F w wm) bn b\/wm.heap.size<=b)/\b<wm.heap.size) A1 AK n1 c1 nK cN opn (bz z s) w3 bv.out (by omega) cU (λx hx=>(aU.out.2.2.1.1 x hx).aH) bl.out (by rw[bl.out];unfold bz;rw[List.length_map];omega) (OK.slice (λb a7=>a7.1) (λb a7=>a7.2)) (λm hm=>by have:=(kc HH.out.2.1 m hm).2.1;omega);have cc:=st.lN b3;clear OK gq;go_wp2_with fail;refine dc.mono ?_;clear dc;rintro e w4 ⟨v5,v6,rfl,pr,bK⟩;have bW:=cc.lN bK;obtain⟨A5,n5,c5,rfl,b7,cA⟩:=pr.L.form;obtain⟨A6,n6,bX,rfl,ca,cC⟩:=pr.P.form;obtain⟨kids,cb⟩:=am (bz z s);rw[<-cb]at pr b7 ca;have cS:SliceAt aB w4 (λb=>b<w1.heap.size\/w2.heap.size<=b) A1 opn:=cU.below bK;have dn:SliceAt aB w4 (λb=>b<w3.heap.size\/w4.heap.size<=b) A5 (opn.filter λy=>b9 kids y.id):=(pr.L.slice (S':=λb=>b<w3.heap.size) (λb a7=>.inl a7) (λb a7=>a7)).cJ (λb a7 e=>e.elim id (λe=>by omega));have hY:gU z s1 (opn.filter λy=>b9 kids y.id):=by
    rw[c9.out,cb,aU.out.1,aU.out.2.1];exact HH.out.2.2.2.yes
   have dv:n5<=19:=(by rw[b7.out];exact Nat.le_trans (List.length_filter_le _ _) (by rw[<-bv.out];exact da));have di:=Lib.hid hY;have dm:=Lib.hid cv;have HK:=Lib.hid cb;have cx:wm.heap.size<=w4.heap.size:=Nat.le_trans b3.size bK.size;have dA:w2.heap.size<=wm.heap.size:=tq.size;have du:∀b,bn.mut b->b<wm.heap.size:=λb a7=>st.at_.lt b (st.at_.own b a7);obtain⟨sA,cV⟩:∃sA:Nat->Prop,sA=λb=>b<w1.heap.size\/w2.heap.size<=b:=⟨_,rfl⟩;have cO:=Lib.hid (show ∀b,sA b↔(b<w1.heap.size\/w2.heap.size<=b) from λb=>by rw[cV]);rw[<-cV]at cS;clear pr cU sO hY cv cb cV ca cC bl cu aO dd hi bA aT cc;go_wp2_with fail;go_step3;go_wp2_with fail
   go_loopw [11,56] (λv_ i_ wr=>∃ (j:Nat) (ar:b4) (Fr:Nat->Prop),i_=I af j/\j<=n1/\eK w wr F Fr z (((opn.take j).filter λy=>b9 kids y.id).foldl aC.bP s1) a ar/\aD aB 132 wr w4 sA v_ ((opn.take j).filter λy=> !b9 kids y.id)/\(∀b,v_.ownBlock=some b->¬Fr b)/\(∀b,ar.mut b->bn.mut b\/w4.heap.size<=b)/\w4.heap.size<=wr.heap.size/\SliceAt aB wr sA A1 opn/\SliceAt aB wr (λb=>b<w3.heap.size\/w4.heap.size<=b) A5 (opn.filter λy=>b9 kids y.id)) (λ_ i _=>n1- (intOf i).toNat)
   case atStart=>exact⟨0,bn,_,rfl,by omega,eK.yV bW,aD.nil _ _ _ _ _,(λb a7=>by cases a7),λb a7=>.inl a7,Nat.le_refl _,cS,dn⟩
   case round=>
    obtain⟨j,ar,Fr,rfl,hj,st,O,cH,cg,cp,cI,de⟩:=hrel;by_cases bA:j<n1
    ·have bu:j<opn.length:=(by have:=bv.out;omega);have bE:(j:Int)<(n1:Int):=(by omega);have aX:=aU.out.2.2.1.1 _ (List.getElem_mem bu);have cZ:=wF kids opn _ (List.getElem_mem bu);have cE:=Lib.hid (hI (λy:ae=>b9 kids y.id) opn j bu);have cw:=Lib.hid (hI (λy:ae=> !b9 kids y.id) opn j bu);have cd:=λh=>ma HH.out.2.2.1 _ _ _ s1 ((sT (λy:ae=>b9 kids y.id) opn j bu h)▸di.out) dm.out (λy hy=>aU.out.2.2.1.1 y (List.mem_of_mem_take (List.mem_filter.1 hy).1));obtain⟨b,off,u,rfl,bV,b8,bx,hcell,A7,c8,hu,h2⟩:=(cI).at_ bu (by decide);rw[hu]at hcell;have d0:wr.cell? ⟨b,off+j*8,none⟩=some (I af opn[j].kind):=hcell 0 _ rfl;have d1:wr.cell? ⟨b,off+j*8+1,none⟩=some (I af opn[j].id.au):=hcell 1 _ rfl;have d2:wr.cell? ⟨b,off+j*8+2,none⟩=some (I ak opn[j].id.aq):=hcell 2 _ rfl;have d3:wr.cell? ⟨b,off+j*8+3,none⟩=some (I ak opn[j].id.ax):=hcell 3 _ rfl;have d4:wr.cell? ⟨b,off+j*8+4,none⟩=some (I af opn[j].ah):=hcell 4 _ rfl;have d5:wr.cell? ⟨b,off+j*8+5,none⟩=some (I ak opn[j].sub):=hcell 5 _ rfl;have d7:wr.cell? ⟨b,off+j*8+7,none⟩=some (Y A7 opn[j].events.length c8):=hcell 7 _ rfl;have d6:wr.cell? ⟨b,off+j*8+6,none⟩=some aa:=hcell 6 _ rfl;obtain⟨x,hx⟩:=am (opn[j]);rw[<-hx]at d0 d1 d2 d3 d4 d5 d7 h2 aX cZ cE cw cd;obtain⟨sq,b5⟩:=am (((opn.take j).filter λy=>b9 kids y.id).foldl aC.bP s1);rw[<-b5]at st cd;obtain⟨wl,bh⟩:=am ((opn.take j).filter λy=> !b9 kids y.id);have c0:wl.length<=18:=(by rw[bh];exact Nat.le_trans (List.length_filter_le _ _) (by rw[List.length_take];omega));rw[<-bh]at O cw;obtain⟨A3,n3,c3,rfl,a2,bY⟩:=O.form;have bH:=Lib.hid a2.out;have dp:n3<=18:=(by rw[a2.out];exact c0);obtain⟨w5,a8⟩:=am (wr.alloc (.cells (a3 x A7 c8) 132));have bS:=aV a8;have bD:ai w5 wr 132 (a3 x A7 c8):=(by rw[a8];exact ai.made _ _ _);obtain⟨xb,a0⟩:=am wr.heap.size;rw[<-a0]at bD;have bj:=Lib.hid a0;have cM:=gy 206 xb (λy=>decide (y.id=x.id)) (λ_=>False) A5 n5 c5 _ w5 yX b7.out (by omega) ((de.below bS).weak (λb h=>h.elim)) (λy hy A c w' a7 bT=>tj y A c x.id xb w' ⟨by have:=(bD.below a7 bD.lt).cell 1;simpa using this,by have:=(bD.below a7 bD.lt).cell 2;simpa using this,by have:=(bD.below a7 bD.lt).cell 3;simpa using this⟩);rw[hP,cZ]at cM;clear hcell bx hu hx cZ a0 bh;go_wp2_with fail;rw[<-a8]
     try rw[<-bj.out]
     clear a8 d0 d1 d2 d3 d4 d5 d6 d7;refine cM.mono ?_;clear cM;rintro e w6 ⟨rfl,b6⟩;have cy:=bS.trans (b6.mono bS.size);have bZ:=bD.below b6 bD.lt;have cG:=st.below cy;have O6:=O.below cy;have c7:=cI.below cy;have dh:=de.below cy;have cR:=h2.below cy;obtain⟨x0,x1,x2,x3,x4,x5,x6,x7⟩:=bZ.c8;simp at x0 x1 x2 x3 x4 x5 x6 x7;clear h2 bD;cases cF:b9 kids x.id with
     | true=>
      rw[cF]at cE cw;have hm:=cd cF;have nt:=pT z sq ar Fr sA x A7 c8 w6 HH.out.2.2.1 cG.at_ hm.2 hm.1 aX cR;have cq:ar.bb=bb:=st.bb.trans bG.out.symm;rw[cq]at nt;clear cd hm cF;go_wp2_with fail;refine nt.mono ?_;clear nt x0 x1 x2 x3 x4 x5 x6 x7;rintro e w7 ⟨rfl,cl,aA⟩;have cX:=cG.step aA;have hG:∀b,b<w6.heap.size->ar.mut b->sA b:=λb _ a7=>(cO.out b).2 ((cg b a7).elim (λe=>(bg b e).elim (λe=>.inl (Nat.lt_of_lt_of_le (HH.out.1.lt b (HH.out.1.own b e)) cD)) .inr) (λe=>.inr (by omega)));have O8:=O6.ba aA.ba hG (λb a7 e=>cH b a7 (cG.at_.own b e));have gA:Goes sA w6 sA w7:=⟨aA.ba.os,aA.ba.tape,aA.ba.output,aA.ba.size,λb a7 aL=>aA.ba.aI b a7 (λe=>aL (hG b a7 e)),λ_ _ h=>h⟩;have dz:Goes (λb=>b<w3.heap.size\/w4.heap.size<=b) w6 (λb=>b<w3.heap.size\/w4.heap.size<=b) w7:=⟨aA.ba.os,aA.ba.tape,aA.ba.output,aA.ba.size,λb a7 aL=>aA.ba.aI b a7 (λe=>aL ((cg b e).elim (λe=>.inl (Nat.lt_of_lt_of_le (du b e) b3.size)) .inr)),λ_ _ h=>h⟩;have dB:=cy.size;go_wp2
      go_round
      case rel=>exact⟨j+1,cl,New Fr w6 w7,by go_num,by omega,by rw[cE.out,List.foldl_append,<-b5];exact cX,by rw[cw.out];simpa using O8,λb a7 e=>e.elim (cH b a7) (λe=>by have:=(O6.lt a7).2;omega),λb a7=>(aA.news b a7).elim (cg b) (λe=>.inr (by omega)),by have:=aA.ba.size;omega,c7.goes gA,dh.goes dz⟩
      case measure=>simp[intOf];omega
     | false=>
      rw[cF]at cE cw;have cn:=ee x.id w6;unfold PId.val at cn;clear cd cF;go_wp2_with fail;refine cn.mono ?_;clear cn x0 x1 x2 x3 x4 x5 x6 x7;rintro e w7 ⟨rfl,bt⟩;have c4:=cy.trans (bt.mono cy.size);have cm:=bZ.below bt bZ.lt;have O7:=O6.below bt;have bC:=(Below.refl w7 w7).alloc (Nat.le_refl _) (.cells (a3 x A7 c8) 132);have bI:aB.R (w7.alloc (.cells (a3 x A7 c8) 132)) (bm sA (Y A3 n3 c3)) (a3 x A7 c8) x:=
       ⟨A7,c8,rfl,((cR.below bt).weak (λb a7=>a7.elim id (λe=>(cO.out b).2 (.inr (by have:=(O7.lt e).1;omega))))).below bC⟩
      obtain⟨x0,x1,x2,x3,x4,x5,x6,x7⟩:=cm.c8;simp at x0 x1 x2 x3 x4 x5 x6 x7;have dy:=c4.size;have dw:=cG.at_;go_wp2_with (at_builtin;refine a9 _ rfl (.tmp 85) (.tmp 87) 46 rfl aB w4 132 i0 z0 96 Tryz.underlying46 bM bL bJ bR bB (by decide) sA (Y A3 n3 c3) wl rfl (O7.below bC) (aj w7) 1 (a3 x A7 c8) x rfl (Src.made w7 _ _) bI (by rw[<-bH.out];unfold maxLen;omega) (by rw[<-bH.out];omega) (by simp;omega) ?_;rw[<-bH.out];intro A6 bX w8 O8 cz gr bf);have aQ:∀k,(Value.slice A3 n3 c3).ownBlock=some k->w4.heap.size<=k:=λk hk=>(O.lt hk).1;have cX:=(cG.below bt).below bC;have aN:aw (λb=>(Value.slice A3 n3 c3).ownBlock=some b) (w7.alloc (.cells (a3 x A7 c8) 132)) w8:=aw.bN gr (λb a7=>a7);have dj:=cX.grown aN (λb hF e=>cH b e hF) (λb e=>by have:=aQ b e;have:=bK.size;have:=b3.size;have:=bo.size;omega);have ds:SliceAt aB w8 sA _ opn:=((c7.below bt).below bC).goes ⟨aN.os,aN.tape,aN.output,aN.size,λb a7 aL=>aN.aI b a7 (λe=>aL ((cO.out b).2 (.inr (by have:=aQ b e;omega)))),λ_ _ h=>h⟩;have dt:=((dh.below bt).below bC).goes (S':=λb=>b<w3.heap.size\/w4.heap.size<=b) ⟨aN.os,aN.tape,aN.output,aN.size,λb a7 aL=>aN.aI b a7 (λe=>aL (.inr (aQ b e))),λ_ _ h=>h⟩
      go_round
      case rel=>exact⟨j+1,ar,Fr,by go_num,by omega,by rw[cE.out];simpa[<-b5]using dj,by rw[cw.out];simpa using O8,λb a7 e=>bf.elim (λe8=>cH b (e8.symm.trans a7) e) (λe8=>by rw[e8]at a7;injection a7 with a7;have:=st.at_.lt b e;have:=bC.size;have:=bt.size;omega),cg,by have:=aN.size;have:=bC.size;have:=bt.size;omega,ds,dt⟩
      case measure=>simp[intOf];omega
    ·obtain rfl:j=n1:=(by omega);have dq:Hid (((opn.take j).filter λy=>b9 kids y.id)=opn.filter λy=>b9 kids y.id):=by
      show _=_;rw[bv.out,List.take_length]
     have dr:Hid (((opn.take j).filter λy=> !b9 kids y.id)=opn.filter λy=> !b9 kids y.id):=by
      show _=_;rw[bv.out,List.take_length]
     rw[dq.out]at st;rw[dr.out]at O;obtain⟨A3,n3,c3,rfl,a2,bY⟩:=O.form;have cT:=st.done HH.out.1.lt;obtain⟨vq,bp,Dq⟩:=cT.at_.ex;have cq:ar.bb=bb:=st.bb.trans bG.out.symm;have cY:=bp.cell 13;have df:=bp.free 13;unfold bi at cY;rw[cq]at cY df;simp at cY;obtain⟨w9,br⟩:=am (wr.setCell ⟨ar.bb,13,none⟩ (Y A3 n3 c3));have cP:hd z s={(opn.filter λy=>b9 kids y.id).foldl aC.bP s1 with waits:=opn.filter λy=> !b9 kids y.id}:=by
      unfold hd;rw[<-aU.out.1,<-aU.out.2.1,<-c9.out,<-HK.out]
     have sW:SliceAt aB wr (bO (New F w wr) ar) A3 (opn.filter λy=> !b9 kids y.id):=O.vK (λb aG e=>(cO.out b).2 (by
      rcases e with e | e
      ·by_cases aK:b<w.heap.size
       ·exact .inl (by omega)
       ·exact absurd (.inr ⟨by omega,aG⟩) e
      ·exact(cg b e).elim (λe=>(bg b e).elim (λe=>.inl (Nat.lt_of_lt_of_le (HH.out.1.lt b (HH.out.1.own b e)) cD)) .inr) (λe=>.inr (by omega)))) (λb a7 e=>by
      rcases e with e | e
      ·exact e (.inr ⟨by have:=(O.lt a7).1;have:=bo.size;omega,(O.lt a7).2⟩)
      ·exact cH b a7 (st.at_.own b e))
     have fin:=cT.at_.put (s':=hd z s) (v':={vq with AW:=A3,cW:=c3}) (Below.refl _ _) 13 (Y A3 n3 c3) br (by
      rw[br,cP];have:=bp.put 13 (Y A3 n3 c3);unfold bi at this ⊢;rw[a2.out]at this ⊢;simpa using this) (λkk=>by
      rw[cP];have:=Dq.goes kk;exact⟨this.par,this.homes,this.list,this.cap,this.prom,this.aF,sW.goes kk,this.mX,by rw[a2.out]at bY;exact bY⟩) (by rw[cP]) (by rw[cP])
     rw[cq]at br;clear bp Dq sW;go_wp2;rw[<-br]
     try rw[Exit.noGoto_normal]
     go_end0
     exact⟨⟨_,rfl⟩,_,cT.trans fin⟩
end Go.Proofs.YtgblliofomgggaaGreat
