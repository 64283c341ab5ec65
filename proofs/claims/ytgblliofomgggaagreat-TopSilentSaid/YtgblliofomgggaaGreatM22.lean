import Derived.Test.YtgblliofomgggaaGreatM01
import Derived.Test.YtgblliofomgggaaGreatM21
import Derived.Test.YtgblliofomgggaaGreatM05
namespace Go.Proofs.YtgblliofomgggaaGreat
set_option maxRecDepth 100000
set_option maxHeartbeats 4000000
open Go.RowKit a7 bA
open Go.IntKind renaming i64 -> af,u64 -> ak
open Go.Value renaming int -> I,slice -> Y,pointer -> aL,agg -> aE
section
open Go.RowKit Go.Shelf
attribute [local go_sem] Oper.semAt_some
def SD(zz:aM)(s:aC)(i:Nat)(bs:Nat->aC)(k:Nat):Nat->aC:=(List.range k).foldl (dE zz s i) (put bs i s)
section
variable {zz:aM}{s:aC}{i k:Nat}{bs:Nat->aC}{L:List Nt.cj}
theorem rO:SD zz s i bs (k+1)=dE zz s i (SD zz s i bs k) k:=by
 unfold SD;rw[List.range_succ,List.foldl_append];rfl
theorem Ba:SD zz (cN zz bs i) i bs zz.n=g4 zz bs i:=rfl
theorem uO(h1:¬ (i≠0/\k=zz.p i))(h2:¬ (1<=k/\zz.p k=i)):dE zz s i bs k=bs:=by
 unfold dE;rw[if_neg h1,if_neg h2]
theorem Ao(hl:Nt.dy zz.p zz.n L)(hg:Tr.Good zz.p zz.n)(hi:i<zz.n)(hk:k<zz.n):
 (k≠i/\(∃x∈L,x.f=(i:Int)/\x.t=(k:Int))/\((i≠0/\k=zz.p i)\/(1<=k/\zz.p k=i/\¬ (i≠0/\k=zz.p i))))\/((∀x∈L,¬ (x.f=(i:Int)/\x.t=(k:Int)))/\¬ (i≠0/\k=zz.p i)/\¬ (1<=k/\zz.p k=i)):=by
 by_cases h1:i≠0/\k=zz.p i
 ·have:=hg i (by omega) hi;refine .inl ⟨by omega,?_,.inl h1⟩;rw[h1.2];exact(hl.all i (by omega) hi).1
 ·by_cases h2:1<=k/\zz.p k=i
  ·have:=hg k h2.1 hk;refine .inl ⟨by omega,?_,.inr ⟨h2.1,h2.2,h1⟩⟩;rw[<-h2.2];exact(hl.all k h2.1 hk).2
  ·refine .inr ⟨?_,h1,h2⟩;rintro x hx ⟨a1,h4⟩;obtain⟨j,j1,j2,j3⟩:=hl.only x hx;rcases j3 with⟨j3,I⟩ | ⟨j3,I⟩
   ·have:j=i:=(by omega);subst this;exact h1 ⟨by omega,by omega⟩
   ·have:j=k:=(by omega);subst this;exact h2 ⟨j1,by omega⟩
theorem xz(hk:k≠i):SD zz s i bs k k=bs k:=by
 unfold SD;rw[lf zz s i _ _ (by simp)];unfold put;exact if_neg hk
theorem rI(ht:ij zz bs i)(hk:k<zz.n):kT zz (cN zz bs i) i (SD zz (cN zz bs i) i bs k) k:=by
 have:=k8 (List.range zz.n) _ k (by simpa using hk) ht.sends;rw[List.take_range,Nat.min_eq_left (Nat.le_of_lt hk),List.getElem_range]at this;exact this
theorem BW(ae:∀j,j<zz.n->(zz.at_ j).ok)(hf:∀j,j<zz.n->Fit (zz.at_ j) (bs j))(ht:ij zz bs i)(hi:i<zz.n)(hk:k<zz.n)(ay:k≠i)(hw:(i≠0/\k=zz.p i)\/(1<=k/\zz.p k=i/\¬ (i≠0/\k=zz.p i))):
 ∃s',dE zz (cN zz bs i) i (SD zz (cN zz bs i) i bs k) k=put (SD zz (cN zz bs i) i bs k) k s'/\
  ∀ (w':World) (F:Nat->Prop) (a:b4) (A:Option Addr) (n c:Nat),bk w' F (zz.at_ k) (SD zz (cN zz bs i) i bs k k) a->(la zz (cN zz bs i) i k).length=n->Src w' A (aA (la zz (cN zz bs i) i k))->
   Calls Tryz.prog 99 #[aj a.bb,ag i,Y A n c] w' λe w''=>e=.returned (ag 0)/\∃a':b4,aY w' w'' F (zz.at_ k) s' a a':=by
 have hs:=rI ht hk;have I:Fit (zz.at_ k) (SD zz (cN zz bs i) i bs k k):=by rw[xz ay];exact hf k hk
 rcases hw with hw | hw
 ·refine⟨eQ (zz.at_ k) (SD zz (cN zz bs i) i bs k k) i (bL (zz.at_ i) (cN zz bs i)),by unfold dE;rw[if_pos hw],λw' F a A n c a7 aL hA=>?_⟩;unfold la at aL hA;rw[if_pos hw]at aL hA;obtain⟨r1,bf⟩:=ht.rep hw.1;obtain⟨g1,g2,g3,g4⟩:=iN ht.fit r1;exact mW (zz.at_ k) _ a F i (bL (zz.at_ i) (cN zz bs i)) A n c w' (ae k hk) a7 I (Tr.e0.2 ⟨hi,by omega,hw.2.symm⟩) (hs.rep hw) rfl g1 bf g2 g3 (by omega) aL hA
 ·refine⟨iB (aZ (zz.at_ i) (cN zz bs i) k) (SD zz (cN zz bs i) i bs k k),by unfold dE;rw[if_neg hw.2.2,if_pos ⟨hw.1,hw.2.1⟩],λw' F a A n c a7 aL hA=>?_⟩;unfold la at aL hA;rw[if_neg hw.2.2]at aL hA;have:=mK (zz.at_ k) _ a F (aZ (zz.at_ i) (cN zz bs i) k) A n c w' (ae k hk) a7 I (by show k≠0;omega) (hs.cmd ⟨hw.1,hw.2.1⟩) (hY ht.fit k).2.2.2.1 rfl aL hA;rw[show(zz.at_ k).p (zz.at_ k).me=i from hw.2.1]at this;exact this
end
def vh(w:World)(c:Nat):Nat:=match w.heap[c]? with
 | some (.chan _ buf _ _ _ _)=>buf.size
 | _=>0
theorem nF{w:World}{base qn B:Nat}{L:List Nt.cj}{Q:Nat->List Nt.cX}(h:Nt.cA w base qn B L Q){x:Nt.cj}(hx:x∈L):vh w x.c=(Q x.c).length:=by
 obtain⟨⟨s,r,hc⟩,_⟩:=h.q x hx;unfold Nt.hN at hc;unfold vh;rw[hc];simp
theorem bB.calm{w:World}{zz:aM}{bs:Nat->aC}{a:WA}{Q:Nat->List Nt.cX}{cs:List Nat}{gs:Array Value}(h:bB w zz bs a Q cs gs)(hQ:∀x∈a.L,Q x.c=[]):bB w zz bs a (λ_=>[]) cs gs:=
 ⟨h.aW,h.ok,h.n6,h.par,h.homes,h.fF,h.map,h.cur,h.cl,h.got,h.gl,h.br,h.apart,h.nr,h.fix,⟨h.net.aW,h.net.map,h.net.fair,h.net.apart,h.net.lo,λx hx=>by rw[<-hQ x hx];exact h.net.q x hx⟩,h.eJ,λx _ m hm=>absurd hm (by simp)⟩
theorem zp(wb:Nat)(w:World):Calls Tryz.prog 50 #[aj wb] w λe w'=>∃bx,e=.returned (.func (.func 94) #[] #[aj bx])/\w.heap.size<=bx/\ai w' bx 26 #[aj wb]/\Below w w w':=by
 go_enter Tryz.func50,Tryz.ntmps50;go_wp2;go_ret;exact⟨_,rfl,Nat.le_refl _,ai.made _ _ _,(Below.refl _ w).alloc (Nat.le_refl _) _⟩
theorem sW(zz:aM)(bs:Nat->aC)(a:WA)(cs:List Nat)(gs:Array Value)(w:World)(h:bB w zz bs a (λ_=>[]) cs gs)(hc:fz zz (Sk.turns zz.n) bs):
 CallsIn Fence.wide 5 Tryz.prog 26 #[aj a.wb] w λe w'=>(∃v,e=.returned v)/\∃a':WA,bB w' zz (eX zz bs) a' (λ_=>[]) cs gs/\bR zz.n a w a' w':=by
 have HH:=di h hc;have aL:=h.n6;clear h hc;refine callsIn_of_wp_marks Tryz.func26 rfl trivial ?_ rfl;simp only[Tryz.ntmps26,List.size_toArray,List.length_cons,List.length_nil,Nat.reduceAdd,Nat.reduceSub,Array.replicate_succ,Array.replicate_zero,List.push_toArray,List.append_toArray,List.nil_append,List.cons_append]
 gi_wp2_with (refine⟨trivial,?_⟩;gi_at_call 50;refine(callsIn_wide.2 (zp a.wb _)).mono ?_;rintro e w1 ⟨bx,rfl,aH,b6,aY⟩)
 have a6:Below w w w1:=((Below.refl _ w).alloc (Nat.le_refl _) _).trans (aY.mono (by simp));obtain⟨b1,av⟩:=am w.heap.size;have aE:ai w1 b1 26 #[aj a.wb]:=by rw[av];exact(ai.made w 26 #[aj a.wb]).below aY (ai.made w _ _).lt
 have ay:∀b∈[b1,bx],b<w1.heap.size/\¬a.live zz.n b:=by
  have bA:=HH.out.1.lt;intro b a7;rcases List.mem_cons.1 a7 with rfl | a7
  ·exact⟨aE.lt,λhl=>by have:=bA _ hl;omega⟩
  ·rw[List.mem_singleton.1 a7];refine⟨b6.lt,λhl=>?_⟩;have:=bA _ hl;simp at aH;omega
 have W1:=HH.out.1.below a6;have I0:vz [b1,bx] zz bs cs gs a w1 0 w1:=⟨a,W1,W1.Dy,bR.refl _ _ _,λb a7=>by
  rcases List.mem_cons.1 a7 with rfl | a7
  ·exact aE
  ·rw[List.mem_singleton.1 a7];exact b6⟩
 rw[<-av];have HC:=HH.out.2;clear aH aY aE b6 av;refine se rfl (by omega) (gf:=94) (lb:=#[.pointer (aj bx)]) rfl trivial (enters_of Tryz.func94 (by kernel_rfl) rfl) (qu Fence.wide 4 trivial rfl (by omega) bx a.wb zz.n aL.2 (by omega) w1) (λ_=>rfl)
  (vz [b1,bx] zz bs cs gs a w1) (xd _ _ _ _ _ _ _ (λb a7=>(ay b a7).1)) (λk W hI=>z5 (by simp) hI) I0
  (λx=>{tmps:=#[.pointer (aj a.wb),.pointer (aj b1),I af (x:Int),undef,.pointer (aj a.wb),.bool false,.pointer (aj a.wb),.func (.func 94) #[] #[aj bx],I af (x:Int),undef,undef,undef,undef,undef,undef,undef,undef,undef,undef,undef,undef,undef,undef,undef,undef,undef,undef,undef,undef,undef,undef,undef,undef,undef,undef,undef,undef,undef,undef],defers:=[]}) ?assign ?body ?done
 case assign=>
  intro l x W K ad
  gi_wp2
  exact ad
 case body=>
  rintro l k hk W ⟨a2,h2,aq,f2,aG⟩;obtain⟨i,aI⟩:=am ((Sk.turns zz.n)[k]);have hi:i<zz.n:=by
   have hm:(Sk.turns zz.n)[k]∈Sk.turns zz.n:=List.getElem_mem hk;rw[<-aI]at hm;unfold Sk.turns at hm;simpa using hm
  obtain⟨ak,Y⟩:=kO _ bs k hk HC;have aa:=rF zz _ bs k hk;rw[<-aI]at Y aa ⊢;obtain⟨aN,ag⟩:=am (fJ zz ((Sk.turns zz.n).take k) bs);rw[<-ag]at Y aa ak h2;have J:Tr.Good zz.p zz.n:=h2.par.1.2.2.1;have bF:=vr Y;have bn:=BZ zz aN a2 cs gs i W h2 hi (ak i hi) bF (λo ho=>⟨ze h2.eJ J hi o ho,sp bF o ho⟩) (yB _ _ h2.n6.1);have aU:=(aG b1 (by simp)).cell 0;simp at aU;rw[f2.bj.1]at bn;have cu:∀b∈[b1,bx],¬a2.live zz.n b:=λb a7 hl=>(ay b a7).2 (f2.old b (ay b a7).1 hl);have HT:=B1 h2 aq f2 aG ak Y aa J hk cu;have i6:i<6:=(by omega);clear h2 aq f2 aG ak Y aa J hk bF aI ag W1 I0 HC ay;have aJ:∀ {bw:WA} {w4:World},bR zz.n a2 W bw w4->∀b∈[b1,bx],ai w4 b 26 #[aj a.wb]:=λf4 b a7=>f4.ba.aW (HT.out.2.2.2.1 b a7) (HT.out.2.2.2.2.2.2.2.2.2 b a7);have aw:∀ {bw:WA} {w4:World},bR zz.n a2 W bw w4->w4.cell? (aj b1)=some (.pointer (aj a.wb)):=λf4=>(aJ f4 b1 (by simp)).cell 0;have aP:∀ {bw:WA} {w4:World},bR zz.n a2 W bw w4->bw.wb=a.wb:=λf4=>f4.bj.1.trans HT.out.2.2.1.bj.1;have HX:=fm @aJ @aw @aP;clear aJ aw aP
  gi_wp2_with (
   refine⟨trivial,?_⟩
   gi_at_call 51
   refine(CallsIn.inRound l (callsIn_wide.2 bn)).mono ?_;clear bn;rintro e w3 ⟨rfl,bG,Q3,a1,az,f3⟩;have aw:=HX.out.2.1 f3;have bW:=a1.aW;unfold bS at bW;have bb:=bW.cell 0;simp at bb;rw[HX.out.2.2 f3]at bb;clear bW)
  obtain⟨s1,bQ⟩:=am (cN zz aN i);have aD:bB w3 zz (SD zz s1 i aN 0) bG Q3 cs gs:=(by rw[bQ,ly];exact a1);have aQ:Left zz bG.L Q3 s1 i 0:=(by rw[bQ,ly];exact vi a1.eJ HT.out.2.2.2.2.2.2.2.1 az);have HS:=Lib.hid bQ;clear a1 az bQ bb
  gi_loopw [18] (λv wr=>∃ (j:Nat) (bw:WA) (Q4:Nat->List Nt.cX),v=I af j/\j<=zz.n/\bB wr zz (SD zz s1 i aN j) bw Q4 cs gs/\Left zz bw.L Q4 s1 i j/\bR zz.n a2 W bw wr) (λv _=>zz.n- (intOf v).toNat)
  case atStart=>exact⟨0,bG,Q3,rfl,Nat.zero_le _,aD,aQ,f3⟩
  case round=>
   obtain⟨j,bw,Q4,rfl,hj,h4,a4,f4⟩:=hrel;clear aD aQ aw;by_cases bA:j<zz.n
   ·have bE:(j:Int)<(zz.n:Int):=(by omega);have J:=HT.out.2.2.2.2.2.2.2.1;have aV:=HX.out.2.1 f4;have bt:=h4.aW;unfold bS at bt;have y4:=bt.cell 2;simp at y4;rw[HX.out.2.2 f4]at y4;clear bt;rcases Ao h4.eJ J hi bA with⟨ay,⟨x,hx,ah,ao⟩,aR⟩ | ⟨aA,bv,aO⟩
    ·have aK:decide ((j:Int)=(i:Int))=false:=decide_eq_false (by omega);have aT:x∈a2.L:=(by rw[<-f4.L];exact hx);obtain⟨s',au,cr⟩:=BW h4.ok HT.out.2.2.2.2.1 HT.out.2.2.2.2.2.1 hi bA ay aR;rw[<-HS.out]at au cr;have HR:=di au cr;clear au cr
     gi_wp2
     gi_loopw [21] (λ_ wr=>∃ (bO:WA) (Q5:Nat->List Nt.cX),bR zz.n a2 W bO wr/\((bB wr zz (SD zz s1 i aN j) bO Q5 cs gs/\Left zz bO.L Q5 s1 i j)\/(bB wr zz (SD zz s1 i aN (j+1)) bO Q5 cs gs/\Left zz bO.L Q5 s1 i (j+1)))) (λ_ wr=>vh wr x.c)
     case atStart=>exact⟨bw,Q4,f4,.inl ⟨h4,a4⟩⟩
     case round=>
      obtain⟨bO,Q5,f5,hh⟩:=hrel;clear h4 a4 f4 y4 aV;have aX:=HX.out.2.1 f5;have ae:x∈bO.L:=(by rw[f5.L];exact aT);have ar:=HX.out.2.2 f5;rcases hh with⟨bi,bd⟩ | ⟨bi,bd⟩
      ·have cb:=bi.aW;unfold bS at cb;have y5:=cb.cell 2;simp at y5;rw[ar]at y5;clear cb;have hq:=bd x ae;rw[if_pos ⟨ah,by rw[ao];omega⟩,ao]at hq;obtain⟨m,aB,bl⟩:∃m,Q5 x.c=[m]/\m.l=la zz s1 i j:=by
        obtain⟨m,q,e1,a5,e3⟩:=List.map_eq_cons_iff.1 hq;rw[List.map_eq_nil_iff.1 e3]at e1;exact⟨m,e1,a5⟩
       have lg:=Nt.r8 _ 0 _ _ _ _ bi.net x ae;rw[ah,ao,aB]at lg;have dl:=uk zz (SD zz s1 i aN j) bO Q5 cs gs i j x m [] s' _ bi hi bA ae ah ao aB (λw' A n c a7 aL hA=>by
        rw[bl]at aL hA;exact HR.out.2 w' _ _ A n c a7 aL hA)
       rw[ar]at dl;have bc:=nF bi.net ae;rw[aB]at bc;have H5:=dx bi bd f5 bc;clear bi bd aB bl hq f5 ar bc
       gi_wp2_with (first
        | (refine⟨trivial,?_⟩;gi_at_call 52;refine(CallsIn.inRound l (callsIn_wide.2 lg)).mono ?_;rintro e w6 ⟨rfl,rfl⟩)
        | (refine⟨trivial,?_⟩;gi_at_call 53;refine(CallsIn.inRound l (callsIn_wide.2 dl)).mono ?_;rintro e w7 ⟨rfl,cl,h7,f7⟩))
       have aS:cl.L=bO.L:=f7.L;refine⟨⟨cl,_,H5.out.2.2.1.trans f7,.inr ⟨by rw[rO,HR.out.1];exact h7,by rw[aS];exact vj H5.out.1.net.fair H5.out.1.net.apart ae ah ao H5.out.2.1⟩⟩,?_⟩;rw[nF h7.net (by rw[aS];exact ae),H5.out.2.2.2,if_pos rfl];simp
      ·have cb:=bi.aW;unfold bS at cb;have y5:=cb.cell 2;simp at y5;rw[ar]at y5;clear cb;have hq:=bd x ae;rw[if_neg (λe=>by have:=e.2;omega)]at hq;have lg:=Nt.r8 _ 0 _ _ _ _ bi.net x ae;rw[ah,ao,List.map_eq_nil_iff.1 hq]at lg;have H5:=fm bi bd f5;clear bi bd hq f5 ar
       gi_wp2_with (refine⟨trivial,?_⟩;gi_at_call 52;refine(CallsIn.inRound l (callsIn_wide.2 lg)).mono ?_;rintro e w6 ⟨rfl,rfl⟩)
       exact⟨⟨j+1,bO,Q5,rfl,bA,H5.out⟩,by simp[intOf];omega⟩
    ·have fin:(∃ (ax:Nat) (bw:WA) (Q4:Nat->List Nt.cX),Value.int .i64 ((j:Int)+1)=I af ax/\ax<=zz.n/\bB wr zz (SD zz s1 i aN ax) bw Q4 cs gs/\Left zz bw.L Q4 s1 i ax/\bR zz.n a2 W bw wr)/\zz.n- (intOf (Value.int .i64 ((j:Int)+1))).toNat<zz.n- (intOf (Value.int .i64 (j:Int))).toNat:=
      ⟨⟨j+1,bw,Q4,rfl,bA,by rw[rO,uO bv aO];exact h4,tw (λx hx h1 h2=>aA x hx ⟨h1,h2⟩) a4,f4⟩,by simp[intOf];omega⟩
     have HF:=Lib.hid fin;have lg:=Nt.xD _ 0 _ _ _ _ h4.net (i:Int) (j:Int) (ei (by omega)) (ei (by omega)) aA;clear fin h4 a4 f4 aA
     gi_wp2
     gi_loopw [21] (λ_ wx=>wx=wr) (λ_ _=>0)
     case atStart=>rfl
     case round=>
      obtain rfl:=hrel;by_cases aF:j=i
      ·have aK:decide ((j:Int)=(i:Int))=true:=decide_eq_true (by omega);have gb:((j:Int) !=(i:Int))=false:=(by rw[aF];simp);have M:=Lib.hid (show(i:Int)=(j:Int) by omega);clear aF
       gi_wp2_with (refine⟨trivial,?_⟩)
       try rw[M.out]
       exact HF.out
      ·have aK:decide ((j:Int)=(i:Int))=false:=decide_eq_false (by omega)
       gi_wp2_with (refine⟨trivial,?_⟩;gi_at_call 52;refine(CallsIn.inRound l (callsIn_wide.2 lg)).mono ?_;rintro e w6 ⟨rfl,rfl⟩)
       exact HF.out
   ·obtain rfl:j=zz.n:=(by omega);have bE:¬ ((zz.n:Int)<(zz.n:Int)):=by omega
    gi_wp2
    have J:=HT.out.2.2.2.2.2.2.2.1;have hQ:=wD h4.eJ J a4;have h6:bB wr zz (g4 zz aN i) bw (λ_=>[]) cs gs:=by
     rw[HS.out,Ba]at h4;exact h4.calm hQ
    obtain⟨bk,k1,k2,k3⟩:=h6.x9 HT.out.2.1 f4;refine⟨k3.keeps HT.out.2.1,bk,?_,k2,HT.out.2.2.1.trans k3,HX.out.1 k3⟩;rw[HT.out.2.2.2.2.2.2.1];exact k1
 case done=>
  rintro D W hD ⟨a2,h2,aq,f2,aG⟩ ad;simp only[Exit.inBlock];refine⟨by simp,.inl ⟨_,_,rfl,run_takeDeferred ad,?_⟩⟩;obtain⟨g1,g2⟩:=h2.quiet aq (grownBy_putObj' W D _) (λr e=>by cases e;exact⟨hD,_,ad,rfl⟩);rw[List.take_length]at g1;exact⟨_,results_none rfl _ _ _,⟨_,rfl⟩,a2,g1,(bR.below a6).trans (f2.quiet (Nat.le_refl _) (grownBy_putObj' W D _) (λr e=>by cases e;exact hD))⟩
theorem td(zz:aM)(bs:Nat->aC)(a:WA)(cs:List Nat)(gs:Array Value)(w:World)(h:bB w zz bs a (λ_=>[]) cs gs)(hc:fz zz (Sk.turns zz.n) bs):
 Calls Tryz.prog 26 #[aj a.wb] w λe w'=>(∃v,e=.returned v)/\∃a':WA,bB w' zz (eX zz bs) a' (λ_=>[]) cs gs/\bR zz.n a w a' w':=callsIn_wide.1 (sW zz bs a cs gs w h hc)
end
section
section
variable {w:World}{zz:aM}{bs:Nat->aC}{a:WA}{Q:Nat->List Nt.cX}{cs:List Nat}{gs:Array Value}
theorem bB.drewN(h:bB w zz bs a Q cs gs)(k:Nat):bB (w.drewN k) zz bs a Q cs gs:=h.below ⟨rfl,rfl,rfl,Nat.le_refl _,λ_ _=>rfl⟩
theorem oy{S:Nat->Prop}{A:Option Addr}{l:List Nat}(h:SliceAt b5 w S A l){k:Nat}(hk:k<l.length):∃b off,A=some ⟨b,off,none⟩/\w.cell? ⟨b,off+k,none⟩=some (I af l[k]):=by
 obtain⟨us,h1,h2,a1⟩:=h;have hl:us=l.map λx:Nat=>[Value.int .i64 (x:Int)]:=by
  apply List.ext_getElem (by simpa using h2);intro i g1 g2;have hi:i<l.length:=(by simpa using g2);have:=a1 i us[i] l[i] (List.getElem?_eq_getElem g1) (List.getElem?_eq_getElem hi);rw[List.getElem_map];exact this
 have hf:∀ (l:List Nat),(l.map λx:Nat=>[Value.int .i64 (x:Int)]).flatten=l.map λx:Nat=>Value.int .i64 (x:Int):=λl=>by
  induction l with
  | nil=>rfl
  | cons x l M=>simp[M]
 rw[hl,hf]at h1;rcases h1 with h1 | ⟨b,off,hA,_,_,hc⟩
 ·have h4:l=[]:=List.map_eq_nil_iff.1 h1;rw[h4]at hk;cases hk
 ·exact⟨b,off,hA,hc k _ (by rw[List.getElem?_map,List.getElem?_eq_getElem hk];rfl)⟩
end
section
variable (zz:aM)(bs:Nat->aC)(a:WA)(Q:Nat->List Nt.cX)(cs:List Nat)(gs:Array Value)(c:Nat)(w:World)(h:bB w zz bs a Q cs gs)(hc:c<zz.homes.length)
include h hc
theorem px:Calls Tryz.prog 46 #[aj a.wb,ag c] w λe w'=>e=.returned (.bool true)/\w=w':=by
 have hB:=h.aW;unfold bS at hB;have y1:=hB.cell 1;simp at y1;have g1:decide ((0:Int)<=(c:Int))=true:=decide_eq_true (by omega);have bA:(c:Int)<(zz.homes.length:Int):=by omega
 clear h hB hc;go_enter Tryz.func46,Tryz.ntmps46;go_wp2;go_ret;exact⟨rfl,rfl⟩
theorem jA:Calls Tryz.prog 22 #[aj a.wb,ag c] w λe w'=>e=.returned (.tuple #[aj (a.br zz.homes[c]).bb,ag 0])/\Below w w w':=by
 have cl:=px zz bs a Q cs gs c w h hc;have hB:=h.aW;unfold bS at hB;have y1:=hB.cell 1;simp at y1;have y4:=hB.cell 4;simp at y4;obtain⟨b,off,hA,yc⟩:=oy h.homes hc;rw[hA]at y1;have hh:zz.homes[c]<zz.n:=(h.ok 0 (by have:=h.n6;omega)).hh _ (List.getElem_mem hc);obtain⟨i,hi⟩:=am (zz.homes[c]);rw[<-hi]at yc hh ⊢;have lk:∀k,(Instr.lookup 68 (.map (some a.mb)) (ag i) true).run Tryz.prog (w.drewN k)=.ok (.tuple #[aj (a.br i).bb,.bool true]) (w.drewN k):=λk=>fW (h.drewN k) hh;have I:=lk 0;have bA:(c:Int)<(zz.homes.length:Int):=by omega
 clear h hB hi hh;go_enter Tryz.func22,Tryz.ntmps22;go_wp2_with fail;go_fit cl;clear cl;rintro e w1 ⟨rfl,rfl⟩;go_wp2_with fail
 go_quiet (fail)
 go_wp2;go_ret2;exact⟨rfl,⟨rfl,rfl,rfl,Nat.le_refl _,λ_ _=>rfl⟩⟩
end
end
def jd(zz:aM)(a:WA):List Value:=
 [Y a.AP zz.n a.cP,Y a.AH zz.homes.length a.cH,.pointer none,Y a.AD zz.n a.cD,.map (some a.mb),Y (aj a.cb) zz.homes.length zz.homes.length,Y (aj a.gb) zz.homes.length zz.homes.length]
def WA.hn(a:WA)(b:Nat):Prop:=b=a.wb\/b=a.mb\/b=a.cb\/b=a.gb
def WA.h3(a:WA)(n:Nat)(b:Nat):Prop:=(∃i,i<n/\a.F i b)\/a.hn b
def WA.CY(a:WA)(b:Nat):Prop:=(∃off,a.AP=some ⟨b,off,none⟩)\/(∃off,a.AH=some ⟨b,off,none⟩)\/∃off,a.AD=some ⟨b,off,none⟩
def WA.hM(a:WA)(n:Nat)(b:Nat):Prop:=a.all n b\/(∃off,a.AP=some ⟨b,off,none⟩)\/(∃off,a.AH=some ⟨b,off,none⟩)\/∃off,a.AD=some ⟨b,off,none⟩
structure jV (w:World) (zz:aM) (base k:Nat) (a:WA) (q:Nat->Nat):Prop where
 aW:ai w a.wb 73 (jd zz a).toArray
 ok:∀i,i<zz.n->(zz.at_ i).ok
 n6:zz.n<=6/\1<=zz.n
 par:eS w (a.h3 zz.n) a.AP zz.n zz.p
 homes:SliceAt b5 w (a.h3 zz.n) a.AH zz.homes
 fF:SliceAt hO w (a.h3 zz.n) a.AD ((List.range zz.n).map q)
 map:dh w a.mb (fQ k a.br)
 cur:ai w a.cb 3 (List.replicate zz.homes.length (Value.int .i64 0)).toArray
 got:ai w a.gb 90 (List.replicate zz.homes.length aa).toArray
 br:∀i,i<k->bk w (a.F i) (zz.at_ i) aC.new (a.br i)/\(a.br i).L.q=q i
 raw:∀i,k<=i->i<zz.n->(∀b,a.F i b↔b=q i)/\Dk.cY w (q i) 0 none [] 0 zz.room
 apart:∀i j,i<zz.n->j<zz.n->i≠j->∀b,a.F i b->¬a.F j b
 fix:∀i,i<zz.n->∀b,a.F i b->¬a.hn b
 lo:∀b,a.h3 zz.n b->base<=b/\b<w.heap.size
 ad:∀b,a.CY b->base<=b
theorem nz{w:World}{S:Nat->Prop}{A:Option Addr}{l:List Nat}(h:SliceAt hO w S A l){k:Nat}(hk:k<l.length):∃b off,A=some ⟨b,off,none⟩/\¬S b/\b<w.heap.size/\w.cell? ⟨b,off+k,none⟩=some (.pointer (aj l[k])):=by
 obtain⟨us,h1,h2,a1⟩:=h;have hl:us=l.map λx:Nat=>[Value.pointer (aj x)]:=by
  apply List.ext_getElem (by simpa using h2);intro i g1 g2;have hi:i<l.length:=(by simpa using g2);have:=a1 i us[i] l[i] (List.getElem?_eq_getElem g1) (List.getElem?_eq_getElem hi);rw[List.getElem_map];exact this
 have hf:∀ (l:List Nat),(l.map λx:Nat=>[Value.pointer (aj x)]).flatten=l.map λx:Nat=>Value.pointer (aj x):=λl=>by
  induction l with
  | nil=>rfl
  | cons x l M=>simp[M]
 rw[hl,hf]at h1;rcases h1 with h1 | ⟨b,off,hA,a7,hS,hc⟩
 ·have h4:l=[]:=List.map_eq_nil_iff.1 h1;rw[h4]at hk;cases hk
 ·exact⟨b,off,hA,hS,a7,hc k _ (by rw[List.getElem?_map,List.getElem?_eq_getElem hk];rfl)⟩
theorem iA{w w':World}{G:Nat->Prop}{q room:Nat}(h:Dk.cY w q 0 none [] 0 room)(t:aw G w w')(hq:¬G q):Dk.cY w' q 0 none [] 0 room:=by
 obtain⟨A,c,h1,h2,a1,h4⟩:=h;have I:ai w q 114 _:=h2;refine⟨A,c,h1,t.aW I hq,?_,h4⟩;rcases a1.2 with bi | ⟨g,cap,cur,hv,_⟩
 ·exact⟨a1.1,.inl bi⟩
 ·rw[hv]at h1;cases h1
theorem uS(k:Nat)(br:Nat->b4)(bg:b4):(λb:Int=>if b=(k:Int)then some (Value.pointer (aj bg.bb))else fQ k br b)=fQ (k+1) (upd br k bg):=by
 funext b;unfold fQ;by_cases e:b=(k:Int)
 ·subst e;rw[if_pos rfl,if_pos (by omega)];simp[upd]
 ·rw[if_neg e];by_cases h:0<=b/\b<(k:Int)
  ·rw[if_pos h,if_pos (by omega),qZ _ _ (show b.toNat≠k by omega)]
  ·rw[if_neg h,if_neg (by omega)]
theorem jV.next{w w1 w3:World}{zz:aM}{base k:Nat}{a:WA}{q:Nat->Nat}(h:jV w zz base k a q)(hk:k<zz.n){bg:b4}(hq:bg.L.q=q k)(a7:bk w1 (λb=>b=q k\/(w.heap.size<=b/\b<w1.heap.size)) (zz.at_ k) aC.new bg)(t1:aw (λb=>b=q k) w w1)
 (hm:dh w3 a.mb (λb:Int=>if b=(k:Int)then some (Value.pointer (aj bg.bb))else fQ k a.br b)) (g3:w1.grownBy w3 (some a.mb)) (s3:w3.heap.size=w1.heap.size):
 ∃a':WA,jV w3 zz base (k+1) a' q/\aw (λb=>base<=b) w w3/\a'.wb=a.wb:=by
 obtain⟨aa,ah⟩:=h.raw k (Nat.le_refl _) hk;have I:a.F k (q k):=(aa _).2 rfl;have t:aw (λb=>b=q k\/b=a.mb) w w3:=⟨g3.os.trans t1.os,g3.tape.trans t1.tape,g3.output.trans t1.output,Nat.le_trans t1.size g3.size,λb aG aL=>(g3.block b (Nat.lt_of_lt_of_le aG t1.size) (λe=>aL (.inr (Option.some.inj e)))).trans (t1.aI b aG (λe=>aL (.inl e)))⟩;have t3:aw (λb=>b=a.mb) w1 w3:=⟨g3.os,g3.tape,g3.output,g3.size,λb aG aL=>g3.block b aG (λe=>aL (Option.some.inj e))⟩;have b7:a.mb<w.heap.size:=(h.lo a.mb (.inr (.inr (.inl rfl)))).2;have bJ:=t1.size;obtain⟨a2,ae⟩:∃a2:WA,a2={a with br:=upd a.br k bg,F:=upd a.F k (λb=>b=q k\/(w.heap.size<=b/\b<w1.heap.size))}:=⟨_,rfl⟩;have hF:∀j,a2.F j=if j=k then(λb=>b=q k\/(w.heap.size<=b/\b<w1.heap.size))else a.F j:=λj=>by rw[ae];rfl
 have ag:∀j,a2.br j=if j=k then bg else a.br j:=λj=>by rw[ae];rfl
 have J:a2.br=upd a.br k bg:=by rw[ae]
 have a5:jd zz a2=jd zz a:=by rw[ae];rfl
 have e3:a2.hn=a.hn:=by rw[ae];rfl
 have e1:a2.wb=a.wb/\a2.mb=a.mb/\a2.cb=a.cb/\a2.gb=a.gb/\a2.AP=a.AP/\a2.AH=a.AH/\a2.AD=a.AD:=by rw[ae];exact⟨rfl,rfl,rfl,rfl,rfl,rfl,rfl⟩
 clear ae;obtain⟨q1,q2,q3,q4,q5,q6,q7⟩:=e1;have h3:∀b,a2.h3 zz.n b->a.h3 zz.n b\/(w.heap.size<=b/\b<w1.heap.size):=by
  rintro b (⟨j,hj,a7⟩ | a7)
  ·rw[hF]at a7;split at a7
   ·exact a7.imp (λe=>.inl ⟨k,hk,by rw[e];exact I⟩) id
   ·exact .inl (.inl ⟨j,hj,a7⟩)
  ·rw[e3]at a7;exact .inl (.inr a7)
 have g:Goes (a.h3 zz.n) w (a2.h3 zz.n) w3:=⟨t.os,t.tape,t.output,t.size,λb a7 aL=>t.aI b a7 (λe=>aL (e.elim (λe=>.inl ⟨k,hk,by rw[e];exact I⟩) (λe=>.inr (.inr (.inl e))))),λb a7 e=>(h3 b e).elim id (λe=>by omega)⟩;have hn:∀b,a.hn b->b≠a.mb->¬ (b=q k\/b=a.mb):=λb a7 ay e=>e.elim (λe=>h.fix k hk _ I (by rw[<-e];exact a7)) ay;obtain⟨es,cl,m1,_⟩:=h.map.ex;have n1:a.wb≠a.mb:=λe=>by have:=h.aW;rw[e]at this;have:=this.symm.trans m1;simp at this
 have aZ:a.cb≠a.mb:=λe=>by have:=h.cur;rw[e]at this;have:=this.symm.trans m1;simp at this
 have n3:a.gb≠a.mb:=λe=>by have:=h.got;rw[e]at this;have:=this.symm.trans m1;simp at this
 have M:base<=w.heap.size:=Nat.le_of_lt (Nat.lt_of_le_of_lt (h.lo a.mb (.inr (.inr (.inl rfl)))).1 b7);refine⟨a2,⟨?_,h.ok,h.n6,?_,?_,?_,?_,?_,?_,λi hi=>?_,λi hi az=>?_,λi j hi hj ay b a7 aG=>?_,λi hi b a7=>?_,λb a7=>?_,λb a7=>h.ad b (by unfold WA.CY at a7 ⊢;rw[q5,q6,q7]at a7;exact a7)⟩,t.wide (λb aG e=>?_),q1⟩
 ·rw[q1,a5];exact t.aW h.aW (hn _ (.inl rfl) n1)
 ·rw[q5];exact h.par.goes g
 ·rw[q6];exact h.homes.goes g
 ·rw[q7];exact h.fF.goes g
 ·rw[q2,J,<-uS];exact hm
 ·rw[q3];exact t.aW h.cur (hn _ (.inr (.inr (.inl rfl))) aZ)
 ·rw[q4];exact t.aW h.got (hn _ (.inr (.inr (.inr rfl))) n3)
 ·rw[hF,ag];by_cases e:i=k
  ·subst e;rw[if_pos rfl,if_pos rfl];refine⟨a7.ba t3 (λb aG e=>?_),hq⟩;rcases aG with aG | aG
   ·exact h.fix i hk _ I (.inr (.inl (by rw[<-aG];exact e)))
   ·omega
  ·rw[if_neg e,if_neg e];refine⟨(h.br i (by omega)).1.ba t (λb aG a5=>?_),(h.br i (by omega)).2⟩;rcases a5 with a5 | a5
   ·exact h.apart i k (by omega) hk e b aG (by rw[a5];exact I)
   ·exact h.fix i (by omega) b aG (.inr (.inl a5))
 ·have ay:i≠k:=(by omega);rw[hF,if_neg ay];obtain⟨r1,bf⟩:=h.raw i (by omega) az;refine⟨r1,iA bf t (λe=>?_)⟩;rcases e with e | e
  ·exact h.apart i k az hk ay (q i) ((r1 _).2 rfl) (by rw[e];exact I)
  ·exact h.fix i az (q i) ((r1 _).2 rfl) (.inr (.inl e))
 ·have lt:∀j,j<zz.n->∀b,a.F j b->b<w.heap.size:=λj hj b a7=>(h.lo b (.inl ⟨j,hj,a7⟩)).2;rw[hF]at a7 aG;split at a7
  ·rename_i e;rw[if_neg (λa5=>ay (e.trans a5.symm))]at aG;rcases a7 with a7 | a7
   ·exact h.apart k j hk hj (λa5=>ay (e.trans a5)) b (by rw[a7];exact I) aG
   ·have:=lt j hj b aG;omega
  ·rename_i e;split at aG
   ·rcases aG with aG | aG
    ·exact h.apart i k hi hk e b a7 (by rw[aG];exact I)
    ·have:=lt i hi b a7;omega
   ·exact h.apart i j hi hj ay b a7 aG
 ·rw[e3];rw[hF]at a7;split at a7
  ·rcases a7 with a7 | a7
   ·rw[a7];exact h.fix k hk _ I
   ·intro hh;have:=(h.lo b (.inr hh)).2;omega
  ·exact h.fix i hi b a7
 ·rcases h3 b a7 with a7 | a7
  ·have:=h.lo b a7;exact⟨this.1,by have:=t.size;omega⟩
  ·exact⟨by omega,by omega⟩
 ·rcases e with e | e
  ·rw[e];exact(h.lo _ (.inl ⟨k,hk,I⟩)).1
  ·rw[e];exact(h.lo _ (.inr (.inr (.inl rfl)))).1
theorem Bz(zz:aM)(base k:Nat)(a:WA)(q:Nat->Nat)(w:World)(h:jV w zz base k a q)(hk:k<zz.n)(hr:200<=zz.room):
 Calls Tryz.prog 20 #[aj a.wb,ag k] w λe w'=>e=.returned (ag 0)/\∃a':WA,jV w' zz base (k+1) a' q/\aw (λb=>base<=b) w w'/\a'.wb=a.wb:=by
 have hB:=h.aW;unfold jd at hB;obtain⟨db,off,hA,aq,ax,hd⟩:=nz h.fF (k:=k) (by simpa using hk);rw[List.getElem_map,List.getElem_range]at hd;obtain⟨aa,ah⟩:=h.raw k (Nat.le_refl _) hk;have I:a.F k (q k):=(aa _).2 rfl;have wk:∀ (b:Nat),b<w.drew.heap.size->b=q k->a.h3 zz.n b:=λb _ e=>.inl ⟨k,hk,by rw[e];exact I⟩;have op:=xc (zz.at_ k) a.AP a.AH a.cP a.cH (q k) w.drew (h.ok k hk) (h.par.goes ⟨rfl,rfl,rfl,Nat.le_refl _,λ_ _ _=>rfl,wk⟩) (h.homes.goes ⟨rfl,rfl,rfl,Nat.le_refl _,λ_ _ _=>rfl,wk⟩) ah hr;have aJ:ai w.drew a.wb 73 _:=hB;have a1:w.drew.cell? ⟨db,off+k,none⟩=some (aL (some ⟨q k,0,none⟩)):=hd;rw[hA]at aJ;have M:¬ (a.wb=q k):=λe=>h.fix k hk _ I (.inl e.symm);have ae:¬ (db=q k):=λe=>aq (.inl ⟨k,hk,by rw[e];exact I⟩);have af:db<w.drew.heap.size:=ax;have HH:=dx h hk aa M;have bA:(k:Int)<(zz.n:Int):=by omega
 have ca:k<6:=by have:=h.n6;omega
 have az:a.mb<w.drew.heap.size:=HH.out.1.map.lt;have am:¬ (a.mb=q k):=λe=>HH.out.1.fix k HH.out.2.1 _ I (.inr (.inl e.symm));have HQ:=ja M ae af az am;clear h hB hd aq aa ah I wk hA hr hk M ae af az am ax;go_enter Tryz.func20,Tryz.ntmps20;go_wp2_with fail;refine wp_region_held_drew (S:=(λw'=>w'.cell? (aj a.wb)=some (Y a.AP zz.n a.cP)/\w'.cell? ⟨a.wb,1,none⟩=some (Y a.AH zz.homes.length a.cH)/\w'.cell? ⟨a.wb,3,none⟩=some (Y (some ⟨db,off,none⟩) zz.n a.cD)/\w'.cell? ⟨db,off+k,none⟩=some (aL (some ⟨q k,0,none⟩)))) (by kernel_rfl) (⟨aJ.cell 0,aJ.cell 1,aJ.cell 3,a1⟩) (λJ=>?_);refine tk 0 J ?_;refine tk 1 J ?_;refine tk 2 J ?_;refine tk 3 J ?_;refine tk 4 J ?_;refine tk 5 J ?_;refine tk 6 J ?_;refine tk 7 J ?_;refine tk 8 J ?_;refine tk 9 J ?_;refine tk 10 J ?_;refine tk 11 J ?_;refine tk 12 J ?_;refine tk 13 J ?_;refine tk 14 J ?_;refine tk 15 J ?_;refine aP 16 (λK ad=>?_);clear J;go_simp;go_fit op;clear op;rintro e w1 ⟨bg,rfl,bu,aY,t1⟩;have aE:=t1.aW aJ HQ.out.1;have ak:=(World.cell?_of_block (w:=w.drew) (w':=w1) (a:=⟨db,off+k,none⟩) (t1.aI db HQ.out.2.2.1 HQ.out.2.1)).trans a1
 try dsimp only
 refine ad.out _ _ (⟨aE.cell 0,aE.cell 1,aE.cell 3,ak⟩) (λJ=>?_);clear ad K;refine tk 17 J ?_;refine tk 18 J ?_;refine tk 19 J ?_;refine tk 20 J ?_;refine tk 21 J ?_;refine cB ?_ _;clear J;have bK:=aE.cell 4;simp at bK;obtain⟨w3,hu,aD,g3,s3⟩:=bo Tryz.underlying68 (HH.out.1.map.aI (w:=w) (w':=w1) (t1.aI _ HQ.out.2.2.2.1 HQ.out.2.2.2.2)) (aj bg.bb) (ei (a:=(k:Int)) (by omega));go_wp2;go_ret;refine⟨rfl,HH.out.1.next HH.out.2.1 bu aY ⟨t1.os,t1.tape,t1.output,t1.size,t1.aI⟩ aD g3 s3⟩
section
section
variable {P:Program}{ops:Array Oper}{Q:Exit->Act->World->Prop}
theorem iZ{o:Oper}{a:Act}{w:World}{K:Act->World->Prop}{E:Prop}(ae:o.guard=none)(t:TypeId)(x y:Operand)(ho:o.op=.makeSlice t x y)(e:TypeId)(i:TypeInfo)(z:Value)(h1:P.underlying t=some (.slice e))(h2:P.info? e=some i)(a1:i.zero=some z)
 (n:Nat) (hx:a.eval x=I af (n:Int)) (hy:a.eval y=I af (n:Int)) (b2:i.bytes*n<=281474976710656) (b3:n<=9223372036854775807)
 (h:K (a.put o.dst (Y (aj w) n n)) (w.alloc (.cells (madeCells z.cells (n*i.size)) e))):
 if Region.wanted o (yielded ops a.tmps)=true then Oper.wp P o a w K Q else E:=by
 have hw:Region.wanted o (yielded ops a.tmps)=true:=by simp[Region.wanted,ae]
 rw[if_pos hw];have aa:=run_make (P:=P) w t e i z h1 h2 a1 .i64 .i64 (n:Int) (n:Int) (by omega) (by omega) (by rw[<-Int.natCast_mul];omega) (by omega);simp only[Int.toNat_natCast]at aa;unfold Oper.wp execOp;simp only[ho,Sem.run_bind,Sem.run_pure,hx,hy,aa,Result.andThen_ok];exact h
end
section
variable {P:Program}{ops:Array Oper}{Q:Exit->Act->World->Prop}{md:Region.Mode}{S:World->Prop}
theorem mL(M:Act->Prop)(k r:Nat)(idx:Nat->Nat)(d:Nat->Nat)(I:(Nat->Bool)->Array Bool)(Pm:Nat->Value->World->Prop){w0:World}{fuel:Nat}{listed:Array Bool}{a:Act}
 (hl:listed=I λ_=>false) (ha:a=cr d (λ_=>undef) k a) (aj:∀m m',m<k->m'<k->m≠m'->d m≠d m') (ah:k+r<=fuel)
 (ae:∀b,okB (Region.ready md ops (I b)) idx ((List.range k).map b)=true)
 (cO:∀b m,m<k->(I b).setIfInBounds (idx m) true=I (upd b m true))
 (ai:∀b b',(∀m,m<k->b m=b' m)->I b=I b')
 (stable:∀m,m<k->∀v w w',Pm m v w->Below w w w'->Pm m v w')
 (hS:∀w',Below w0 w0 w'->S w')
 (J:∀f,M (cr d f k a))
 (step:∀AA,M AA->∀m,m<k->∃o,ops[idx m]? =some o/\∀w K',Below w0 w0 w->(∀v w',Pm m v w'->Below w w w'->(∀b,dz v=some b->w.heap.size<=b/\b<w'.heap.size)->K' (AA.put (some (d m)) v) w')->
  if Region.wanted o (yielded ops AA.tmps)=true then Oper.wp P o AA w K' Q else K' (AA.put o.dst undef) w)
 (fin:∀f w,(∀m,m<k->Pm m (f m) w)->Below w0 w0 w->(∀m,m<k->∀b,dz (f m)=some b->w0.heap.size<=b/\b<w.heap.size)->(∀m m',m<k->m'<k->m≠m'->∀b,dz (f m)=some b->dz (f m')≠some b)->∀fuel,r<=fuel->wpAnyH P md ops Q S fuel (I λ_=>true) (cr d f k a) w):
 wpAnyH P md ops Q S fuel listed a w0:=by
 refine jo k r idx d I Pm hl ha aj ah ae cO ai stable hS (λm hm=>?_) fin;obtain⟨o,ho,_⟩:=step _ (J λ_=>undef) m hm;refine⟨o,ho,λf w K' a7 ad=>?_⟩;obtain⟨o',Y,h⟩:=step _ (J f) m hm;rw[ho]at Y;injection Y with e;subst e;exact h w K' a7 ad
end
theorem sR(n:Nat):madeCells (Value.int .i64 0).cells n=(List.replicate n (Value.int .i64 0)).toArray:=by
 unfold madeCells;apply Array.ext
 ·simp
 ·intro i h1 h2;have:(Value.int .i64 0).cells=#[I af 0]:=(by simp[Value.cells]);simp[this,Nat.mod_one]
theorem uG(n:Nat):madeCells aa.cells n=(List.replicate n aa).toArray:=by
 unfold madeCells;apply Array.ext
 ·simp
 ·intro i h1 h2;have:aa.cells=#[aa]:=(by simp[Value.cells,aa]);simp[this,Nat.mod_one]
end
section
theorem aY.A7{w w1 w2 w3:World}{F:Nat->Prop}{z:aM}{s s':aC}{a a':b4}(h:bk w F z s a)(aU:Below w w w1)(st:aY w1 w2 F z s' a a'){rb:Nat}(h1:w.heap.size<=rb)(h2:rb<w1.heap.size)(t:aw (λb=>b=rb) w2 w3):aY w w3 F z s' a a':=by
 have mid:eK w w2 F (New F w1 w2) z s' a a':=⟨st.at_,λb a7=>.inl a7,λb a7=>a7.imp id (λe=>⟨Nat.le_trans aU.size e.1,e.2⟩),(aw.ao aU _).trans st.ba (λ_ _ e=>e),st.bb,λb a7=>(st.news b a7).imp id (λe=>Nat.le_trans aU.size e),st.q⟩;refine(mid.grown (G:=λb=>b=rb) t (λb a7 e=>?_) (λb e=>by omega)).done h.lt;rcases a7 with a7 | a7
 ·have:=h.lt b a7;omega
 ·omega
section
variable (zz:aM)(bs:Nat->aC)(a:WA)(Q:Nat->List Nt.cX)(cs:List Nat)(gs:Array Value)(c:Nat)(w:World)(h:bB w zz bs a Q cs gs)(hc:c<zz.homes.length)(i:Nat)(hi:zz.homes[c]=i)
include h hc hi
theorem pR(id:PId)(hid:id.au=i):Calls Tryz.prog 35 #[aj a.wb,ag c,id.val] w λe w'=>e=.returned (.tuple #[aj (a.br i).bb,ag 0])/\Below w w w':=by
 obtain⟨w0,ar⟩:=am (w.alloc (.cells (bY id) 32));have aU:=aV ar;have aI:ai w0 w 32 (bY id):=by rw[ar];exact ai.made _ _ _
 have h0:=h.below aU;have hm:=jA zz bs a Q cs gs c w0 h0 hc;rw[hi]at hm;have HH:=ja h0 aU hc hi hid;obtain⟨rb,bh⟩:=am w.heap.size;rw[<-bh]at aI;have bn:=Lib.hid bh;unfold PId.val;clear h h0 hi aU bh hid;go_enter Tryz.func35,Tryz.ntmps35;go_wp2_with fail;rw[<-ar]
 try rw[<-bn.out]
 clear ar;go_fit hm;clear hm;rintro e w1 ⟨rfl,b1⟩;have h1:=HH.out.1.below b1;have bz:=aI.below b1 aI.lt;have aE:=h1.aW;unfold bS at aE;have y1:=aE.cell 1;simp at y1;obtain⟨b,off,hA,yc⟩:=oy h1.homes HH.out.2.2.1;rw[hA]at y1;have r0:=bz.cell 0;simp at r0;rw[HH.out.2.2.2.2]at r0;rw[HH.out.2.2.2.1]at yc;have bA:(c:Int)<(zz.homes.length:Int):=by have:=HH.out.2.2.1;omega
 have a6:=HH.out.2.1.trans (b1.mono HH.out.2.1.size);clear h1 bz aE;go_wp2_with fail
 go_quiet (fail)
 go_wp2;go_ret2;exact⟨rfl,a6.os,a6.tape,a6.output,a6.size,a6.block⟩
theorem p1(K:Nat)(aa:Array Value)(ad:Real K)(id:PId)(hid:id.au=i)(P:Value->World->Prop)
 (M:∀w',Below w w w'->Calls Tryz.prog K (#[.pointer (aj (a.br i).bb),id.val]++aa) w' λe w''=>∃r,e=.returned r/\P r w''):
 Calls Tryz.prog 29 #[aj a.wb,ag c,id.val,.func (.func K) #[] aa] w λe w'=>∃r,e=.returned r/\P r w':=by
 have bZ:∀ (args:Array Value) (w:World),(callFunc K args).run Tryz.prog w=.ok (.enter K args) w:=ad;obtain⟨w0,ar⟩:=am (w.alloc (.cells (bY id) 32));have aU:=aV ar;have aI:ai w0 w 32 (bY id):=by rw[ar];exact ai.made _ _ _
 have hm:=pR zz bs a Q cs gs c w0 (h.below aU) hc i hi id hid;have HH:=di aU M;obtain⟨rb,bh⟩:=am w.heap.size;rw[<-bh]at aI;have bn:=Lib.hid bh;obtain⟨r0,r1,bf⟩:=aI.c3;simp at r0 r1 bf;unfold PId.val at hm ⊢;clear h hi aU bh hid M ad;go_enter Tryz.func29,Tryz.ntmps29;go_wp2_with fail;rw[<-ar]
 try rw[<-bn.out]
 clear ar;go_wp2_with fail;go_fit hm;clear hm;rintro e w1 ⟨rfl,b1⟩;have bz:=aI.below b1 aI.lt;obtain⟨s0,s1,s2⟩:=bz.c3;simp at s0 s1 s2;have hl:=HH.out.2 w1 (HH.out.1.trans (b1.mono HH.out.1.size));unfold PId.val at hl;clear bz aI;go_wp2_with fail;go_fit hl;clear hl;rintro e w2 ⟨r,rfl,hp⟩;go_wp2;go_ret;exact⟨_,rfl,hp⟩
end
end
section
theorem Bu:Real 30:=bW (f:=30) Tryz.func30 rfl rfl
theorem Bc:Real 32:=bW (f:=32) Tryz.func32 rfl rfl
section
variable (zz:aM)(bs:Nat->aC)(a:WA)(Q:Nat->List Nt.cX)(cs:List Nat)(gs:Array Value)(c:Nat)(w:World)(h:bB w zz bs a Q cs gs)(hc:c<zz.homes.length)(i:Nat)(hi:zz.homes[c]=i)
include h hc hi
 omit hc hi in
theorem bB.kb{w':World}{i:Nat}(az:i<zz.n){s':aC}(P:∃a',aY w w' (a.F i) (zz.at_ i) s' (a.br i) a'):∃a':WA,bB w' zz (put bs i s') a' Q cs gs/\bR zz.n a w a' w':=by
  obtain⟨a',st⟩:=P;exact⟨_,(h.step az st).1,(h.step az st).2⟩
theorem gL:i<zz.n:=by
 rw[<-hi];exact(h.ok 0 (by have:=h.n6;omega)).hh _ (List.getElem_mem hc)
theorem pJ(id:PId)(hid:id.au=i)(k:Nat)(hf:Fit (zz.at_ i) (bs i))(hk:k<(bs i).aF.length)(hs:dj (bs i).aF id=(k:Int))(ha:(bs i).aF[k].asked=false):
 Calls Tryz.prog 12 #[aj a.wb,ag c,id.val] w λe w'=>e=.returned (ag 0)/\∃a':WA,bB w' zz (put bs i {(bs i)with aF:=(bs i).aF.set k (bs i).aF[k].ask}) a' Q cs gs/\bR zz.n a w a' w':=by
 have az:=gL zz bs a Q cs gs c w h hc i hi;obtain⟨w0,ar⟩:=am (w.alloc (.cells (bY id) 32));have aU:=aV ar;have aI:ai w0 w 32 (bY id):=by rw[ar];exact ai.made _ _ _
 have st:=p1 zz bs a Q cs gs c w0 (h.below aU) hc i hi 32 #[] Bc id hid (λr w'=>r=I af 0/\∃a',aY w w' (a.F i) (zz.at_ i) {(bs i)with aF:=(bs i).aF.set k (bs i).aF[k].ask} (a.br i) a') (λw' J=>by
  have b1:=aU.trans (J.mono aU.size);refine(yq (zz.at_ i) (bs i) (a.br i) (a.F i) k id w' ((h.br i az).below b1) hf hk hs ha).mono ?_;rintro e w'' ⟨rfl,st⟩;exact⟨_,rfl,rfl,_,aY.from b1 st⟩)
 have HH:=di h az;obtain⟨rb,bh⟩:=am w.heap.size;rw[<-bh]at aI;have bn:=Lib.hid bh;obtain⟨r0,r1,bf⟩:=aI.c3;simp at r0 r1 bf;unfold PId.val at st ⊢;clear h hi aU bh hid hf hs ha az;go_enter Tryz.func12,Tryz.ntmps12;go_wp2_with fail;rw[<-ar]
 try rw[<-bn.out]
 clear ar;go_wp2_with fail;go_fit st;clear st;rintro e w1 ⟨r,rfl,rfl,hp⟩;go_wp2;go_ret;exact⟨rfl,bB.kb zz bs a Q cs gs w HH.out.1 HH.out.2 hp⟩
theorem nB(id:PId)(hid:id.au=i)(S3:Nat->Prop)(A3:Option Addr)(n3 c3 k:Nat)(ev:List aO)(hf:Fit (zz.at_ i) (bs i))(hk:k<(bs i).aF.length)(hs:dj (bs i).aF id=(k:Int))(ha:(bs i).aF[k].asked=false)(bp:(bs i).aF[k].entry.kind=1)(a5:(bs i).aF[k].entry.events.length<8)(a2:n3=ev.length)(he:SliceAt cy w S3 A3 ev):
 Calls Tryz.prog 11 #[aj a.wb,ag c,id.val,Y A3 n3 c3] w λe w'=>(∃r:Int,e=.returned (ag r))/\∃a':WA,bB w' zz (put bs i {(bs i)with aF:=(bs i).aF.set k ⟨gI (bs i).aF[k].entry ev,false⟩}) a' Q cs gs/\bR zz.n a w a' w':=by
 have az:=gL zz bs a Q cs gs c w h hc i hi;obtain⟨w0,ar⟩:=am ((w.alloc (.cells (bY id) 32)).alloc (.cells #[Y A3 n3 c3] 39));have aU:Below w w w0:=by rw[ar];exact((Below.refl _ _).alloc (Nat.le_refl _) _).alloc (by simp) _
 have aI:ai w0 w 32 (bY id):=by rw[ar];exact(ai.made _ _ _).alloc _
 have hE:ai w0 (w.heap.size+1) 39 #[Y A3 n3 c3]:=by
  rw[ar];have:=ai.made (w.alloc (.cells (bY id) 32)) 39 #[Y A3 n3 c3];simpa using this
 obtain⟨eb,M⟩:=am (w.heap.size+1);rw[<-M]at hE;have st:=p1 zz bs a Q cs gs c w0 (h.below aU) hc i hi 30 #[aj eb] Bu id hid (λr w'=>(∃k:Int,r=I af k)/\∃a',aY w w' (a.F i) (zz.at_ i) {(bs i)with aF:=(bs i).aF.set k ⟨gI (bs i).aF[k].entry ev,false⟩} (a.br i) a') (λw' J=>by
  have b1:=aU.trans (J.mono aU.size);have aa:=hE.below J hE.lt;obtain⟨w4,bd⟩:=am (w'.alloc (.cells (bY id) 32));have bK:Below w' w' w4:=(by rw[bd];exact(Below.refl _ _).alloc (Nat.le_refl _) _);have bS:=b1.trans (bK.mono b1.size);have bD:ai w4 w' 32 (bY id):=(by rw[bd];exact ai.made _ _ _);have ad:=aa.below bK aa.lt;have pb:=tJ (zz.at_ i) (bs i) (a.br i) (a.F i) S3 A3 n3 c3 k ev id w4 ((h.br i az).below bS) hf hk hs ha bp a5 a2 (he.below bS);have HH:=Lib.hid bS;obtain⟨xb,a0⟩:=am w'.heap.size;rw[<-a0]at bD;have bj:=Lib.hid a0;obtain⟨x0,x1,x2⟩:=bD.c3;have aB:=ad.cell 0;simp at x0 x1 x2 aB;have e1:=aa.cell 0;simp at e1;have bA:=aa.lt;unfold PId.val at pb ⊢;simp only[List.append_toArray,List.cons_append,List.nil_append];clear h hi aU hid hf hs ha b1 bK bS hE aa ad bD bp a5 a2 he J a0 aI M ar;go_enter Tryz.func30,Tryz.ntmps30;go_wp2_with fail;rw[<-bd]
  try rw[<-bj.out]
  clear bd;go_wp2_with fail;go_fit pb;clear pb;rintro e w5 ⟨⟨r,rfl⟩,st⟩;go_wp2;go_ret;exact⟨_,rfl,⟨_,rfl⟩,_,aY.from HH.out st⟩)
 have HH:=di h az;obtain⟨rb,bh⟩:=am w.heap.size;rw[<-bh]at aI;have bn:=di bh M;obtain⟨r0,r1,bf⟩:=aI.c3;simp at r0 r1 bf;unfold PId.val at st ⊢;clear h hi aU bh hid hf hs ha az bp a5 a2 he M;go_enter Tryz.func11,Tryz.ntmps11;go_wp2_with fail;rw[<-ar]
 try rw[<-bn.out.2]
 try rw[<-bn.out.1]
 clear ar;go_wp2_with fail;go_fit st;clear st;rintro e w1 ⟨r,rfl,⟨k9,rfl⟩,hp⟩;go_wp2;go_ret;exact⟨⟨_,rfl⟩,bB.kb zz bs a Q cs gs w HH.out.1 HH.out.2 hp⟩
theorem rE(hf:Fit (zz.at_ i) (bs i))(hl:(bs i).aF.length<8)(aq:(bs i).calls<1000)
 (hg:(⟨1,⟨i,1,(bs i).calls+1⟩,c,0,[]⟩:ae).aH) (a7:dZ (⟨1,⟨i,1,(bs i).calls+1⟩,c,0,[]⟩:ae)=false) (aA:dj (bs i).aF ⟨i,1,(bs i).calls+1⟩= -1):
 Calls Tryz.prog 10 #[aj a.wb,ag c] w λe w'=>e=.returned (.tuple #[(⟨i,1,(bs i).calls+1⟩:PId).val,ag 0])/\∃a':WA,bB w' zz (put bs i {(bs i)with aF:=(bs i).aF++[⟨⟨1,⟨i,1,(bs i).calls+1⟩,c,0,[]⟩,false⟩],calls:=(bs i).calls+1}) a' Q cs gs/\bR zz.n a w a' w':=by
 have az:=gL zz bs a Q cs gs c w h hc i hi;obtain⟨w0,ar⟩:=am (w.alloc (.cells ep 32));have aU:=aV ar;have aI:ai w0 w 32 ep:=by rw[ar];exact ai.made _ _ _
 have hm:=jA zz bs a Q cs gs c w0 (h.below aU) hc;rw[hi]at hm;have call:=λ(w':World) (b:Below w w w')=>zI (zz.at_ i) (bs i) (a.br i) (a.F i) c w' (h.ok i az) ((h.br i az).below b) hf hl hc hi aq hg a7 aA;have HH:=dx h az aU call;obtain⟨rb,bh⟩:=am w.heap.size;rw[<-bh]at aI;have bn:=Lib.hid bh;have me:(zz.at_ i).me=i:=rfl;unfold PId.val;clear h hi aU bh hf az hl aq hg a7 aA call;go_enter Tryz.func10,Tryz.ntmps10;go_wp2_with fail;rw[<-ar]
 try rw[<-bn.out]
 clear ar;go_wp2_with fail;go_fit hm;clear hm;rintro e w1 ⟨rfl,b1⟩;have bz:=aI.below b1 aI.lt;have a6:=HH.out.2.2.1.trans (b1.mono HH.out.2.2.1.size);have cl:=HH.out.2.2.2 w1 a6;rw[me]at cl;unfold PId.val at cl;simp only at cl;have HB:=di a6 bz;clear b1 a6 aI bz;go_wp2_with fail;go_fit cl;clear cl;rintro e w2 ⟨rfl,st⟩;have bN:=st.ba.aW HB.out.2 (λa7=>by have:=HH.out.1.lt _ (.inl ⟨i,HH.out.2.1,(HH.out.1.br i HH.out.2.1).own _ a7⟩);have:=bn.out;omega);have cj:=bN.free 0;have cf:=bN.free 1;have cd:=bN.free 2;obtain⟨r0,r1,bf⟩:=bN.c3;simp at r0 r1 bf;have b0:=bN.put 0 (ag i) |>.put 1 (av 1) |>.put 2 (av (((bs i).calls+1:Nat):Int));simp only[List.setIfInBounds_toArray,List.set_cons_zero,List.set_cons_succ]at b0;go_wp2_with fail;refine bodyPost_ret (bI rfl _ _ rb 32 _ (0,0) _ rfl b0 Tryz.underlying32 rfl (by kernel_rfl)) rfl ?_;refine⟨rfl,bB.kb zz bs a Q cs gs w HH.out.1 HH.out.2.1 ⟨_,(aY.A7 (HH.out.1.br i HH.out.2.1) HB.out.1 st (rb:=rb) (by rw[bn.out];exact Nat.le_refl _) HB.out.2.lt ?_)⟩⟩;refine⟨rfl,rfl,rfl,by simp,λb a7 aL=>?_⟩;rw[Below.heap_setCell _ _ _ b aL,Below.heap_setCell _ _ _ b aL,Below.heap_setCell _ _ _ b aL]
theorem yZ(sub:Nat)(hf:Fit (zz.at_ i) (bs i))(hl:(bs i).aF.length<8)(aq:(bs i).calls<1000)
 (hg:(⟨2,⟨i,1,(bs i).calls+1⟩,c,sub,[]⟩:ae).aH) (a7:dZ (⟨2,⟨i,1,(bs i).calls+1⟩,c,sub,[]⟩:ae)=false) (aA:dj (bs i).aF ⟨i,1,(bs i).calls+1⟩= -1):
 Calls Tryz.prog 7 #[aj a.wb,ag c,av sub,aa] w λe w'=>e=.returned (.tuple #[(⟨i,1,(bs i).calls+1⟩:PId).val,ag 0])/\∃a':WA,bB w' zz (put bs i {(bs i)with aF:=(bs i).aF++[⟨⟨2,⟨i,1,(bs i).calls+1⟩,c,sub,[]⟩,true⟩],calls:=(bs i).calls+1}) a' Q cs gs/\bR zz.n a w a' w':=by
 have az:=gL zz bs a Q cs gs c w h hc i hi;obtain⟨w0,ar⟩:=am (w.alloc (.cells ep 32));have aU:=aV ar;have aI:ai w0 w 32 ep:=by rw[ar];exact ai.made _ _ _
 have hm:=jA zz bs a Q cs gs c w0 (h.below aU) hc;rw[hi]at hm;have call:=λ(w':World) (b:Below w w w')=>CP (zz.at_ i) (bs i) (a.br i) (a.F i) c sub w' (h.ok i az) ((h.br i az).below b) hf hl hc hi aq hg a7 aA;have HH:=dx h az aU call;obtain⟨rb,bh⟩:=am w.heap.size;rw[<-bh]at aI;have bn:=Lib.hid bh;have me:(zz.at_ i).me=i:=rfl;unfold PId.val;clear h hi aU bh hf az hl aq hg a7 aA call;go_enter Tryz.func7,Tryz.ntmps7;go_wp2_with fail;rw[<-ar]
 try rw[<-bn.out]
 clear ar;go_wp2_with fail;go_fit hm;clear hm;rintro e w1 ⟨rfl,b1⟩;have bz:=aI.below b1 aI.lt;have a6:=HH.out.2.2.1.trans (b1.mono HH.out.2.2.1.size);have cl:=HH.out.2.2.2 w1 a6;rw[me]at cl;unfold PId.val at cl;simp only at cl;have HB:=di a6 bz;clear b1 a6 aI bz;go_wp2_with fail;go_fit cl;clear cl;rintro e w2 ⟨rfl,st⟩;have bN:=st.ba.aW HB.out.2 (λa7=>by have:=HH.out.1.lt _ (.inl ⟨i,HH.out.2.1,(HH.out.1.br i HH.out.2.1).own _ a7⟩);have:=bn.out;omega);have cj:=bN.free 0;have cf:=bN.free 1;have cd:=bN.free 2;obtain⟨r0,r1,bf⟩:=bN.c3;simp at r0 r1 bf;have b0:=bN.put 0 (ag i) |>.put 1 (av 1) |>.put 2 (av (((bs i).calls+1:Nat):Int));simp only[List.setIfInBounds_toArray,List.set_cons_zero,List.set_cons_succ]at b0;go_wp2_with fail;refine bodyPost_ret (bI rfl _ _ rb 32 _ (0,0) _ rfl b0 Tryz.underlying32 rfl (by kernel_rfl)) rfl ?_;refine⟨rfl,bB.kb zz bs a Q cs gs w HH.out.1 HH.out.2.1 ⟨_,(aY.A7 (HH.out.1.br i HH.out.2.1) HB.out.1 st (rb:=rb) (by rw[bn.out];exact Nat.le_refl _) HB.out.2.lt ?_)⟩⟩;refine⟨rfl,rfl,rfl,by simp,λb a7 aL=>?_⟩;rw[Below.heap_setCell _ _ _ b aL,Below.heap_setCell _ _ _ b aL,Below.heap_setCell _ _ _ b aL]
theorem zY(sub:Nat)(hf:Fit (zz.at_ i) (bs i))(hl:(bs i).aF.length<8)(aq:(bs i).calls<1000)
 (hg:(⟨3,⟨i,1,(bs i).calls+1⟩,c,sub,[]⟩:ae).aH) (a7:dZ (⟨3,⟨i,1,(bs i).calls+1⟩,c,sub,[]⟩:ae)=false) (aA:dj (bs i).aF ⟨i,1,(bs i).calls+1⟩= -1):
 Calls Tryz.prog 9 #[aj a.wb,ag c,av sub] w λe w'=>e=.returned (.tuple #[(⟨i,1,(bs i).calls+1⟩:PId).val,ag 0])/\∃a':WA,bB w' zz (put bs i {(bs i)with aF:=(bs i).aF++[⟨⟨3,⟨i,1,(bs i).calls+1⟩,c,sub,[]⟩,true⟩],calls:=(bs i).calls+1}) a' Q cs gs/\bR zz.n a w a' w':=by
 have az:=gL zz bs a Q cs gs c w h hc i hi;obtain⟨w0,ar⟩:=am (w.alloc (.cells ep 32));have aU:=aV ar;have aI:ai w0 w 32 ep:=by rw[ar];exact ai.made _ _ _
 have hm:=jA zz bs a Q cs gs c w0 (h.below aU) hc;rw[hi]at hm;have call:=λ(w':World) (b:Below w w w')=>z8 (zz.at_ i) (bs i) (a.br i) (a.F i) c sub w' (h.ok i az) ((h.br i az).below b) hf hl hc hi aq hg a7 aA;have HH:=dx h az aU call;obtain⟨rb,bh⟩:=am w.heap.size;rw[<-bh]at aI;have bn:=Lib.hid bh;have me:(zz.at_ i).me=i:=rfl;unfold PId.val;clear h hi aU bh hf az hl aq hg a7 aA call;go_enter Tryz.func9,Tryz.ntmps9;go_wp2_with fail;rw[<-ar]
 try rw[<-bn.out]
 clear ar;go_wp2_with fail;go_fit hm;clear hm;rintro e w1 ⟨rfl,b1⟩;have bz:=aI.below b1 aI.lt;have a6:=HH.out.2.2.1.trans (b1.mono HH.out.2.2.1.size);have cl:=HH.out.2.2.2 w1 a6;rw[me]at cl;unfold PId.val at cl;simp only at cl;have HB:=di a6 bz;clear b1 a6 aI bz;go_wp2_with fail;go_fit cl;clear cl;rintro e w2 ⟨rfl,st⟩;have bN:=st.ba.aW HB.out.2 (λa7=>by have:=HH.out.1.lt _ (.inl ⟨i,HH.out.2.1,(HH.out.1.br i HH.out.2.1).own _ a7⟩);have:=bn.out;omega);have cj:=bN.free 0;have cf:=bN.free 1;have cd:=bN.free 2;obtain⟨r0,r1,bf⟩:=bN.c3;simp at r0 r1 bf;have b0:=bN.put 0 (ag i) |>.put 1 (av 1) |>.put 2 (av (((bs i).calls+1:Nat):Int));simp only[List.setIfInBounds_toArray,List.set_cons_zero,List.set_cons_succ]at b0;go_wp2_with fail;refine bodyPost_ret (bI rfl _ _ rb 32 _ (0,0) _ rfl b0 Tryz.underlying32 rfl (by kernel_rfl)) rfl ?_;refine⟨rfl,bB.kb zz bs a Q cs gs w HH.out.1 HH.out.2.1 ⟨_,(aY.A7 (HH.out.1.br i HH.out.2.1) HB.out.1 st (rb:=rb) (by rw[bn.out];exact Nat.le_refl _) HB.out.2.lt ?_)⟩⟩;refine⟨rfl,rfl,rfl,by simp,λb a7 aL=>?_⟩;rw[Below.heap_setCell _ _ _ b aL,Below.heap_setCell _ _ _ b aL,Below.heap_setCell _ _ _ b aL]
end
end
section
section
variable (zz:aM)(bs:Nat->aC)(a:WA)(Q:Nat->List Nt.cX)(cs:List Nat)(gs:Array Value)(c:Nat)(w:World)(h:bB w zz bs a Q cs gs)(hc:c<zz.homes.length)(i:Nat)(hi:zz.homes[c]=i)
include h hc hi
theorem xo(id:PId)(hid:id.au=i)(hf:Fit (zz.at_ i) (bs i))(ht:(bs i).aF=[])(hl:bd (bs i).list id=true):
 Calls Tryz.prog 14 #[aj a.wb,ag c,id.val] w λe w'=>e=.returned (.tuple #[ag 3,ag 0])/\Below w w w':=by
 have az:=gL zz bs a Q cs gs c w h hc i hi;obtain⟨w0,ar⟩:=am (w.alloc (.cells (bY id) 32));have aU:=aV ar;have aI:ai w0 w 32 (bY id):=by rw[ar];exact ai.made _ _ _
 have hm:=pR zz bs a Q cs gs c w0 (h.below aU) hc i hi id hid;have call:=λ(w':World) (b:Below w w w')=>wz (zz.at_ i) (bs i) (a.br i) (a.F i) id w' ((h.br i az).below b) hf ht hl;have HH:=di aU call;obtain⟨rb,bh⟩:=am w.heap.size;rw[<-bh]at aI;have bn:=Lib.hid bh;obtain⟨r0,r1,bf⟩:=aI.c3;simp at r0 r1 bf;unfold PId.val at hm ⊢;clear h hi aU bh hid hf ht hl az call;go_enter Tryz.func14,Tryz.ntmps14;go_wp2_with fail;rw[<-ar]
 try rw[<-bn.out]
 clear ar;go_wp2_with fail;go_fit hm;clear hm;rintro e w1 ⟨rfl,b1⟩;have a6:=HH.out.1.trans (b1.mono HH.out.1.size);have bz:=aI.below b1 aI.lt;obtain⟨s0,s1,s2⟩:=bz.c3;simp at s0 s1 s2;have cl:=HH.out.2 w1 a6;unfold PId.val at cl;have HB:=Lib.hid a6;clear aI bz b1 a6;go_wp2_with fail;go_fit cl;clear cl;rintro e w2 ⟨rfl,b2⟩;go_wp2;go_ret2;exact⟨rfl,HB.out.trans (b2.mono HB.out.size)⟩
end
end
section
theorem bB.vw{w w':World}{zz:aM}{bs:Nat->aC}{a:WA}{cs j5:List Nat}{gs jQ:Array Value}(h:bB w zz bs a (λ_=>[]) cs gs)(t:aw (λb=>b=a.cb\/b=a.gb) w w')(h1:ai w' a.cb 3 (j5.map λk:Nat=>Value.int .i64 k).toArray)(h2:j5.length=zz.homes.length)(a1:ai w' a.gb 90 jQ)(h4:jQ.size=zz.homes.length):bB w' zz bs a (λ_=>[]) j5 jQ:=by
 have I:∀b,(b=a.cb\/b=a.gb)->a.bj b:=λb a7=>a7.elim (λe=>.inr (.inr (.inr (.inr (.inl e))))) (λe=>.inr (.inr (.inr (.inr (.inr e)))));have hl:∀b,a.live zz.n b->¬ (b=a.cb\/b=a.gb):=λb a7 e=>h.fix b a7 (I b e);have g:Goes (a.all zz.n) w (a.all zz.n) w':=⟨t.os,t.tape,t.output,t.size,λb a7 aL=>t.aI b a7 (λe=>aL (.inr (I b e))),λ_ _ e=>e⟩;have n1:¬ (a.wb=a.cb\/a.wb=a.gb):=by
  rintro(e | e)
  ·have:=h.aW;rw[e]at this;have:=this.symm.trans h.cur;simp at this
  ·have:=h.aW;rw[e]at this;have:=this.symm.trans h.got;simp at this
 have aZ:¬ (a.qn=a.cb\/a.qn=a.gb):=by
  rintro(e | e)
  ·have:=h.net.aW;rw[e]at this;have:=this.symm.trans h.cur;simp at this
  ·have:=h.net.aW;rw[e]at this;have:=this.symm.trans h.got;simp at this
 have n3:¬ (a.Bn=a.cb\/a.Bn=a.gb):=by
  obtain⟨es,m1,_⟩:=h.net.map;rintro(e | e)
  ·rw[e]at m1;have:=m1.symm.trans h.cur;simp at this
  ·rw[e]at m1;have:=m1.symm.trans h.got;simp at this
 have n4:¬ (a.mb=a.cb\/a.mb=a.gb):=by
  obtain⟨es,cl,m1,_⟩:=h.map.ex;rintro(e | e)
  ·rw[e]at m1;have:=m1.symm.trans h.cur;simp at this
  ·rw[e]at m1;have:=m1.symm.trans h.got;simp at this
 exact⟨t.aW h.aW n1,h.ok,h.n6,h.par.goes g,h.homes.goes g,h.fF.goes g,h.map.aI (t.aI _ h.map.lt n4),h1,h2,a1,h4,λi hi=>(h.br i hi).ba t (λb a7=>hl b (.inl ⟨i,hi,a7⟩)),h.apart,h.nr,h.fix,
  h.net.other t aZ n3 (λx hx=>hl x.c (.inr ⟨x,hx,rfl⟩)) (λx _ m hm=>absurd hm (by simp)),h.eJ,λx _ m hm=>absurd hm (by simp)⟩
theorem pY{w:World}{zz:aM}{bs:Nat->aC}{a:WA}{Q:Nat->List Nt.cX}{cs:List Nat}{gs:Array Value}(h:bB w zz bs a Q cs gs):a.cb≠a.gb:=λe=>by
 have:=h.cur;rw[e]at this;have:=this.symm.trans h.got;simp at this
section
variable (zz:aM)(bs:Nat->aC)(a:WA)(cs:List Nat)(gs:Array Value)(c:Nat)(w:World)(h:bB w zz bs a (λ_=>[]) cs gs)(hc:c<zz.homes.length)(i:Nat)(hi:zz.homes[c]=i)
include h hc hi
theorem nY(j:Nat)(hf:Fit (zz.at_ i) (bs i))(aq:cs[c]? =some 0)(hp:ju (bs i).list c j)(hv:fU (bs i).list c j=[]):
 Calls Tryz.prog 13 #[aj a.wb,ag c] w λe w'=>(∃A n,e=.returned (.tuple #[Y A 0 n,ag 0]))/\bB w' zz bs a (λ_=>[]) (cs.set c (ia (bs i).list j)) gs/\aw (λb=>b=a.cb\/b=a.gb) w w':=by
 have az:=gL zz bs a _ cs gs c w h hc i hi;have hm:=jA zz bs a _ cs gs c w h hc;rw[hi]at hm;have call:=λ(w':World) (b:Below w w w')=>wu (zz.at_ i) (bs i) (a.br i) (a.F i) c j w' (h.ok i az) ((h.br i az).below b) hf hc hi hp;rw[hv]at call;obtain⟨pn,af⟩:=am (ia (bs i).list j);rw[<-af]at call ⊢;have HH:=fm h aq call;clear h hi hf hp hv aq call az af;go_enter Tryz.func13,Tryz.ntmps13;go_wp2_with fail;go_fit hm;clear hm;rintro e w1 ⟨rfl,b1⟩;have h1:=HH.out.1.below b1;have aE:=h1.aW;unfold bS at aE;have y5:=aE.cell 5;simp at y5;have yc:=h1.cur.cell c;simp[HH.out.2.1]at yc;have bA:(c:Int)<(zz.homes.length:Int):=by omega
 have cl:=HH.out.2.2 w1 b1;have HB:=di h1 b1;clear h1 b1 aE;go_wp2_with fail;go_fit cl;clear cl;rintro e w2 ⟨v,rfl,O,b2⟩;obtain⟨A,n,aZ,rfl,aL,aO⟩:=O.form;have aG:n=0:=aL.out;subst aG;have h2:=HB.out.1.below b2;have bq:=h2.aW;unfold bS at bq;have z5:=bq.cell 5;simp at z5;have zf:=h2.cur.free c;have zc:=h2.cur.cell c;simp[HH.out.2.1]at zc;have bo:=HB.out.2.trans (b2.mono HB.out.2.size);have H2:=di h2 bo;clear O aL h2 b2 bo bq y5 yc;go_wp2;go_ret2;refine⟨⟨A,aZ,rfl⟩,?_⟩;have t:aw (λb=>b=a.cb) w2 (w2.setCell ⟨a.cb,c,none⟩ (ag pn)):=⟨rfl,rfl,rfl,by simp,λb a7 aL=>Below.heap_setCell _ _ _ b aL⟩;have bc:c<cs.length:=by rw[HH.out.1.cl];exact hc
 have put:=H2.out.1.cur.put c (ag pn);have I:aw (λb=>b=a.cb\/b=a.gb) w2 (w2.setCell ⟨a.cb,c,none⟩ (ag pn)):=t.wide (λb _ e=>.inl e);refine⟨H2.out.1.vw I ?_ (by rw[List.length_set];exact HH.out.1.cl) (t.aW H2.out.1.got (λe=>pY HH.out.1 e.symm)) HH.out.1.gl,(aw.ao H2.out.2 _).trans I (λ_ _ e=>e)⟩;rw[List.map_set];simpa using put
end
end
theorem kl(zz:aM)(bs:Nat->aC)(a:WA)(cs:List Nat)(gs:Array Value)(n:Nat)(w:World)(h:bB w zz bs a (λ_=>[]) cs gs)(aL:n=zz.n)(hc:c7 zz 60 bs):
 Calls Tryz.prog 8 #[aj a.wb,ag n] w λe w'=>e=.returned (.bool true)/\∃a':WA,bB w' zz (bM zz 60 bs) a' (λ_=>[]) cs gs/\bR zz.n a w a' w':=by
 have ca:n<=6:=by rw[aL];exact h.n6.1
 have up:=λ(i:Nat) (hi:i<n)=>B6 zz bs a _ cs gs i w h (by omega);have HH:=fm h hc up;clear h aL hc up;go_enter Tryz.func8,Tryz.ntmps8;go_wp2
 go_loopw [5] (λv wr=>∃k:Nat,v=I af k/\k<=n/\Hid (wr=w)) (λv _=>n- (intOf v).toNat)
 case atStart=>exact⟨0,rfl,Nat.zero_le _,(rfl:w=w)⟩
 case round=>
  obtain⟨k,rfl,hk,cx⟩:=hrel;obtain rfl:=cx.out;by_cases bA:k<n
  ·have bE:(k:Int)<(n:Int):=(by omega);have up:=HH.out.2.2 k bA;go_wp2_with fail;go_fit up;clear up;rintro e w1 ⟨rfl,rfl⟩;go_wp2
   go_round
   case rel=>exact⟨k+1,by go_num,by omega,cx⟩
   case measure=>simp[intOf];omega
  ·obtain rfl:k=n:=(by omega);have bE:¬ ((k:Int)<(k:Int)):=(by omega);go_wp2
   go_loopw [6] (λv w1=>∃ (j:Nat) (bg:WA) (b1:Nat->aC),v=I af j/\j<=60/\bB w1 zz b1 bg (λ_=>[]) cs gs/\c7 zz (60-j) b1/\bM zz (60-j) b1=bM zz 60 bs/\bR zz.n a wr bg w1) (λv _=>60- (intOf v).toNat)
   case atStart=>exact⟨0,a,bs,rfl,by omega,HH.out.1,HH.out.2.1,rfl,bR.refl _ _ _⟩
   case round=>
    obtain⟨j,bg,b1,rfl,hj,h1,c1,e1,f1⟩:=hrel;by_cases hl:j<60
    ·have aa:(j:Int)<60:=(by omega);obtain⟨m,hm⟩:∃m,60-j=m+1:=⟨60-j-1,by omega⟩;rw[hm]at c1 e1;have rd:=td zz b1 bg cs gs _ h1 c1.1;rw[f1.bj.1]at rd;have HR:=dx c1.2 e1 f1 hm;clear h1 c1 e1 f1 hm;go_wp2_with fail;go_fit rd;clear rd;rintro e w2 ⟨⟨v,rfl⟩,a2,h2,f2⟩;go_wp2
     go_round
     case rel=>exact⟨j+1,a2,_,by go_num,by omega,h2,by rw[show 60- (j+1)=m by have:=HR.out.2.2.2;omega];exact HR.out.1,by rw[show 60- (j+1)=m by have:=HR.out.2.2.2;omega];exact HR.out.2.1,HR.out.2.2.1.trans f2⟩
     case measure=>simp[intOf];omega
    ·obtain rfl:j=60:=(by omega);go_wp2;go_ret;refine⟨rfl,bg,?_,f1⟩;rw[<-e1];exact h1
section
section
variable (zz:aM)(bs:Nat->aC)(a:WA)(Q:Nat->List Nt.cX)(cs:List Nat)(gs:Array Value)(i:Nat)(w:World)(h:bB w zz bs a Q cs gs)(hi:i<zz.n)
include h hi
theorem zu(hf:Fit (zz.at_ i) (bs i)):Calls Tryz.prog 15 #[aj a.wb,ag i] w λe w'=>(∃A c A2 aZ c2,e=.returned (bT 1 A (bs i).list.length c A2 aZ c2))/\aw (λ_=>False) w w':=by
 obtain⟨w0,ar⟩:=am (w.alloc (.cells (bp 0 aa aa) 49));have aI:ai w0 w 49 (bp 0 aa aa):=by rw[ar];exact ai.made _ _ _
 have aU:=aV ar;obtain⟨rb,bh⟩:=am w.heap.size;rw[<-bh]at aI;have bn:=Lib.hid bh;have h0:=h.below aU;have is:=wa zz bs a Q cs gs i w0 h0 hi;have st:=zJ (zz.at_ i) (bs i) (a.br i) (a.F i) w0 (h0.br i hi) hf;have lk:=fW h0 hi;have hB:=h0.aW;unfold bS at hB;have y4:=hB.cell 4;simp at y4;have HB:=Lib.hid aU;clear h h0 hi hf hB aU bh;go_enter Tryz.func15,Tryz.ntmps15;go_wp2_with fail;rw[<-ar]
 try rw[<-bn.out]
 clear ar;go_wp2_with fail;go_fit is;clear is;rintro e w1 ⟨rfl,rfl⟩;go_wp2_with fail;go_fit st;clear st;rintro e w2 ⟨A,c,A2,aZ,c2,rfl,b2⟩;have bN:=aI.below b2 aI.lt;have cj:=bN.free 0;have cf:=bN.free 1;have cd:=bN.free 2;have bW:=bN.free 3;obtain⟨r0,r1,bf,r3⟩:=bN.c4;simp at r0 r1 bf r3;have b0:=bN.put 0 (av 1) |>.put 1 (Y A (bs i).list.length c) |>.put 2 (Y A2 aZ c2) |>.put 3 aa;simp only[List.setIfInBounds_toArray,List.set_cons_zero,List.set_cons_succ]at b0;go_wp2_with fail
 try rw[Exit.noGoto_ret]
 refine bodyPost_ret (results_cell_row rfl _ _ rb 49 _ (0,0) _ rfl b0 Tryz.underlying49 rfl (by kernel_rfl)) rfl ?_;refine⟨⟨A,c,A2,aZ,c2,rfl⟩,?_⟩;have bo:=HB.out.trans (b2.mono HB.out.size);refine(aw.ao bo (λb=>b=rb)).trans (G:=λb=>b=rb) ?_ (λ_ _ e=>e) |>.wide (λb a7 e=>by have e:b=rb:=e;have:=bn.out;omega);refine⟨rfl,rfl,rfl,by simp,λb a7 aL=>?_⟩;rw[Below.heap_setCell _ _ _ b aL,Below.heap_setCell _ _ _ b aL,Below.heap_setCell _ _ _ b aL,Below.heap_setCell _ _ _ b aL]
end
end
end Go.Proofs.YtgblliofomgggaaGreat
